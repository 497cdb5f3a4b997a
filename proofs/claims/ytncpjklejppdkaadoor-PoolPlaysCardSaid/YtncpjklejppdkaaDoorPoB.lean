/-
  Round 17: the heap's methods, called through the interface.
  Conditions: none.
-/
import Derived.Test.YtncpjklejppdkaaDoorPoA
set_option linter.unusedSectionVars false
set_option maxRecDepth 100000
set_option linter.unusedVariables false
set_option linter.unusedSimpArgs false
namespace Go.Vx
open Go Go.Proofs
variable [Gl]

noncomputable def ti62 : TypeInfo := (Tryd.prog.info? 62).getD default
theorem ti62_is : Tryd.prog.info? 62 = some ti62 := by kernel_rfl
theorem un62 : Tryd.prog.underlying 62 = some (.pointer 54) := by kernel_rfl
noncomputable def me62 (s : String) := (ti62.methods.find? (·.name == s)).getD default

/-- A heap's chunks: the variable that holds the slice; the array. -/
def hp (bp q b base : Nat) (wr wa : Bool) (l : List Ent) (n c : Nat) : List (Ck C0) :=
  [⟨bp, q, 1, wr, none, .one [.sl 1 0 n c]⟩, ⟨b, base, 2, wa, none, .rows 60 l⟩]

theorem load_hp {S : Sx} {w0 w : World} {bp q b base : Nat} {wr wa : Bool} {l : List Ent} {n c : Nat} (hm : MemOK S w0 w (hp bp q b base wr wa l n c)) :
    (loadVar 54 ((ads (hp bp q b base wr wa l n c) 0).at 0 0)).run Tryd.prog w = .ok ((SV.sl 1 0 n c).va (ads (hp bp q b base wr wa l n c))) w := by
  have h : loadSV Tryd.prog (hp bp q b base wr wa l n c) 54 0 0 0 = some ([], .sl 1 0 n c) := rfl
  exact loadSV_ok hm h trivial

theorem lessM_ok (bp q b base : Nat) (l : List Ent) (n c : Nat) (i j : Int) (hi : 0 ≤ i) (hin : i < n) (hj : 0 ≤ j) (hjn : j < n) (hn : n ≤ l.length) :
    Tells (C := C0) Tryd.prog (.inv 62 "Less") (hp bp q b base false false l n c) [.ptr 0 0 0, .int .i64 i, .int .i64 j]
     (.bool (.tm (bef (l.getD i.toNat (0,0)) (l.getD j.toNat (0,0))))) := by
  refine loc_inv (f := 64) (recv := .sl 1 0 n c) Tryd.func64 rfl (by kernel_rfl) (fun w hm => ?_) ?_
  · exact method_val (mm := me62 "Less") ti62_is (by kernel_rfl) (by kernel_rfl) (by kernel_rfl) un62 (load_hp hm)
  refine loc_pc (P := Tryd.prog) (E := ⟨[], [pcBefore], 16, []⟩) (L := []) mix Tryd.func64 rfl (by kernel_rfl) (by kernel_rfl) rfl rfl ?_
  ((conv => (arg 1; reduce)); with_reducible repeat' (first | exact Tr.yes_h | refine Tr.and_h ?_ ?_ | refine Tr.imp_h fun _ => ?_ | refine Tr.all_h fun _ => ?_ | refine Tr.lf_h ?_))
  all_goals (first | first | (show Region.lexB _ _ = true; kernel_rfl) | (show planned _ _ = true; kernel_rfl) | exact rfl | exact True.intro | ((try dsimp only [imp, C0, cG, cInt2] at *); (try refine inR64 ?_ ?_) <;> (try simp only [List.length_set, List.length_append, List.length_take, List.length_drop]) <;> omega))

theorem swapM_ok (bp q b base : Nat) (l : List Ent) (n c : Nat) (i j : Int) (hi : 0 ≤ i) (hin : i < n) (hj : 0 ≤ j) (hjn : j < n) (hn : n ≤ l.length) :
    Does (C := C0) Tryd.prog (.inv 62 "Swap") (hp bp q b base false true l n c) [.ptr 0 0 0, .int .i64 i, .int .i64 j]
     [⟨Unit, fun _ => True, fun _ => .tup [], fun _ => hp bp q b base false true (swp l i.toNat j.toNat) n c⟩] := by
  refine loc_inv (f := 65) (recv := .sl 1 0 n c) Tryd.func65 rfl (by kernel_rfl) (fun w hm => ?_) ?_
  · exact method_val (mm := me62 "Swap") ti62_is (by kernel_rfl) (by kernel_rfl) (by kernel_rfl) un62 (load_hp hm)
  refine loc_fn (P := Tryd.prog) (E := ⟨[], [pcBefore], 20, [(0, [], [.p 0, .p 1, .p 2, .p 3, .p 4, .p 5, .p 6, .p 8, .p 9, .p 10, .q 7, .q 11, .p 12, .e 13, .p 14, .e 15])]⟩) (L := []) mix Tryd.func65 rfl (by kernel_rfl) (by kernel_rfl) rfl rfl ?_
  ((conv => (arg 1; reduce)); with_reducible repeat' (first | exact Tr.yes_h | refine Tr.and_h ?_ ?_ | refine Tr.imp_h fun _ => ?_ | refine Tr.all_h fun _ => ?_ | refine Tr.lf_h ?_))
  all_goals try (first | first | (show Region.lexB _ _ = true; kernel_rfl) | (show planned _ _ = true; kernel_rfl) | exact rfl | exact True.intro | ((try dsimp only [imp, C0, cG, cInt2] at *); (try refine inR64 ?_ ?_) <;> (try simp only [List.length_set, List.length_append, List.length_take, List.length_drop]) <;> omega))
  refine Ends.one () trivial ?_
  ((conv => (arg 1; reduce)); with_reducible repeat' (first | exact Tr.yes_h | refine Tr.and_h ?_ ?_ | refine Tr.imp_h fun _ => ?_ | refine Tr.all_h fun _ => ?_ | refine Tr.lf_h ?_))
  all_goals (first | first | (show Region.lexB _ _ = true; kernel_rfl) | (show planned _ _ = true; kernel_rfl) | exact rfl | exact True.intro | ((try dsimp only [imp, C0, cG, cInt2] at *); (try refine inR64 ?_ ?_) <;> (try simp only [List.length_set, List.length_append, List.length_take, List.length_drop]) <;> omega))

theorem lenM_ok (bp q b base : Nat) (l : List Ent) (n c : Nat) :
    Tells (C := C0) Tryd.prog (.inv 62 "Len") (hp bp q b base false false l n c) [.ptr 0 0 0] (.int .i64 n) := by
  refine loc_inv (f := 63) (recv := .sl 1 0 n c) Tryd.func63 rfl (by kernel_rfl) (fun w hm => ?_) ?_
  · exact method_val (mm := me62 "Len") ti62_is (by kernel_rfl) (by kernel_rfl) (by kernel_rfl) un62 (load_hp hm)
  refine loc_pc (P := Tryd.prog) (E := ⟨[], [], 5, []⟩) (L := []) mix Tryd.func63 rfl (by kernel_rfl) (by kernel_rfl) rfl rfl ?_
  ((conv => (arg 1; reduce)); with_reducible repeat' (first | exact Tr.yes_h | refine Tr.and_h ?_ ?_ | refine Tr.imp_h fun _ => ?_ | refine Tr.all_h fun _ => ?_ | refine Tr.lf_h ?_))
  all_goals (first | first | (show Region.lexB _ _ = true; kernel_rfl) | (show planned _ _ = true; kernel_rfl) | exact rfl | exact True.intro | ((try dsimp only [imp, C0, cG, cInt2] at *); (try refine inR64 ?_ ?_) <;> (try simp only [List.length_set, List.length_append, List.length_take, List.length_drop]) <;> omega))

/-- What a heap is named by. -/
structure Hx where
  bp : Nat
  q : Nat
  b : Nat
  base : Nat
  l : List Ent
  n : Nat
  c : Nat
/-- Read off: the heap that a pointer leads to. -/
def matH (p : SV) (m : List (Ck C0)) : Option (Hx × List Nat) :=
  match p with
  | .ptr k _ _ => match nth m k with
    | ⟨bp, q, _, _, _, .one [.sl a _ n c]⟩ => match nth m a with
      | ⟨b, base, _, _, _, .rows 60 l⟩ => some (⟨bp, q, b, base, l, n, c⟩, [k, a])
      | _ => none
    | _ => none
  | _ => none

noncomputable def pcLess : Pc Tryd.prog C0 where
  tg := .inv 62 "Less"
  X := Hx × Int × Int
  args := fun (_, i, j) => [.ptr 0 0 0, .int .i64 i, .int .i64 j]
  mem := fun (⟨bp, q, b, base, l, n, c⟩, _, _) => hp bp q b base false false l n c
  pre := fun (⟨_, _, _, _, l, n, _⟩, i, j) => 0 ≤ i ∧ i < n ∧ 0 ≤ j ∧ j < n ∧ n ≤ l.length
  res := fun (⟨_, _, _, _, l, _, _⟩, i, j) => .bool (.tm (bef (l.getD i.toNat (0,0)) (l.getD j.toNat (0,0))))
  mat vs m := match vs with
    | [p, .int _ i, .int _ j] => (matH p m).map fun (h, r) => ((h, i, j), r)
    | _ => none
  ok := fun (⟨_, _, _, _, _, _, _⟩, _, _) h => lessM_ok _ _ _ _ _ _ _ _ _ h.1 h.2.1 h.2.2.1 h.2.2.2.1 h.2.2.2.2

noncomputable def fcSwap : Fc Tryd.prog C0 where
  tg := .inv 62 "Swap"
  X := Hx × Int × Int
  args := fun (_, i, j) => [.ptr 0 0 0, .int .i64 i, .int .i64 j]
  mem := fun (⟨bp, q, b, base, l, n, c⟩, _, _) => hp bp q b base false true l n c
  pre := fun (⟨_, _, _, _, l, n, _⟩, i, j) => 0 ≤ i ∧ i < n ∧ 0 ≤ j ∧ j < n ∧ n ≤ l.length
  alts := fun (⟨bp, q, b, base, l, n, c⟩, i, j) => [⟨Unit, fun _ => True, fun _ => .tup [], fun _ => hp bp q b base false true (swp l i.toNat j.toNat) n c⟩]
  mat vs m := match vs with
    | [p, .int _ i, .int _ j] => (matH p m).map fun (h, r) => ((h, i, j), r)
    | _ => none
  ok := fun (⟨_, _, _, _, _, _, _⟩, _, _) h => swapM_ok _ _ _ _ _ _ _ _ _ h.1 h.2.1 h.2.2.1 h.2.2.2.1 h.2.2.2.2

noncomputable def pcLen : Pc Tryd.prog C0 where
  tg := .inv 62 "Len"
  X := Hx
  args _ := [.ptr 0 0 0]
  mem := fun ⟨bp, q, b, base, l, n, c⟩ => hp bp q b base false false l n c
  pre _ := True
  res := fun ⟨_, _, _, _, _, n, _⟩ => .int .i64 n
  mat vs m := match vs with
    | [p] => matH p m
    | _ => none
  ok := fun ⟨_, _, _, _, _, _, _⟩ _ => lenM_ok _ _ _ _ _ _ _
end Go.Vx
