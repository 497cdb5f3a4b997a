/-
  Round 21: the queue's methods, called through the interface.
  Conditions: none.
-/
import Derived.Test.YtoiiehjnfdhciaaViA
set_option maxRecDepth 100000
set_option linter.unusedVariables false
set_option linter.unusedSimpArgs false
namespace Go.Vi
open Go Go.Vx Go.Proofs

noncomputable def ti47 : TypeInfo := (Try.prog.info? 47).getD default
theorem ti47_is : Try.prog.info? 47 = some ti47 := by kernel_rfl
theorem un47 : Try.prog.underlying 47 = some (.pointer 55) := by kernel_rfl
noncomputable def me47 (s : String) := (ti47.methods.find? (·.name == s)).getD default
abbrev d0 : Itm := ((0, 0, 0, false), 0)
abbrev at_ (l : List Itm) (k : Nat) : Itm := Hg.at_ d0 l k
abbrev swp (l : List Itm) (i j : Nat) : List Itm := Hg.swp d0 l i j

/-- A queue's chunks: the variable with the slice and the comparison; the array. -/
def qp (bp q b base : Nat) (wr wa : Bool) (l : List Itm) (n c : Nat) : List (Ck C1) :=
  [⟨bp, q, 2, wr, none, .one [.sl 1 0 n c, lsSV]⟩, ⟨b, base, 5, wa, none, .rows 57 l⟩]

theorem lessM_ok (bp q b base : Nat) (l : List Itm) (n c : Nat) (i j : Int) (hi : 0 ≤ i) (hin : i < n) (hj : 0 ≤ j) (hjn : j < n) (hn : n ≤ l.length) :
    Tells (C := C1) Try.prog (.inv 47 "Less") (qp bp q b base false false l n c) [.ptr 0 0 0, .int .i64 i, .int .i64 j] (.bool (.tm (lessI (at_ l i.toNat) (at_ l j.toNat)))) := by
  refine loc_inv (f := 57) (recv := .ptr 0 0 0) Try.func57 rfl (by kernel_rfl) (fun w hm => ?_) ?_
  · exact method_ptr (mm := me47 "Less") ti47_is (by kernel_rfl) (by kernel_rfl) (by kernel_rfl) un47 _ _
  refine loc_pc (P := Try.prog) (E := ⟨[], [pcLs], 26, []⟩) (L := []) mix Try.func57 rfl (by kernel_rfl) (by kernel_rfl) rfl rfl ?_
  ((conv => (arg 1; reduce)); with_reducible repeat' (first | exact Tr.yes_h | refine Tr.and_h ?_ ?_ | refine Tr.imp_h fun _ => ?_ | refine Tr.all_h fun _ => ?_ | refine Tr.lf_h ?_))
  all_goals (first | first | (show Region.lexB _ _ = true; kernel_rfl) | (show planned _ _ = true; kernel_rfl) | exact rfl | exact True.intro | ((try dsimp only [imp, C1, cBlk, cItm] at *); (try refine inR64 ?_ ?_) <;> (try simp only [List.length_set, List.length_append, List.length_take, List.length_drop]) <;> omega))
theorem swapM_ok (bp q b base : Nat) (l : List Itm) (n c : Nat) (i j : Int) (hi : 0 ≤ i) (hin : i < n) (hj : 0 ≤ j) (hjn : j < n) (hn : n ≤ l.length) :
    Does (C := C1) Try.prog (.inv 47 "Swap") (qp bp q b base false true l n c) [.ptr 0 0 0, .int .i64 i, .int .i64 j]
     [⟨Unit, fun _ => True, fun _ => .tup [], fun _ => qp bp q b base false true (swp l i.toNat j.toNat) n c⟩] := by
  refine loc_inv (f := 59) (recv := .ptr 0 0 0) Try.func59 rfl (by kernel_rfl) (fun w hm => ?_) ?_
  · exact method_ptr (mm := me47 "Swap") ti47_is (by kernel_rfl) (by kernel_rfl) (by kernel_rfl) un47 _ _
  refine loc_fn (P := Try.prog) (E := ⟨[], [], 32, [(0, [0], [.p 0, .p 1, .p 2, .p 4, .p 5, .p 6, .p 7, .p 9, .p 10, .p 11, .p 12, .p 14, .p 17, .p 18, .p 19, .p 21, .q 3, .q 8, .q 13, .p 15, .q 16, .q 20, .p 22, .q 23, .p 24, .e 25, .p 26, .e 27])]⟩) (L := []) mix Try.func59 rfl (by kernel_rfl) (by kernel_rfl) rfl rfl ?_
  ((conv => (arg 1; reduce)); with_reducible repeat' (first | exact Tr.yes_h | refine Tr.and_h ?_ ?_ | refine Tr.imp_h fun _ => ?_ | refine Tr.all_h fun _ => ?_ | refine Tr.lf_h ?_))
  all_goals try (first | first | (show Region.lexB _ _ = true; kernel_rfl) | (show planned _ _ = true; kernel_rfl) | exact rfl | exact True.intro | ((try dsimp only [imp, C1, cBlk, cItm] at *); (try refine inR64 ?_ ?_) <;> (try simp only [List.length_set, List.length_append, List.length_take, List.length_drop]) <;> omega))
  refine Ends.one () trivial ?_
  ((conv => (arg 1; reduce)); with_reducible repeat' (first | exact Tr.yes_h | refine Tr.and_h ?_ ?_ | refine Tr.imp_h fun _ => ?_ | refine Tr.all_h fun _ => ?_ | refine Tr.lf_h ?_))
  all_goals (first | first | (show Region.lexB _ _ = true; kernel_rfl) | (show planned _ _ = true; kernel_rfl) | exact rfl | exact True.intro | ((try dsimp only [imp, C1, cBlk, cItm] at *); (try refine inR64 ?_ ?_) <;> (try simp only [List.length_set, List.length_append, List.length_take, List.length_drop]) <;> omega))
theorem lenF_ok (bp q b base : Nat) (l : List Itm) (n c : Nat) :
    Tells (C := C1) Try.prog (.fn 23) (qp bp q b base false false l n c) [.ptr 0 0 0] (.int .i64 n) := by
  refine loc_pc (P := Try.prog) (E := ⟨[], [], 8, []⟩) (L := []) mix Try.func23 rfl (by kernel_rfl) (by kernel_rfl) rfl rfl ?_
  ((conv => (arg 1; reduce)); with_reducible repeat' (first | exact Tr.yes_h | refine Tr.and_h ?_ ?_ | refine Tr.imp_h fun _ => ?_ | refine Tr.all_h fun _ => ?_ | refine Tr.lf_h ?_))
  all_goals (first | first | (show Region.lexB _ _ = true; kernel_rfl) | (show planned _ _ = true; kernel_rfl) | exact rfl | exact True.intro | ((try dsimp only [imp, C1, cBlk, cItm] at *); (try refine inR64 ?_ ?_) <;> (try simp only [List.length_set, List.length_append, List.length_take, List.length_drop]) <;> omega))
theorem lenM_ok (bp q b base : Nat) (l : List Itm) (n c : Nat) :
    Tells (C := C1) Try.prog (.inv 47 "Len") (qp bp q b base false false l n c) [.ptr 0 0 0] (.int .i64 n) := by
  refine loc_inv (f := 23) (recv := .ptr 0 0 0) Try.func23 rfl (by kernel_rfl) (fun w hm => ?_) (lenF_ok _ _ _ _ _ _ _)
  exact method_ptr (mm := me47 "Len") ti47_is (by kernel_rfl) (by kernel_rfl) (by kernel_rfl) un47 _ _
theorem popM_ok (bp q b base : Nat) (l : List Itm) (n c : Nat) (h0 : 0 < n) (hn : n ≤ l.length) (hc : n ≤ c) (hb : n < 4611686018427387904) :
    Does (C := C1) Try.prog (.inv 47 "Pop") (qp bp q b base true false l n c) [.ptr 0 0 0]
     [⟨Unit, fun _ => True, fun _ => .ifc 57 (iSV (at_ l ((n : Int) - 1).toNat)), fun _ => qp bp q b base true false l ((n : Int) - 1).toNat c⟩] := by
  refine loc_inv (f := 58) (recv := .ptr 0 0 0) Try.func58 rfl (by kernel_rfl) (fun w hm => ?_) ?_
  · exact method_ptr (mm := me47 "Pop") ti47_is (by kernel_rfl) (by kernel_rfl) (by kernel_rfl) un47 _ _
  refine loc_fn (P := Try.prog) (E := ⟨[], [], 29, []⟩) (L := []) mix Try.func58 rfl (by kernel_rfl) (by kernel_rfl) rfl rfl ?_
  ((conv => (arg 1; reduce)); with_reducible repeat' (first | exact Tr.yes_h | refine Tr.and_h ?_ ?_ | refine Tr.imp_h fun _ => ?_ | refine Tr.all_h fun _ => ?_ | refine Tr.lf_h ?_))
  all_goals try (first | first | (show Region.lexB _ _ = true; kernel_rfl) | (show planned _ _ = true; kernel_rfl) | exact rfl | exact True.intro | ((try dsimp only [imp, C1, cBlk, cItm] at *); (try refine inR64 ?_ ?_) <;> (try simp only [List.length_set, List.length_append, List.length_take, List.length_drop]) <;> omega))
  refine Ends.one () trivial ?_
  ((conv => (arg 1; reduce)); with_reducible repeat' (first | exact Tr.yes_h | refine Tr.and_h ?_ ?_ | refine Tr.imp_h fun _ => ?_ | refine Tr.all_h fun _ => ?_ | refine Tr.lf_h ?_))
  all_goals (first | first | (show Region.lexB _ _ = true; kernel_rfl) | (show planned _ _ = true; kernel_rfl) | exact rfl | exact True.intro | ((try dsimp only [imp, C1, cBlk, cItm] at *); (try refine inR64 ?_ ?_) <;> (try simp only [List.length_set, List.length_append, List.length_take, List.length_drop]) <;> omega))

/-- What a queue is named by. -/
structure Qx where
  bp : Nat
  q : Nat
  b : Nat
  base : Nat
  l : List Itm
  n : Nat
  c : Nat
def matQ (p : SV) (m : List (Ck C1)) : Option (Qx × List Nat) :=
  match p with
  | .ptr k _ _ => match nth m k with
    | ⟨bp, q, _, _, _, .one [.sl a _ n c, _]⟩ => match nth m a with
      | ⟨b, base, _, _, _, .rows 57 l⟩ => some (⟨bp, q, b, base, l, n, c⟩, [k, a])
      | _ => none
    | _ => none
  | _ => none
noncomputable def pcLess : Pc Try.prog C1 where
  tg := .inv 47 "Less"
  X := Qx × Int × Int
  args := fun (_, i, j) => [.ptr 0 0 0, .int .i64 i, .int .i64 j]
  mem := fun (⟨bp, q, b, base, l, n, c⟩, _, _) => qp bp q b base false false l n c
  pre := fun (⟨_, _, _, _, l, n, _⟩, i, j) => 0 ≤ i ∧ i < n ∧ 0 ≤ j ∧ j < n ∧ n ≤ l.length
  res := fun (⟨_, _, _, _, l, _, _⟩, i, j) => .bool (.tm (lessI (at_ l i.toNat) (at_ l j.toNat)))
  mat vs m := match vs with
    | [p, .int _ i, .int _ j] => (matQ p m).map fun (h, r) => ((h, i, j), r)
    | _ => none
  ok := fun (⟨_, _, _, _, _, _, _⟩, _, _) h => lessM_ok _ _ _ _ _ _ _ _ _ h.1 h.2.1 h.2.2.1 h.2.2.2.1 h.2.2.2.2
noncomputable def fcSwap : Fc Try.prog C1 where
  tg := .inv 47 "Swap"
  X := Qx × Int × Int
  args := fun (_, i, j) => [.ptr 0 0 0, .int .i64 i, .int .i64 j]
  mem := fun (⟨bp, q, b, base, l, n, c⟩, _, _) => qp bp q b base false true l n c
  pre := fun (⟨_, _, _, _, l, n, _⟩, i, j) => 0 ≤ i ∧ i < n ∧ 0 ≤ j ∧ j < n ∧ n ≤ l.length
  alts := fun (⟨bp, q, b, base, l, n, c⟩, i, j) => [⟨Unit, fun _ => True, fun _ => .tup [], fun _ => qp bp q b base false true (swp l i.toNat j.toNat) n c⟩]
  mat vs m := match vs with
    | [p, .int _ i, .int _ j] => (matQ p m).map fun (h, r) => ((h, i, j), r)
    | _ => none
  ok := fun (⟨_, _, _, _, _, _, _⟩, _, _) h => swapM_ok _ _ _ _ _ _ _ _ _ h.1 h.2.1 h.2.2.1 h.2.2.2.1 h.2.2.2.2
noncomputable def pcLen : Pc Try.prog C1 where
  tg := .inv 47 "Len"
  X := Qx
  args _ := [.ptr 0 0 0]
  mem := fun ⟨bp, q, b, base, l, n, c⟩ => qp bp q b base false false l n c
  pre _ := True
  res := fun ⟨_, _, _, _, _, n, _⟩ => .int .i64 n
  mat vs m := match vs with
    | [p] => matQ p m
    | _ => none
  ok := fun ⟨_, _, _, _, _, _, _⟩ _ => lenM_ok _ _ _ _ _ _ _
noncomputable def pcLenF : Pc Try.prog C1 := { pcLen with
  tg := .fn 23
  ok := fun ⟨_, _, _, _, _, _, _⟩ _ => lenF_ok _ _ _ _ _ _ _ }
noncomputable def fcPopM : Fc Try.prog C1 where
  tg := .inv 47 "Pop"
  X := Qx
  args := fun _ => [.ptr 0 0 0]
  mem := fun ⟨bp, q, b, base, l, n, c⟩ => qp bp q b base true false l n c
  pre := fun ⟨_, _, _, _, l, n, c⟩ => 0 < n ∧ n ≤ l.length ∧ n ≤ c ∧ n < 4611686018427387904
  alts := fun ⟨bp, q, b, base, l, n, c⟩ => [⟨Unit, fun _ => True, fun _ => .ifc 57 (iSV (at_ l ((n : Int) - 1).toNat)), fun _ => qp bp q b base true false l ((n : Int) - 1).toNat c⟩]
  mat vs m := match vs with
    | [p] => matQ p m
    | _ => none
  ok := fun ⟨_, _, _, _, _, _, _⟩ h => popM_ok _ _ _ _ _ _ _ h.1 h.2.1 h.2.2.1 h.2.2.2
end Go.Vi
