/-
  Round 17: New, Len, Take.
  Conditions: none.
-/
import Derived.Test.YtncpjklejppdkaaDoorPoG
set_option linter.unusedSectionVars false
set_option maxRecDepth 100000
set_option linter.unusedVariables false
set_option linter.unusedSimpArgs false
namespace Go.Vx
open Go Go.Proofs
variable [Gl]

theorem new_ok : Does (C := C0) Tryd.prog (.fn 7) [] [] [⟨Nat, fun _ => True, fun _ => .ptr 0 0 0, fun y => [⟨y, 0, 1, true, none, .one [.nils]⟩]⟩] := by
  refine loc_fn (P := Tryd.prog) (E := ⟨[], [], 3, []⟩) (L := []) mix Tryd.func7 rfl (by kernel_rfl) (by kernel_rfl) rfl rfl ?_
  ((conv => (arg 1; reduce)); with_reducible repeat' (first | exact Tr.yes_h | refine Tr.and_h ?_ ?_ | refine Tr.imp_h fun _ => ?_ | refine Tr.all_h fun _ => ?_ | refine Tr.lf_h ?_))
  all_goals try first | (show Region.lexB _ _ = true; kernel_rfl) | (show planned _ _ = true; kernel_rfl) | exact rfl | exact True.intro
  · rename_i bx
    refine Ends.one bx trivial ?_
    ((conv => (arg 1; reduce)); with_reducible repeat' (first | exact Tr.yes_h | refine Tr.and_h ?_ ?_ | refine Tr.imp_h fun _ => ?_ | refine Tr.all_h fun _ => ?_ | refine Tr.lf_h ?_))
    all_goals (first | first | (show Region.lexB _ _ = true; kernel_rfl) | (show planned _ _ = true; kernel_rfl) | exact rfl | exact True.intro | ((try dsimp only [imp, C0, cG, cInt2] at *); (try refine inR64 ?_ ?_) <;> (try simp only [List.length_set, List.length_append, List.length_take, List.length_drop]) <;> omega))
noncomputable def fcNew : Fc Tryd.prog C0 where
  tg := .fn 7
  X := Unit
  args := fun _ => []
  mem := fun _ => []
  pre _ := True
  alts := fun _ => [⟨Nat, fun _ => True, fun _ => .ptr 0 0 0, fun y => [⟨y, 0, 1, true, none, .one [.nils]⟩]⟩]
  mat vs m := some ((), [])
  ok := fun _ _ => new_ok

theorem len_ok (bp q b base : Nat) (l : List Ent) (n c : Nat) :
    Tells (C := C0) Tryd.prog (.fn 11) (hp bp q b base false false l n c) [.ptr 0 0 0] (.int .i64 n) := by
  refine loc_pc (P := Tryd.prog) (E := ⟨[], [], 8, []⟩) (L := []) mix Tryd.func11 rfl (by kernel_rfl) (by kernel_rfl) rfl rfl ?_
  ((conv => (arg 1; reduce)); with_reducible repeat' (first | exact Tr.yes_h | refine Tr.and_h ?_ ?_ | refine Tr.imp_h fun _ => ?_ | refine Tr.all_h fun _ => ?_ | refine Tr.lf_h ?_))
  all_goals (first | first | (show Region.lexB _ _ = true; kernel_rfl) | (show planned _ _ = true; kernel_rfl) | exact rfl | exact True.intro | ((try dsimp only [imp, C0, cG, cInt2] at *); (try refine inR64 ?_ ?_) <;> (try simp only [List.length_set, List.length_append, List.length_take, List.length_drop]) <;> omega))
theorem len_nil (bp q : Nat) :
    Tells (C := C0) Tryd.prog (.fn 11) [⟨bp, q, 1, false, none, .one [.nils]⟩] [.ptr 0 0 0] (.int .i64 0) := by
  refine loc_pc (P := Tryd.prog) (E := ⟨[], [], 8, []⟩) (L := []) mix Tryd.func11 rfl (by kernel_rfl) (by kernel_rfl) rfl rfl ?_
  ((conv => (arg 1; reduce)); with_reducible repeat' (first | exact Tr.yes_h | refine Tr.and_h ?_ ?_ | refine Tr.imp_h fun _ => ?_ | refine Tr.all_h fun _ => ?_ | refine Tr.lf_h ?_))
  all_goals (first | first | (show Region.lexB _ _ = true; kernel_rfl) | (show planned _ _ = true; kernel_rfl) | exact rfl | exact True.intro | ((try dsimp only [imp, C0, cG, cInt2] at *); (try refine inR64 ?_ ?_) <;> (try simp only [List.length_set, List.length_append, List.length_take, List.length_drop]) <;> omega))
noncomputable def pcPlen : Pc Tryd.prog C0 where
  tg := .fn 11
  X := Hx
  args := fun _ => [.ptr 0 0 0]
  mem := fun ⟨bp, q, b, base, l, n, c⟩ => hp bp q b base false false l n c
  pre := fun _ => True
  res := fun ⟨_, _, _, _, l, n, _⟩ => .int .i64 n
  mat vs m := match vs with
    | [p] => matH p m
    | _ => none
  ok := fun ⟨_, _, _, _, _, _, _⟩ _ => len_ok _ _ _ _ _ _ _
noncomputable def pcPlen0 : Pc Tryd.prog C0 where
  tg := .fn 11
  X := Nat × Nat
  args := fun _ => [.ptr 0 0 0]
  mem := fun (bp, q) => [⟨bp, q, 1, false, none, .one [.nils]⟩]
  pre := fun _ => True
  res := fun _ => .int .i64 0
  mat vs m := match vs with
    | [p] => matN p m
    | _ => none
  ok := fun (_, _) _ => len_nil _ _

/-- One is taken, at i, or none is there. -/
abbrev takePost (R : List Ent → Nat → Ent → Prop) (l : List Ent) (n c : Nat) (y : List Ent × Int × Bool) : Prop :=
  (y.2.2 = true ∧ 0 < n ∧ HOK y.1 (n - 1) c ∧ ∃ e : Ent, R l n e ∧ y.2.1 = e.1 ∧ (l.take n).Perm (e :: y.1.take (n - 1))) ∨ (y.2.2 = false ∧ n = 0 ∧ y.2.1 = 0 ∧ y.1 = l)
/-- It comes ahead of all others. -/
def First (l : List Ent) (n : Nat) (e : Ent) : Prop := ∀ k, k < n → bef (at_ l k) e = false

theorem take_ok (bp q b base : Nat) (l : List Ent) (n c : Nat) (h : HOK l n c) (hb : n < 1048576) :
    Does (C := C0) Tryd.prog (.fn 9) (hp bp q b base true true l n c) [.ptr 0 0 0]
     [⟨List Ent × Int × Bool, takePost First l n c, fun y => .tup [.int .i64 y.2.1, .bool (.tm y.2.2)], fun y => hp bp q b base true true y.1 (n - 1) c⟩] := by
  refine loc_fn (P := Tryd.prog) (E := ⟨[fcPop], [], 17, []⟩) (L := []) mix Tryd.func9 rfl (by kernel_rfl) (by kernel_rfl) rfl rfl ?_
  ((conv => (arg 1; reduce)); with_reducible repeat' (first | exact Tr.yes_h | refine Tr.and_h ?_ ?_ | refine Tr.imp_h fun _ => ?_ | refine Tr.all_h fun _ => ?_ | refine Tr.lf_h ?_))
  all_goals try first | (show Region.lexB _ _ = true; kernel_rfl) | (show planned _ _ = true; kernel_rfl) | exact rfl | exact True.intro
  · rename_i hc
    have h0 := of_decide_eq_true hc
    have h0 : n = 0 := by omega
    subst h0
    refine Ends.one (l, 0, false) (.inr ⟨rfl, rfl, rfl, rfl⟩) ?_
    ((conv => (arg 1; reduce)); with_reducible repeat' (first | exact Tr.yes_h | refine Tr.and_h ?_ ?_ | refine Tr.imp_h fun _ => ?_ | refine Tr.all_h fun _ => ?_ | refine Tr.lf_h ?_))
    all_goals (first | first | (show Region.lexB _ _ = true; kernel_rfl) | (show planned _ _ = true; kernel_rfl) | exact rfl | exact True.intro | ((try dsimp only [imp, C0, cG, cInt2] at *); (try refine inR64 ?_ ?_) <;> (try simp only [List.length_set, List.length_append, List.length_take, List.length_drop]) <;> omega))
  · rename_i hc
    have h0 := of_decide_eq_false hc
    omega
  · rename_i hc
    have h0 := of_decide_eq_false hc
    show HOK l (n - 1 + 1) c ∧ n - 1 < 1048576
    rw [show n - 1 + 1 = n by omega]
    exact ⟨h, by omega⟩
  · rename_i hc l' hl'
    have h0 := of_decide_eq_false hc
    obtain ⟨g1, g2, g3⟩ := hl'
    rw [show n - 1 + 1 = n by omega] at g3
    refine Ends.one (l', (at_ l' (n - 1)).1, true) (.inl ⟨rfl, by omega, g1, at_ l 0, heap_first h.heap, congrArg Prod.fst g2, g3⟩) ?_
    ((conv => (arg 1; reduce)); with_reducible repeat' (first | exact Tr.yes_h | refine Tr.and_h ?_ ?_ | refine Tr.imp_h fun _ => ?_ | refine Tr.all_h fun _ => ?_ | refine Tr.lf_h ?_))
    all_goals (first | first | (show Region.lexB _ _ = true; kernel_rfl) | (show planned _ _ = true; kernel_rfl) | exact rfl | exact True.intro | ((try dsimp only [imp, C0, cG, cInt2] at *); (try refine inR64 ?_ ?_) <;> (try simp only [List.length_set, List.length_append, List.length_take, List.length_drop]) <;> omega))
theorem take_nil (bp q : Nat) :
    Does (C := C0) Tryd.prog (.fn 9) [⟨bp, q, 1, true, none, .one [.nils]⟩] [.ptr 0 0 0]
     [⟨Unit, fun _ => True, fun y => .tup [.int .i64 0, .bool .f], fun y => [⟨bp, q, 1, true, none, .one [.nils]⟩]⟩] := by
  refine loc_fn (P := Tryd.prog) (E := ⟨[fcPop], [], 17, []⟩) (L := []) mix Tryd.func9 rfl (by kernel_rfl) (by kernel_rfl) rfl rfl ?_
  ((conv => (arg 1; reduce)); with_reducible repeat' (first | exact Tr.yes_h | refine Tr.and_h ?_ ?_ | refine Tr.imp_h fun _ => ?_ | refine Tr.all_h fun _ => ?_ | refine Tr.lf_h ?_))
  all_goals try first | (show Region.lexB _ _ = true; kernel_rfl) | (show planned _ _ = true; kernel_rfl) | exact rfl | exact True.intro
  · refine Ends.one () trivial ?_
    ((conv => (arg 1; reduce)); with_reducible repeat' (first | exact Tr.yes_h | refine Tr.and_h ?_ ?_ | refine Tr.imp_h fun _ => ?_ | refine Tr.all_h fun _ => ?_ | refine Tr.lf_h ?_))
    all_goals (first | first | (show Region.lexB _ _ = true; kernel_rfl) | (show planned _ _ = true; kernel_rfl) | exact rfl | exact True.intro | ((try dsimp only [imp, C0, cG, cInt2] at *); (try refine inR64 ?_ ?_) <;> (try simp only [List.length_set, List.length_append, List.length_take, List.length_drop]) <;> omega))
  · rename_i hc
    exact absurd hc (by decide)
noncomputable def fcTake : Fc Tryd.prog C0 where
  tg := .fn 9
  X := Hx
  args := fun _ => [.ptr 0 0 0]
  mem := fun ⟨bp, q, b, base, l, n, c⟩ => hp bp q b base true true l n c
  pre := fun ⟨_, _, _, _, l, n, c⟩ => HOK l n c ∧ n < 1048576
  alts := fun ⟨bp, q, b, base, l, n, c⟩ => [⟨List Ent × Int × Bool, takePost First l n c, fun y => .tup [.int .i64 y.2.1, .bool (.tm y.2.2)], fun y => hp bp q b base true true y.1 (n - 1) c⟩]
  mat vs m := match vs with
    | [p] => matH p m
    | _ => none
  ok := fun ⟨_, _, _, _, _, _, _⟩ h => take_ok _ _ _ _ _ _ _ h.1 h.2
noncomputable def fcTake0 : Fc Tryd.prog C0 where
  tg := .fn 9
  X := Nat × Nat
  args := fun _ => [.ptr 0 0 0]
  mem := fun (bp, q) => [⟨bp, q, 1, true, none, .one [.nils]⟩]
  pre := fun _ => True
  alts := fun (bp, q) => [⟨Unit, fun _ => True, fun y => .tup [.int .i64 0, .bool .f], fun y => [⟨bp, q, 1, true, none, .one [.nils]⟩]⟩]
  mat vs m := match vs with
    | [p] => matN p m
    | _ => none
  ok := fun (_, _) h => take_nil _ _
end Go.Vx
