/-
  Round 21: the reference's comparisons.
  Conditions: none.
-/
import Derived.Test.YtoiiehjnfdhciaaViM
set_option maxRecDepth 100000
set_option linter.unusedVariables false
set_option linter.unusedSimpArgs false
namespace Go.Vi
open Go Go.Vx Go.Proofs

/-- Alike in all fields. -/
def sm (a b : Blk) : Bool := decide (a.1 = b.1) && decide (a.2.1 = b.2.1) && decide (a.2.2.1 = b.2.2.1) && (a.2.2.2 == b.2.2.2)
theorem sm_iff {a b : Blk} : sm a b = true ↔ a = b := by
  obtain ⟨a1, a2, a3, a4⟩ := a
  obtain ⟨b1, b2, b3, b4⟩ := b
  simp [sm, and_assoc]
theorem same_ok (a b : Blk) : Tells (C := C1) Try.prog (.fn 13) [] [bSV a, bSV b] (.bool (.tm (sm a b))) := by
  refine loc_pc (P := Try.prog) (E := ⟨[], [], 31, []⟩) (L := []) mix Try.func13 rfl (by kernel_rfl) (by kernel_rfl) rfl rfl ?_
  ((conv => (arg 1; reduce)); with_reducible repeat' (first | exact Tr.yes_h | refine Tr.and_h ?_ ?_ | refine Tr.imp_h fun _ => ?_ | refine Tr.all_h fun _ => ?_ | refine Tr.lf_h ?_))
  all_goals try first | (show Region.lexB _ _ = true; kernel_rfl) | (show planned _ _ = true; kernel_rfl) | exact rfl | exact True.intro
noncomputable def pcSame : Pc Try.prog C1 where
  tg := .fn 13
  X := Blk × Blk
  args := fun (a, b) => [bSV a, bSV b]
  mem := fun _ => []
  pre _ := True
  res := fun (a, b) => .bool (.tm (sm a b))
  mat vs m := match vs with
    | [v, u] => match unB v, unB u with
      | some a, some b => some ((a, b), [])
      | _, _ => none
    | _ => none
  ok := fun (_, _) _ => same_ok _ _
theorem ag_lt {a b : Blk} : ag a b < 0 ↔ fst1 a < fst1 b ∨ (fst1 a = fst1 b ∧ (a.2.1 < b.2.1 ∨ (a.2.1 = b.2.1 ∧ (a.2.2.1 < b.2.2.1 ∨ (a.2.2.1 = b.2.2.1 ∧ a.1 < b.1))))) := by
  rw [ag_eq]
  simp only [lexI]
  constructor
  · intro h
    repeat' (split at h)
    all_goals omega
  · intro h
    rcases h with h | ⟨h, h1⟩
    · rw [if_pos h]; decide
    · rw [if_neg (by omega), if_neg (by omega)]
      rcases h1 with h1 | ⟨h1, h2⟩
      · rw [if_pos h1]; decide
      · rw [if_neg (by omega), if_neg (by omega)]
        rcases h2 with h2 | ⟨h2, h3⟩
        · rw [if_pos h2]; decide
        · rw [if_neg (by omega), if_neg (by omega), if_pos h3]; decide
/-- One stands ahead of another one. -/
def ah (a b : Blk) : Bool := decide (ag a b < 0)
theorem ahead_ok (a b : Blk) : Tells (C := C1) Try.prog (.fn 24) [] [bSV a, bSV b] (.bool (.tm (ah a b))) := by
  refine loc_pc (P := Try.prog) (E := ⟨[], [], 37, []⟩) (L := []) mix Try.func24 rfl (by kernel_rfl) (by kernel_rfl) rfl rfl ?_
  ((conv => (arg 1; reduce)); with_reducible repeat' (first | exact Tr.yes_h | refine Tr.and_h ?_ ?_ | refine Tr.imp_h fun _ => ?_ | refine Tr.all_h fun _ => ?_ | refine Tr.lf_h ?_))
  all_goals try first | (show Region.lexB _ _ = true; kernel_rfl) | (show planned _ _ = true; kernel_rfl) | exact rfl | exact True.intro
  all_goals (obtain ⟨a1, a2, a3, a4⟩ := a; obtain ⟨b1, b2, b3, b4⟩ := b; simp only [SB.val, ah] at *; rw [Bool.eq_iff_iff]; simp only [decide_eq_true_eq, ag_lt, fst1] at *; cases a4 <;> cases b4 <;> simp_all <;> omega)
noncomputable def pcAhead : Pc Try.prog C1 where
  tg := .fn 24
  X := Blk × Blk
  args := fun (a, b) => [bSV a, bSV b]
  mem := fun _ => []
  pre _ := True
  res := fun (a, b) => .bool (.tm (ah a b))
  mat vs m := match vs with
    | [v, u] => match unB v, unB u with
      | some a, some b => some ((a, b), [])
      | _, _ => none
    | _ => none
  ok := fun (_, _) _ => ahead_ok _ _
theorem within_ok (x : Int) : Tells (C := C1) Try.prog (.fn 34) [] [.int .i64 x] (.int .i64 (min (max 0 x) 1073741824)) := by
  refine loc_pc (P := Try.prog) (E := ⟨[], [], 6, []⟩) (L := []) mix Try.func34 rfl (by kernel_rfl) (by kernel_rfl) rfl rfl ?_
  ((conv => (arg 1; reduce)); with_reducible repeat' (first | exact Tr.yes_h | refine Tr.and_h ?_ ?_ | refine Tr.imp_h fun _ => ?_ | refine Tr.all_h fun _ => ?_ | refine Tr.lf_h ?_))
  all_goals try first | (show Region.lexB _ _ = true; kernel_rfl) | (show planned _ _ = true; kernel_rfl) | exact rfl | exact True.intro
noncomputable def pcWithin : Pc Try.prog C1 where
  tg := .fn 34
  X := Int
  args := fun x => [.int .i64 x]
  mem := fun _ => []
  pre _ := True
  res := fun x => .int .i64 (min (max 0 x) 1073741824)
  mat vs m := match vs with
    | [.int _ x] => some (x, [])
    | _ => none
  ok := fun _ _ => within_ok _
end Go.Vi
