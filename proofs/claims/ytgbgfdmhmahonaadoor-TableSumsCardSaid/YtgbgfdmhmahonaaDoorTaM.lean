/-
  Round 20: TableMoves of no slice.
  Conditions: none.
-/
import Derived.Test.YtgbgfdmhmahonaaDoorTaL
set_option linter.unusedSectionVars false
set_option maxRecDepth 100000
set_option linter.unusedVariables false
set_option linter.unusedSimpArgs false
namespace Go.Vx
open Go Go.Proofs
variable [Gl]
def Mo0 : Inv' C0 := ⟨10, Unit, fun _ => [(12, .int .i64 0), (11, .int .i64 0)], fun _ m => m, fun _ => True, fun _ => 0⟩
set_option maxHeartbeats 16000000 in
theorem moves_nil (key other : Int) : Tells (C := C0) Tryd.prog (.fn 3) [] [.int .i64 key, .int .i64 other, .nils] (.bool .t) := by
  refine loc_pc (P := Tryd.prog) (E := ⟨[fcNewOk, fcSet3, fcDropL], [pcFirst, pcSamePlace, pcAtL, pcLenL, pcLive], 188, [(12, [], [.p 0, .p 1, .p 2, .p 3, .p 4, .p 5, .p 6, .p 7, .p 8, .p 9, .p 10, .p 11, .p 12, .e 13, .e 14])]⟩) (L := [Mo0]) mix Tryd.func3 rfl (by kernel_rfl) (by kernel_rfl) rfl rfl ?_
  ((conv => (arg 1; reduce)); with_reducible repeat' (first | exact Tr.yes_h | refine Tr.and_h ?_ ?_ | refine Tr.imp_h fun _ => ?_ | refine Tr.all_h fun _ => ?_ | refine Tr.lf_h ?_))
  all_goals try (first | first | (show Region.lexB _ _ = true; kernel_rfl) | (show planned _ _ = true; kernel_rfl) | exact rfl | exact True.intro | (first | exact key3 | exact key30 | exact zero3 | exact zero53 | exact eq30 | exact ⟨key3, zero53⟩ | exact ⟨key30, zero3⟩) | ((try dsimp only [imp, C0, cG, cInt, cPl, cSlot, cDo] at *); (try refine inR64 ?_ ?_) <;> (try simp only [List.length_set, List.length_append, List.length_take, List.length_drop]) <;> omega))
  all_goals try exact absurd (by with_reducible assumption : decide ((0 : Int) < 0) = true) (by decide)
  all_goals try exact absurd (by with_reducible assumption : decide ((0 : Int) = 0) = false) (by decide)
  · exact (by decide : 1 ≤ (8 : Int) ∧ (8 : Int) ≤ 64 ∧ 1 ≤ (8 : Int) ∧ (8 : Int) ≤ 64)
  · exact inR_add (an1023 other).1 (by have := (an1023 other).2; omega) 1024 (by decide) (by decide)
  · refine Stands.one () ⟨trivial, ?_⟩
    ((conv => (arg 1; reduce)); with_reducible repeat' (first | exact Tr.yes_h | refine Tr.and_h ?_ ?_ | refine Tr.imp_h fun _ => ?_ | refine Tr.all_h fun _ => ?_ | refine Tr.lf_h ?_))
    all_goals (first | first | (show Region.lexB _ _ = true; kernel_rfl) | (show planned _ _ = true; kernel_rfl) | exact rfl | exact True.intro | (first | exact key3 | exact key30 | exact zero3 | exact zero53 | exact eq30 | exact ⟨key3, zero53⟩ | exact ⟨key30, zero3⟩) | ((try dsimp only [imp, C0, cG, cInt, cPl, cSlot, cDo] at *); (try refine inR64 ?_ ?_) <;> (try simp only [List.length_set, List.length_append, List.length_take, List.length_drop]) <;> omega))
end Go.Vx
