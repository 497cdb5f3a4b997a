/-
  Round 17: PoolSorts of no blocks.
  Conditions: none.
-/
import Derived.Test.YtncpjklejppdkaaDoorPoM
set_option maxRecDepth 100000
set_option linter.unusedVariables false
set_option linter.unusedSimpArgs false
namespace Go.Vx
open Go Go.Proofs

theorem sorts_nil (t : Bool) :
    Tells (C := C0) Tryd.prog (.fn 3) [] [.nils, .bool (.tm t)] (.bool .t) := by
  refine loc_pc (P := Tryd.prog) (E := ⟨[fcNew, fcAdd, fcAdd0, fcTake, fcTake0, fcMost, fcMost0], [pcFirst, pcPlen, pcPlen0], 169, []⟩)
    (L := [⟨9, Unit, fun _ => [(8, .int .i64 0)], fun _ m => m, fun _ => True, fun _ => 0⟩, ⟨17, Unit, fun _ => [(11, .int .i64 0), (10, .int .i64 (-1))], fun _ m => m, fun _ => True, fun _ => 0⟩]) mix Tryd.func3 rfl (by kernel_rfl) (by kernel_rfl) rfl rfl ?_
  ((conv => (arg 1; reduce)); with_reducible repeat' (first | exact Tr.yes_h | refine Tr.and_h ?_ ?_ | refine Tr.imp_h fun _ => ?_ | refine Tr.all_h fun _ => ?_ | refine Tr.lf_h ?_))
  all_goals try first | (show Region.lexB _ _ = true; kernel_rfl) | (show planned _ _ = true; kernel_rfl) | exact rfl | exact True.intro
  · rw [by3]; omega
  · refine Stands.one () ⟨trivial, ?_⟩
    ((conv => (arg 1; reduce)); with_reducible repeat' (first | exact Tr.yes_h | refine Tr.and_h ?_ ?_ | refine Tr.imp_h fun _ => ?_ | refine Tr.all_h fun _ => ?_ | refine Tr.lf_h ?_))
    all_goals (first | first | (show Region.lexB _ _ = true; kernel_rfl) | (show planned _ _ = true; kernel_rfl) | exact rfl | exact True.intro | ((try dsimp only [imp, C0, cInt2] at *); (try refine inR64 ?_ ?_) <;> (try simp only [List.length_set, List.length_append, List.length_take, List.length_drop]) <;> omega))
  · rename_i hc
    exact absurd hc (by decide)
  · rw [by4]; exact ⟨by decide, by decide, by decide, by decide⟩
  · refine Stands.one () ⟨trivial, ?_⟩
    ((conv => (arg 1; reduce)); with_reducible repeat' (first | exact Tr.yes_h | refine Tr.and_h ?_ ?_ | refine Tr.imp_h fun _ => ?_ | refine Tr.all_h fun _ => ?_ | refine Tr.lf_h ?_))
    all_goals (first | first | (show Region.lexB _ _ = true; kernel_rfl) | (show planned _ _ = true; kernel_rfl) | exact rfl | exact True.intro | ((try dsimp only [imp, C0, cInt2] at *); (try refine inR64 ?_ ?_) <;> (try simp only [List.length_set, List.length_append, List.length_take, List.length_drop]) <;> omega))
  · exfalso
    exact absurd ‹decide _ = true› (by decide)
end Go.Vx
