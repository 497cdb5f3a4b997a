/-
  Round 17: PoolPlays, what it computes of no slice.
  Conditions: none.
-/
import Derived.Test.YtncpjklejppdkaaDoorPpM
set_option linter.unusedSectionVars false
set_option maxRecDepth 100000
set_option linter.unusedVariables false
set_option linter.unusedSimpArgs false
namespace Go.Vx
open Go Go.Proofs
variable [Gl]

def Lz : Inv' C0 := ⟨9, Unit, fun _ => [(10, .int .i64 0)], fun _ m => m, fun _ => True, fun _ => 0⟩
def turnZ (x : Nat × Nat) (m : List (Ck C0)) : List (Ck C0) := match m with
  | [c0, c1, c2, c3, c4, ⟨_, dO, ds, dw, dg, _⟩] => [c0, c1, c2, c3, c4, ⟨x.2, dO, ds, dw, dg, .one [.int .i64 x.1]⟩]
  | m => m
def Lrz : Inv' C0 := ⟨33, Nat × Nat, fun _ => [(21, .ptr 5 0 0)], turnZ, fun x => x.1 ≤ 2, fun x => 2 - x.1⟩
def Lqz : Inv' C0 := ⟨1, Unit, fun _ => [], fun _ m => m, fun _ => True, fun _ => 0⟩
noncomputable def itEachZ : It Tryd.prog C0 := ⟨31, Tryd.f31, _, ⟨[], [pcClone0], 23, []⟩, [Lqz], Tryd.func31, rfl, (by kernel_rfl), (by kernel_rfl)⟩
set_option maxHeartbeats 4000000 in
theorem plays_nil (ask stop : Int) : Tells (C := C0) Tryd.prog (.fn 5) [] [.nils, .int .i64 ask, .int .i64 stop] (.bool .t) := by
  refine loc_pcR (P := Tryd.prog) (E := ⟨[fcNew, fcEach], [pcFirst], 279, []⟩)
    (L := [Lz, Lrz]) mix [itEachZ] Tryd.func5 rfl (by kernel_rfl) (by kernel_rfl) rfl rfl ?_
  ((conv => (arg 1; reduce)); with_reducible repeat' (first | exact Tr.yes_h | refine Tr.and_h ?_ ?_ | refine Tr.imp_h fun _ => ?_ | refine Tr.all_h fun _ => ?_ | refine Tr.lf_h ?_))
  all_goals try first | (show Region.lexB _ _ = true; kernel_rfl) | (show planned _ _ = true; kernel_rfl) | exact rfl | exact True.intro
  all_goals try exact absurd (by with_reducible assumption : decide ((0 : Int) < 0) = true) (by decide)
  all_goals try exact absurd (by with_reducible assumption : decide ((100 : Int) < 0) = true) (by decide)
  all_goals try exact incR (by with_reducible assumption)
  · refine Stands.one () ⟨trivial, ?_⟩
    ((conv => (arg 1; reduce)); with_reducible repeat' (first | exact Tr.yes_h | refine Tr.and_h ?_ ?_ | refine Tr.imp_h fun _ => ?_ | refine Tr.all_h fun _ => ?_ | refine Tr.lf_h ?_))
    all_goals (first | first | (show Region.lexB _ _ = true; kernel_rfl) | (show planned _ _ = true; kernel_rfl) | exact rfl | exact True.intro | ((try dsimp only [imp, C0, cG, cInt2] at *); (try refine inR64 ?_ ?_) <;> (try simp only [List.length_set, List.length_append, List.length_take, List.length_drop]) <;> omega))
  · rename_i b1
    refine Stands.one ((0, b1) : Nat × Nat) ⟨Nat.zero_le _, ?_⟩
    ((conv => (arg 1; reduce)); with_reducible repeat' (first | exact Tr.yes_h | refine Tr.and_h ?_ ?_ | refine Tr.imp_h fun _ => ?_ | refine Tr.all_h fun _ => ?_ | refine Tr.lf_h ?_))
    all_goals (first | first | (show Region.lexB _ _ = true; kernel_rfl) | (show planned _ _ = true; kernel_rfl) | exact rfl | exact True.intro | ((try dsimp only [imp, C0, cG, cInt2] at *); (try refine inR64 ?_ ?_) <;> (try simp only [List.length_set, List.length_append, List.length_take, List.length_drop]) <;> omega))
  · refine Stands.one () ⟨trivial, ?_⟩
    ((conv => (arg 1; reduce)); with_reducible repeat' (first | exact Tr.yes_h | refine Tr.and_h ?_ ?_ | refine Tr.imp_h fun _ => ?_ | refine Tr.all_h fun _ => ?_ | refine Tr.lf_h ?_))
    all_goals (first | first | (show Region.lexB _ _ = true; kernel_rfl) | (show planned _ _ = true; kernel_rfl) | exact rfl | exact True.intro | ((try dsimp only [imp, C0, cG, cInt2] at *); (try refine inR64 ?_ ?_) <;> (try simp only [List.length_set, List.length_append, List.length_take, List.length_drop]) <;> omega))
  · rename_i h
    simp at h
  · rename_i x hx hc b1 y hy b2 b3 u hu hd he b4
    refine Stands.one ((x.1 + 1, b4) : Nat × Nat) ⟨ltR hc, decR hc, ?_⟩
    ((conv => (arg 1; reduce)); with_reducible repeat' (first | exact Tr.yes_h | refine Tr.and_h ?_ ?_ | refine Tr.imp_h fun _ => ?_ | refine Tr.all_h fun _ => ?_ | refine Tr.lf_h ?_))
    all_goals (first | first | (show Region.lexB _ _ = true; kernel_rfl) | (show planned _ _ = true; kernel_rfl) | exact rfl | exact True.intro | ((try dsimp only [imp, C0, cG, cInt2] at *); (try refine inR64 ?_ ?_) <;> (try simp only [List.length_set, List.length_append, List.length_take, List.length_drop]) <;> omega))
end Go.Vx
