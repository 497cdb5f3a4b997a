/-
  Round 20: TableMoves.
  Conditions: none.
-/
import Derived.Test.YtgbgfdmhmahonaaDoorTaJ
set_option linter.unusedSectionVars false
set_option maxRecDepth 100000
set_option linter.unusedVariables false
set_option linter.unusedSimpArgs false
namespace Go.Vx
open Go Go.Proofs
variable [Gl]

theorem set3_ok (x : Tb) (k : Int) (p : Pl) (m : Me) (h : Rep x) : Does (C := C0) Tryd.prog (.fn 8) (tbm x) [.ptr 0 0 0, .int .i64 k, .agg (plE p), .agg (meE m)]
    [⟨Ks × Nat × Ps × Nat, fun y => (Fits x k p ∧ ¬ Taken x k p) ∧ Rep (tw x y) ∧ tl (tw x y) = lset (tl x) ⟨k, p, m⟩, fun _ => .tup [.agg (plE (lget (tl x) k).pl), .bool (.tm (lhas (tl x) k)), .nili], fun y => tbm (tw x y)⟩,
     ⟨Unit, fun _ => ¬ Fits x k p, fun _ => .tup [.agg (plE (0, 0)), .bool .f, er (Gl.A 2)], fun _ => tbm x⟩,
     ⟨Unit, fun _ => Fits x k p ∧ Taken x k p, fun _ => .tup [.agg (plE (0, 0)), .bool .f, er (Gl.A 0)], fun _ => tbm x⟩] := by
  refine (set_ok x k p m h).weaken ?_
  rintro f ⟨A, hA, y, hy, hf'⟩
  simp only [List.mem_cons, List.not_mem_nil, or_false] at hA
  rcases hA with rfl | rfl | rfl
  · exact Ends.next (Ends.one () hy hf')
  · exact Ends.next (Ends.next (Ends.one () hy hf'))
  · have := h.set (s := ⟨k, p, m⟩) (fun hat => Classical.byContradiction fun hn => hy.2 ⟨hat, hn⟩)
    exact Ends.one ((tset x ⟨k, p, m⟩).kl, (tset x ⟨k, p, m⟩).kc, (tset x ⟨k, p, m⟩).pl, (tset x ⟨k, p, m⟩).pc) ⟨hy, this⟩ hf'
noncomputable def fcSet3 : Fc Tryd.prog C0 where
  tg := .fn 8
  X := Tb × Int × Pl × Me
  args := fun (_, k, p, m) => [.ptr 0 0 0, .int .i64 k, .agg (plE p), .agg (meE m)]
  mem := fun (x, _) => tbm x
  pre := fun (x, k, p, m) => Rep x
  alts := fun (x, k, p, m) => [⟨Ks × Nat × Ps × Nat, fun y => (Fits x k p ∧ ¬ Taken x k p) ∧ Rep (tw x y) ∧ tl (tw x y) = lset (tl x) ⟨k, p, m⟩, fun _ => .tup [.agg (plE (lget (tl x) k).pl), .bool (.tm (lhas (tl x) k)), .nili], fun y => tbm (tw x y)⟩,
     ⟨Unit, fun _ => ¬ Fits x k p, fun _ => .tup [.agg (plE (0, 0)), .bool .f, er (Gl.A 2)], fun _ => tbm x⟩,
     ⟨Unit, fun _ => Fits x k p ∧ Taken x k p, fun _ => .tup [.agg (plE (0, 0)), .bool .f, er (Gl.A 0)], fun _ => tbm x⟩]
  mat vs m := match vs with
    | [.ptr c 0 0, .int _ k, .agg [.int _ a, .int _ b], .agg [.int _ m1, .int _ m2, .int _ m3, .int _ m4, .int _ m5, .int _ m6]] => match tbOf m c with
      | some (x, l) => some ((x, k, (a, b), ⟨m1, m2, m3, m4, m5, m6⟩), l)
      | none => none
    | _ => none
  ok := fun (x, k, p, m) h => set3_ok x k p m h
theorem dropL_ok (x : Tb) (k : Int) (h : Rep x) : Does (C := C0) Tryd.prog (.fn 13) (tbm x) [.ptr 0 0 0, .int .i64 k]
    [⟨Ks × Nat × Ps × Nat, fun y => Rep (tw x y) ∧ tl (tw x y) = ldel (tl x) k, fun _ => .bool (.tm (lhas (tl x) k)), fun y => tbm (tw x y)⟩] := by
  refine (drop_ok x k).weaken ?_
  rintro f ⟨A, hA, y, hy, hf'⟩
  simp only [List.mem_cons, List.not_mem_nil, or_false] at hA
  subst hA
  have := h.drop k
  dsimp only at hf'
  rw [h.khas] at hf'
  exact Ends.one ((tdrop x k).kl, (tdrop x k).kc, (tdrop x k).pl, (tdrop x k).pc) this hf'
noncomputable def fcDropL : Fc Tryd.prog C0 where
  tg := .fn 13
  X := Tb × Int
  args := fun (_, k) => [.ptr 0 0 0, .int .i64 k]
  mem := fun (x, _) => tbm x
  pre := fun (x, k) => Rep x
  alts := fun (x, k) => [⟨Ks × Nat × Ps × Nat, fun y => Rep (tw x y) ∧ tl (tw x y) = ldel (tl x) k, fun _ => .bool (.tm (lhas (tl x) k)), fun y => tbm (tw x y)⟩]
  mat vs m := match vs with
    | [.ptr p 0 0, .int _ k] => match tbOf m p with
      | some (x, l) => some ((x, k), l)
      | none => none
    | _ => none
  ok := fun (x, k) h => dropL_ok x k h
end Go.Vx
