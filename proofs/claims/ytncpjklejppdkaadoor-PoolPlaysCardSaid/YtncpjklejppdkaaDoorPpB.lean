/-
  Round 17: the reference's pool: the most worn one.
  Conditions: none.
-/
import Derived.Test.YtncpjklejppdkaaDoorPpA
import Derived.Test.YtncpjklejppdkaaDoorPoJ
set_option linter.unusedSectionVars false
set_option maxRecDepth 100000
set_option linter.unusedVariables false
set_option linter.unusedSimpArgs false
namespace Go.Vx
open Go Go.Proofs
variable [Gl]

abbrev rat (x : Ry) (i : Nat) : Ent := x.l.getD (i + x.k) (0, 0)
def M0 : Inv' C0 := ⟨3, Unit, fun _ => [(3, .int .i64 (-1)), (4, .int .i64 0)], fun _ m => m, fun _ => True, fun _ => 1048577⟩
def M1 (x : Ry) : Inv' C0 := ⟨3, Nat × Nat, fun y => [(3, .int .i64 y.1), (4, .int .i64 y.2)], fun _ m => m, fun y => y.1 < y.2 ∧ y.2 ≤ x.n ∧ ∀ j, j < y.2 → mst (rat x j) (rat x y.1) = false, fun y => x.n - y.2⟩
theorem M1.bds {x : Ry} {y : Nat × Nat} (hy : (M1 x).inv y) (hc : decide ((y.2 : Int) < (x.n : Int)) = true) (hl : x.k + x.n ≤ x.l.length) (hn : x.n < 1048576) :
    0 ≤ (y.2 : Int) ∧ (y.2 : Int) < (x.n : Int) ∧ (y.2 : Int).toNat + x.k < x.l.length ∧ 0 ≤ (y.1 : Int) ∧ (y.1 : Int) < (x.n : Int) ∧ (y.1 : Int).toNat + x.k < x.l.length ∧ inR .i64 ((y.2 : Int) + 1) := by
  have hc := of_decide_eq_true hc
  obtain ⟨h1, h2, h3⟩ := hy
  exact ⟨by omega, by omega, by omega, by omega, by omega, by omega, inR64 (by omega) (by omega)⟩
/-- As it is asked. -/
def mstq (a : Int) (e f : Ent) : Bool := (decide (a < 0) || decide (f.2 < e.2)) || (decide (e.2 = f.2) && decide (e.1 < f.1))
theorem mstq_eq {a : Int} {e f : Ent} (h : 0 ≤ a) : mstq a e f = mst e f := by
  unfold mstq mst
  rw [decide_eq_false (by omega), Bool.false_or]
theorem mst_self (e : Ent) : mst e e = false := by rw [mst_f]; omega
theorem M1.dec {x : Ry} {y : Nat × Nat} {a : Nat} (hc : decide ((y.2 : Int) < (x.n : Int)) = true) : (M1 x).meas (a, y.2 + 1) < (M1 x).meas y := by
  have hc := of_decide_eq_true hc
  show x.n - (y.2 + 1) < x.n - y.2
  omega
theorem M1.new {x : Ry} {y : Nat × Nat} (hy : (M1 x).inv y) (hc : decide ((y.2 : Int) < (x.n : Int)) = true) (h : mstq (y.1 : Int) (rat x y.2) (rat x y.1) = true) : (M1 x).inv (y.2, y.2 + 1) := by
  have hc := of_decide_eq_true hc
  rw [mstq_eq (by omega), mst_t] at h
  obtain ⟨h1, h2, h3⟩ := hy
  refine ⟨Nat.lt_succ_self _, by show y.2 + 1 ≤ x.n; omega, fun j hj => ?_⟩
  rcases Nat.lt_succ_iff_lt_or_eq.1 hj with g | g
  · have := h3 j g
    show mst (rat x j) (rat x y.2) = false
    rw [mst_f] at this ⊢
    omega
  · rw [g]; exact mst_self _
theorem M1.old {x : Ry} {y : Nat × Nat} (hy : (M1 x).inv y) (hc : decide ((y.2 : Int) < (x.n : Int)) = true) (h : mstq (y.1 : Int) (rat x y.2) (rat x y.1) = false) : (M1 x).inv (y.1, y.2 + 1) := by
  have hc := of_decide_eq_true hc
  rw [mstq_eq (by omega)] at h
  obtain ⟨h1, h2, h3⟩ := hy
  refine ⟨by show y.1 < y.2 + 1; omega, by show y.2 + 1 ≤ x.n; omega, fun j hj => ?_⟩
  rcases Nat.lt_succ_iff_lt_or_eq.1 hj with g | g
  · exact h3 j g
  · rw [g]; exact h
theorem M1.fin {x : Ry} {y : Nat × Nat} (hy : (M1 x).inv y) (hc : decide ((y.2 : Int) < (x.n : Int)) = false) : y.1 < x.n ∧ ∀ j, j < x.n → mst (rat x j) (rat x y.1) = false := by
  have hc := of_decide_eq_false hc
  obtain ⟨h1, h2, h3⟩ := hy
  exact ⟨by omega, fun j hj => h3 j (by omega)⟩
set_option maxHeartbeats 8000000 in
theorem rmost_ok (x : Ry) (hl : x.k + x.n ≤ x.l.length) (hn : x.n < 1048576) : Does (C := C0) Tryd.prog (.fn 18) (rp false x) [.ptr 0 0 0]
    [⟨Unit, fun _ => x.n = 0, fun _ => .int .i64 (-1), fun _ => rp false x⟩,
     ⟨Nat, fun a => a < x.n ∧ ∀ j, j < x.n → mst (rat x j) (rat x a) = false, fun a => .int .i64 a, fun _ => rp false x⟩] := by
  refine loc_fn (P := Tryd.prog) (E := ⟨[], [], 75, []⟩) (L := [M0, M1 x]) mix Tryd.func18 rfl (by kernel_rfl) (by kernel_rfl) rfl rfl ?_
  ((conv => (arg 1; reduce)); with_reducible repeat' (first | exact Tr.yes_h | refine Tr.and_h ?_ ?_ | refine Tr.imp_h fun _ => ?_ | refine Tr.all_h fun _ => ?_ | refine Tr.lf_h ?_))
  all_goals try first | (show Region.lexB _ _ = true; kernel_rfl) | (show planned _ _ = true; kernel_rfl) | exact rfl | exact True.intro
  all_goals try exact absurd (by with_reducible assumption : decide ((-1 : Int) < 0) = false) (by decide)
  all_goals try (exfalso; have h := (by with_reducible assumption : (decide ((-1 : Int) < 0) || _) = false); simp at h; done)
  all_goals try (exfalso; have h := (by with_reducible assumption : ((decide ((-1 : Int) < 0) || _) || _) = false); simp at h; done)
  all_goals try (have hh := M1.bds ‹(M1 x).inv _› ‹decide (_ < (x.n : Int)) = true› hl hn; first | exact hh.1 | exact hh.2.1 | exact hh.2.2.1 | exact hh.2.2.2.1 | exact hh.2.2.2.2.1 | exact hh.2.2.2.2.2.1 | exact hh.2.2.2.2.2.2)
  · refine Stands.one () ⟨trivial, ?_⟩
    ((conv => (arg 1; reduce)); with_reducible repeat' (first | exact Tr.yes_h | refine Tr.and_h ?_ ?_ | refine Tr.imp_h fun _ => ?_ | refine Tr.all_h fun _ => ?_ | refine Tr.lf_h ?_))
    all_goals (first | first | (show Region.lexB _ _ = true; kernel_rfl) | (show planned _ _ = true; kernel_rfl) | exact rfl | exact True.intro | ((try dsimp only [imp, C0, cG, cInt2] at *); (try refine inR64 ?_ ?_) <;> (try simp only [List.length_set, List.length_append, List.length_take, List.length_drop]) <;> omega))
  · rename_i hc hd
    have hc := of_decide_eq_true hc
    refine Stands.next (Stands.one (0, 1) ⟨⟨Nat.one_pos, by show 1 ≤ x.n; omega, fun j hj => ?_⟩, ?_, ?_⟩)
    · rw [show j = 0 by have hj : j < 1 := hj; omega]; exact mst_self _
    · show x.n - 1 < 1048577; omega
    ((conv => (arg 1; reduce)); with_reducible repeat' (first | exact Tr.yes_h | refine Tr.and_h ?_ ?_ | refine Tr.imp_h fun _ => ?_ | refine Tr.all_h fun _ => ?_ | refine Tr.lf_h ?_))
    all_goals (first | first | (show Region.lexB _ _ = true; kernel_rfl) | (show planned _ _ = true; kernel_rfl) | exact rfl | exact True.intro | ((try dsimp only [imp, C0, cG, cInt2] at *); (try refine inR64 ?_ ?_) <;> (try simp only [List.length_set, List.length_append, List.length_take, List.length_drop]) <;> omega))
  · rename_i hc
    have hc := of_decide_eq_false hc
    refine Ends.one () (by omega) ?_
    ((conv => (arg 1; reduce)); with_reducible repeat' (first | exact Tr.yes_h | refine Tr.and_h ?_ ?_ | refine Tr.imp_h fun _ => ?_ | refine Tr.all_h fun _ => ?_ | refine Tr.lf_h ?_))
    all_goals (first | first | (show Region.lexB _ _ = true; kernel_rfl) | (show planned _ _ = true; kernel_rfl) | exact rfl | exact True.intro | ((try dsimp only [imp, C0, cG, cInt2] at *); (try refine inR64 ?_ ?_) <;> (try simp only [List.length_set, List.length_append, List.length_take, List.length_drop]) <;> omega))
  · rename_i y hy hc hd
    refine Stands.next (Stands.one (y.2, y.2 + 1) ⟨M1.new hy hc hd, M1.dec hc, ?_⟩)
    ((conv => (arg 1; reduce)); with_reducible repeat' (first | exact Tr.yes_h | refine Tr.and_h ?_ ?_ | refine Tr.imp_h fun _ => ?_ | refine Tr.all_h fun _ => ?_ | refine Tr.lf_h ?_))
    all_goals (first | first | (show Region.lexB _ _ = true; kernel_rfl) | (show planned _ _ = true; kernel_rfl) | exact rfl | exact True.intro | ((try dsimp only [imp, C0, cG, cInt2] at *); (try refine inR64 ?_ ?_) <;> (try simp only [List.length_set, List.length_append, List.length_take, List.length_drop]) <;> omega))
  · rename_i y hy hc hd
    refine Stands.next (Stands.one (y.1, y.2 + 1) ⟨M1.old hy hc hd, M1.dec hc, ?_⟩)
    ((conv => (arg 1; reduce)); with_reducible repeat' (first | exact Tr.yes_h | refine Tr.and_h ?_ ?_ | refine Tr.imp_h fun _ => ?_ | refine Tr.all_h fun _ => ?_ | refine Tr.lf_h ?_))
    all_goals (first | first | (show Region.lexB _ _ = true; kernel_rfl) | (show planned _ _ = true; kernel_rfl) | exact rfl | exact True.intro | ((try dsimp only [imp, C0, cG, cInt2] at *); (try refine inR64 ?_ ?_) <;> (try simp only [List.length_set, List.length_append, List.length_take, List.length_drop]) <;> omega))
  · rename_i y hy hc
    refine Ends.next (Ends.one y.1 (M1.fin hy hc) ?_)
    ((conv => (arg 1; reduce)); with_reducible repeat' (first | exact Tr.yes_h | refine Tr.and_h ?_ ?_ | refine Tr.imp_h fun _ => ?_ | refine Tr.all_h fun _ => ?_ | refine Tr.lf_h ?_))
    all_goals (first | first | (show Region.lexB _ _ = true; kernel_rfl) | (show planned _ _ = true; kernel_rfl) | exact rfl | exact True.intro | ((try dsimp only [imp, C0, cG, cInt2] at *); (try refine inR64 ?_ ?_) <;> (try simp only [List.length_set, List.length_append, List.length_take, List.length_drop]) <;> omega))
noncomputable def fcRMost : Fc Tryd.prog C0 where
  tg := .fn 18
  X := Ry
  args := fun _ => [.ptr 0 0 0]
  mem := fun x => rp false x
  pre := fun x => x.k + x.n ≤ x.l.length ∧ x.n < 1048576
  alts := fun x => [⟨Unit, fun _ => x.n = 0, fun _ => .int .i64 (-1), fun _ => rp false x⟩,
     ⟨Nat, fun a => a < x.n ∧ ∀ j, j < x.n → mst (rat x j) (rat x a) = false, fun a => .int .i64 a, fun _ => rp false x⟩]
  mat vs m := match vs with
    | [.ptr p 0 0] => match nth m p with
      | ⟨bp, bq, _, _, _, .one [.sl r k n c]⟩ => match nth m r with
        | ⟨bb, q, _, _, _, .rows 46 l⟩ => some (⟨bp, bq, bb, q, l, k, n, c⟩, [p, r])
        | _ => none
      | _ => none
    | _ => none
  ok := fun x h => rmost_ok x h.1 h.2
theorem rmost_nil (bp bq : Nat) : Does (C := C0) Tryd.prog (.fn 18) [⟨bp, bq, 1, false, none, .one [.nils]⟩] [.ptr 0 0 0]
    [⟨Unit, fun _ => True, fun _ => .int .i64 (-1), fun _ => [⟨bp, bq, 1, false, none, .one [.nils]⟩]⟩] := by
  refine loc_fn (P := Tryd.prog) (E := ⟨[], [], 75, []⟩) (L := [M0]) mix Tryd.func18 rfl (by kernel_rfl) (by kernel_rfl) rfl rfl ?_
  ((conv => (arg 1; reduce)); with_reducible repeat' (first | exact Tr.yes_h | refine Tr.and_h ?_ ?_ | refine Tr.imp_h fun _ => ?_ | refine Tr.all_h fun _ => ?_ | refine Tr.lf_h ?_))
  all_goals try first | (show Region.lexB _ _ = true; kernel_rfl) | (show planned _ _ = true; kernel_rfl) | exact rfl | exact True.intro
  all_goals try exact absurd (by with_reducible assumption : decide ((0 : Int) < 0) = true) (by decide)
  · refine Stands.one () ⟨trivial, ?_⟩
    ((conv => (arg 1; reduce)); with_reducible repeat' (first | exact Tr.yes_h | refine Tr.and_h ?_ ?_ | refine Tr.imp_h fun _ => ?_ | refine Tr.all_h fun _ => ?_ | refine Tr.lf_h ?_))
    all_goals (first | first | (show Region.lexB _ _ = true; kernel_rfl) | (show planned _ _ = true; kernel_rfl) | exact rfl | exact True.intro | ((try dsimp only [imp, C0, cG, cInt2] at *); (try refine inR64 ?_ ?_) <;> (try simp only [List.length_set, List.length_append, List.length_take, List.length_drop]) <;> omega))
  · refine Ends.one () trivial ?_
    ((conv => (arg 1; reduce)); with_reducible repeat' (first | exact Tr.yes_h | refine Tr.and_h ?_ ?_ | refine Tr.imp_h fun _ => ?_ | refine Tr.all_h fun _ => ?_ | refine Tr.lf_h ?_))
    all_goals (first | first | (show Region.lexB _ _ = true; kernel_rfl) | (show planned _ _ = true; kernel_rfl) | exact rfl | exact True.intro | ((try dsimp only [imp, C0, cG, cInt2] at *); (try refine inR64 ?_ ?_) <;> (try simp only [List.length_set, List.length_append, List.length_take, List.length_drop]) <;> omega))
noncomputable def fcRMost0 : Fc Tryd.prog C0 where
  tg := .fn 18
  X := Nat × Nat
  args := fun _ => [.ptr 0 0 0]
  mem := fun (bp, bq) => [⟨bp, bq, 1, false, none, .one [.nils]⟩]
  pre := fun _ => True
  alts := fun (bp, bq) => [⟨Unit, fun _ => True, fun _ => .int .i64 (-1), fun _ => [⟨bp, bq, 1, false, none, .one [.nils]⟩]⟩]
  mat vs m := match vs with
    | [.ptr p 0 0] => match nth m p with
      | ⟨bp, bq, _, _, _, .one [.nils]⟩ => some ((bp, bq), [p])
      | _ => none
    | _ => none
  ok := fun (_, _) _ => rmost_nil _ _
end Go.Vx
