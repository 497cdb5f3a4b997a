/-
  Round 17: the reference's pool: a block taken out.
  Conditions: none.
-/
import Derived.Test.YtncpjklejppdkaaDoorPpB
set_option linter.unusedSectionVars false
set_option maxRecDepth 100000
set_option linter.unusedVariables false
set_option linter.unusedSimpArgs false
namespace Go.Vx
open Go Go.Proofs
variable [Gl]

def Rm (x : Ry) (b : Int) : Inv' C0 := ⟨2, Nat, fun i => [(5, .int .i64 i)], fun _ m => m, fun i => i ≤ x.n ∧ ∀ j, j < i → (rat x j).1 ≠ b, fun i => x.n - i⟩
/-- The pool behind a call that lays its list anew. -/
abbrev rnew (x y : Ry) : List (Ck C0) := [⟨x.bp, x.bq, 1, true, none, .one [.sl 2 y.k y.n y.c]⟩, ⟨x.b, x.q, 2, false, none, .rows 46 x.l⟩, ⟨y.b, y.q, 2, true, none, .rows 46 y.l⟩]
structure Rok (x : Ry) : Prop where
  len : x.k + x.n ≤ x.l.length
  cap : x.n ≤ x.c
  fit : x.k + x.c ≤ x.l.length
structure Rcut (x : Ry) (b : Int) (i : Nat) (y : Ry) : Prop where
  lt : i < x.n
  is : (rat x i).1 = b
  fst : ∀ j, j < i → (rat x j).1 ≠ b
  list : rlist y = (rlist x).take i ++ (rlist x).drop (i + 1)
  n : y.n + 1 = x.n
  ok : Rok y
theorem by46 : Tryd.prog.types[46].bytes = 16 := by kernel_rfl
theorem Rm.bds {x : Ry} {b : Int} {i : Nat} (_hi : (Rm x b).inv i) (hc : decide ((i : Int) < (x.n : Int)) = true) (ho : Rok x) (hn : x.n < 524288) :
    0 ≤ (i : Int) ∧ (i : Int) < (x.n : Int) ∧ (i : Int).toNat + x.k < x.l.length ∧ inR .i64 ((i : Int) + 1) ∧ (i : Int) ≤ (x.c : Int) ∧ 0 ≤ (i : Int) + 1 ∧ (i : Int) + 1 ≤ (x.n : Int) := by
  have hc := of_decide_eq_true hc
  obtain ⟨h1, h2, h3⟩ := ho
  exact ⟨by omega, by omega, by omega, inR64 (by omega) (by omega), by omega, by omega, by omega⟩
theorem Rm.dec {x : Ry} {b : Int} {i : Nat} (hc : decide ((i : Int) < (x.n : Int)) = true) : (Rm x b).meas (Nat.succ i) < (Rm x b).meas i := by
  have hc := of_decide_eq_true hc
  show x.n - (i + 1) < x.n - i
  omega
theorem Rm.more {x : Ry} {b : Int} {i : Nat} (hi : (Rm x b).inv i) (hc : decide ((i : Int) < (x.n : Int)) = true) (h : ¬ (rat x i).1 = b) : (Rm x b).inv (Nat.succ i) := by
  have hc := of_decide_eq_true hc
  refine ⟨by omega, fun j hj => ?_⟩
  rcases Nat.lt_succ_iff_lt_or_eq.1 hj with h1 | h1
  · exact hi.2 j h1
  · rw [h1]; exact h
theorem Rm.no {x : Ry} {b : Int} {i : Nat} (hi : (Rm x b).inv i) (hc : decide ((i : Int) < (x.n : Int)) = false) (hl : x.k + x.n ≤ x.l.length) : hasB (rlist x) b = false := by
  have hc := of_decide_eq_false hc
  rw [← Bool.not_eq_true]
  intro h
  obtain ⟨k, hk, h⟩ := hasB_iff.1 h
  rw [rlen hl] at hk
  rw [gets hk] at h
  exact hi.2 k (by omega) h
theorem cut_len {r l sp : List Ent} {k i c : Nat} (hi : k + i ≤ l.length) (h : c ≤ 0 + i + sp.length) : 0 + c ≤ ((r.drop 0).take 0 ++ (l.drop k).take i ++ sp).length := by
  simp only [List.length_append, List.length_take, List.length_drop]
  omega
theorem srow_fit {c i n k l : Nat} (hi : i ≤ n) (hc : n ≤ c) (hl : k + c ≤ l) : srow c i k + (n - i) ≤ l := by
  unfold srow
  split <;> omega
/-- What is laid: all but one. -/
theorem cut_list {x : Ry} {r sp1 sp2 : List Ent} {i : Nat} (hi : i < x.n) (ho : Rok x) :
    ((((r.drop 0).take 0 ++ (x.l.drop x.k).take i ++ sp1).drop 0).take (0 + i) ++ (x.l.drop (srow x.c (i + 1) x.k)).take (x.n - (i + 1)) ++ sp2) = ((rlist x).take i ++ (rlist x).drop (i + 1)) ++ sp2 := by
  obtain ⟨h1, h2, h3⟩ := ho
  have e1 : ((r.drop 0).take 0 ++ (x.l.drop x.k).take i ++ sp1).take (0 + i) = (rlist x).take i := by
    simp only [List.take_zero, List.nil_append, Nat.zero_add, rlist]
    rw [List.take_append_of_le_length (by simp; omega), List.take_take, List.take_take, Nat.min_self, Nat.min_eq_left (by omega)]
  have e2 : (x.l.drop (srow x.c (i + 1) x.k)).take (x.n - (i + 1)) = (rlist x).drop (i + 1) := by
    simp only [rlist, List.drop_take, List.drop_drop]
    unfold srow
    split
    · rw [show x.n - (i + 1) = 0 by omega, List.take_zero, List.take_zero]
    · rw [Nat.add_comm x.k]
  simp only [List.drop_zero] at e1 ⊢
  rw [e1, e2]
theorem Rm.cut {x : Ry} {b : Int} {i : Nat} (hi : (Rm x b).inv i) (hc : decide ((i : Int) < (x.n : Int)) = true) (h : (rat x i).1 = b) (ho : Rok x) {sp : List Ent} {bb q c : Nat} (h1 : i + (x.n - (i + 1)) ≤ c) (h2 : c ≤ i + (x.n - (i + 1)) + sp.length) :
    Rcut x b i ⟨x.bp, x.bq, bb, q, ((rlist x).take i ++ (rlist x).drop (i + 1)) ++ sp, 0, x.n - 1, c⟩ := by
  have hc := of_decide_eq_true hc
  have hlt : i < x.n := by omega
  have hL := rlen ho.len
  have hl : ((rlist x).take i ++ (rlist x).drop (i + 1)).length = x.n - 1 := by
    simp only [List.length_append, List.length_take, List.length_drop, hL]
    omega
  refine ⟨hlt, h, hi.2, ?_, by show x.n - 1 + 1 = x.n; omega, ⟨?_, by show x.n - 1 ≤ c; omega, ?_⟩⟩
  · show List.take (x.n - 1) (List.drop 0 (((rlist x).take i ++ (rlist x).drop (i + 1)) ++ sp)) = _
    rw [List.drop_zero, List.take_append_of_le_length (by omega), List.take_of_length_le (by omega)]
  · show 0 + (x.n - 1) ≤ (((rlist x).take i ++ (rlist x).drop (i + 1)) ++ sp).length
    rw [List.length_append]; omega
  · show 0 + c ≤ (((rlist x).take i ++ (rlist x).drop (i + 1)) ++ sp).length
    rw [List.length_append]; omega
set_option maxHeartbeats 8000000 in
theorem rrem_ok (x : Ry) (b : Int) (ho : Rok x) (hn : x.n < 524288) : Does (C := C0) Tryd.prog (.fn 16) (rp true x) [.ptr 0 0 0, .int .i64 b]
    [⟨Unit, fun _ => hasB (rlist x) b = false, fun _ => .bool .f, fun _ => rp true x⟩,
     ⟨Nat × Ry, fun y => Rcut x b y.1 y.2, fun _ => .bool .t, fun y => rnew x y.2⟩] := by
  refine loc_fn (P := Tryd.prog) (E := ⟨[], [], 51, [(5, [0], [.p 0, .p 1, .p 2, .p 3, .p 4, .p 6, .p 7, .p 8, .p 9, .p 10, .p 11, .e 5, .e 12, .p 13])]⟩) (L := [Rm x b]) mix Tryd.func16 rfl (by kernel_rfl) (by kernel_rfl) rfl rfl ?_
  ((conv => (arg 1; reduce)); with_reducible repeat' (first | exact Tr.yes_h | refine Tr.and_h ?_ ?_ | refine Tr.imp_h fun _ => ?_ | refine Tr.all_h fun _ => ?_ | refine Tr.lf_h ?_))
  all_goals try first | (show Region.lexB _ _ = true; kernel_rfl) | (show planned _ _ = true; kernel_rfl) | exact rfl | exact True.intro
  · refine Stands.one (0 : Nat) ⟨⟨Nat.zero_le _, fun j hj => absurd hj (Nat.not_lt_zero _)⟩, ?_⟩
    ((conv => (arg 1; reduce)); with_reducible repeat' (first | exact Tr.yes_h | refine Tr.and_h ?_ ?_ | refine Tr.imp_h fun _ => ?_ | refine Tr.all_h fun _ => ?_ | refine Tr.lf_h ?_))
    all_goals (first | first | (show Region.lexB _ _ = true; kernel_rfl) | (show planned _ _ = true; kernel_rfl) | exact rfl | exact True.intro | ((try dsimp only [imp, C0, cG, cInt2] at *); (try refine inR64 ?_ ?_) <;> (try simp only [List.length_set, List.length_append, List.length_take, List.length_drop]) <;> omega))
  · rename_i i hi hc
    exact (Rm.bds hi hc ho hn).1
  · rename_i i hi hc
    exact (Rm.bds hi hc ho hn).2.1
  · rename_i i hi hc
    exact (Rm.bds hi hc ho hn).2.2.1
  · rename_i i hi hc hd
    exact (Rm.bds hi hc ho hn).1
  · rename_i i hi hc hd
    exact (Rm.bds hi hc ho hn).2.2.2.2.1
  · rw [by46]
    exact ⟨Int.le_refl 0, by omega, by omega, by omega⟩
  · rename_i i hi hc hd b1
    change Nat at i
    have hc := of_decide_eq_true hc
    have h1 := ho.len
    rw [by46]
    exact ⟨Nat.zero_le _, by simp, by show x.k + (i : Int).toNat ≤ x.l.length; omega, by show (Int.toNat 0 + (i : Int).toNat) * 16 ≤ _; omega⟩
  · rename_i i hi hc hd b1 b2 base2 sp cap h1 h2
    exact (Rm.bds hi hc ho hn).2.2.2.1
  · rename_i i hi hc hd b1 b2 base2 sp cap h1 h2
    exact (Rm.bds hi hc ho hn).2.2.2.2.2.1
  · rename_i i hi hc hd b1 b2 base2 sp cap h1 h2
    exact (Rm.bds hi hc ho hn).2.2.2.2.2.2
  · rename_i i hi hc hd b1 b2 base2 sp cap h1 h2
    change Nat at i
    have hc := of_decide_eq_true hc
    have h3 := ho.len
    rw [by46]
    refine ⟨h1, cut_len (i := i) (by show x.k + i ≤ x.l.length; omega) h2, srow_fit (i := i + 1) (by omega) ho.cap ho.fit, ?_⟩
    show (Int.toNat 0 + (i : Int).toNat + (x.n - ((i : Int) + 1).toNat)) * 16 ≤ 140737488355328
    omega
  · rename_i i hi hc hd b1 b2 base2 sp cap h1 h2 b3 base3 sp3 cap3 h3 h4
    change Nat at i
    have hd := of_decide_eq_true hd
    have hc' := of_decide_eq_true hc
    have h3 : 0 + i + (x.n - (i + 1)) ≤ cap3 := h3
    have h4 : cap3 ≤ 0 + i + (x.n - (i + 1)) + sp3.length := h4
    have e1 := cut_list (r := List.replicate (x.n : Int).toNat (0, 0)) (sp1 := sp) (sp2 := sp3) (x := x) (i := i) (by omega) ho
    have e2 : 0 + i + (x.n - (i + 1)) = x.n - 1 := by omega
    refine Ends.next (Ends.one (i, ⟨x.bp, x.bq, b3, base3, ((rlist x).take i ++ (rlist x).drop (i + 1)) ++ sp3, 0, x.n - 1, cap3⟩) (Rm.cut hi hc hd ho (by omega) (by omega)) ?_)
    ((conv => (arg 1; reduce)); with_reducible repeat' (first | exact Tr.yes_h | refine Tr.and_h ?_ ?_ | refine Tr.imp_h fun _ => ?_ | refine Tr.all_h fun _ => ?_ | refine Tr.lf_h ?_))
    all_goals first | (first | first | (show Region.lexB _ _ = true; kernel_rfl) | (show planned _ _ = true; kernel_rfl) | exact rfl | exact True.intro | ((try dsimp only [imp, C0, cG, cInt2] at *); (try refine inR64 ?_ ?_) <;> (try simp only [List.length_set, List.length_append, List.length_take, List.length_drop]) <;> omega)) | exact e1 | exact e1.symm | exact e2 | exact e2.symm
  · rename_i i hi hc hd
    exact (Rm.bds hi hc ho hn).2.2.2.1
  · rename_i i hi hc hd
    refine Stands.one (Nat.succ i) ⟨Rm.more hi hc (of_decide_eq_false hd), Rm.dec hc, ?_⟩
    ((conv => (arg 1; reduce)); with_reducible repeat' (first | exact Tr.yes_h | refine Tr.and_h ?_ ?_ | refine Tr.imp_h fun _ => ?_ | refine Tr.all_h fun _ => ?_ | refine Tr.lf_h ?_))
    all_goals (first | first | (show Region.lexB _ _ = true; kernel_rfl) | (show planned _ _ = true; kernel_rfl) | exact rfl | exact True.intro | ((try dsimp only [imp, C0, cG, cInt2] at *); (try refine inR64 ?_ ?_) <;> (try simp only [List.length_set, List.length_append, List.length_take, List.length_drop]) <;> omega))
  · rename_i i hi hc
    refine Ends.one () (Rm.no hi hc ho.len) ?_
    ((conv => (arg 1; reduce)); with_reducible repeat' (first | exact Tr.yes_h | refine Tr.and_h ?_ ?_ | refine Tr.imp_h fun _ => ?_ | refine Tr.all_h fun _ => ?_ | refine Tr.lf_h ?_))
    all_goals (first | first | (show Region.lexB _ _ = true; kernel_rfl) | (show planned _ _ = true; kernel_rfl) | exact rfl | exact True.intro | ((try dsimp only [imp, C0, cG, cInt2] at *); (try refine inR64 ?_ ?_) <;> (try simp only [List.length_set, List.length_append, List.length_take, List.length_drop]) <;> omega))
noncomputable def fcRRem : Fc Tryd.prog C0 where
  tg := .fn 16
  X := Ry × Int
  args := fun (_, b) => [.ptr 0 0 0, .int .i64 b]
  mem := fun (x, _) => rp true x
  pre := fun (x, _) => Rok x ∧ x.n < 524288
  alts := fun (x, b) => [⟨Unit, fun _ => hasB (rlist x) b = false, fun _ => .bool .f, fun _ => rp true x⟩,
     ⟨Nat × Ry, fun y => Rcut x b y.1 y.2, fun _ => .bool .t, fun y => rnew x y.2⟩]
  mat vs m := match vs with
    | [.ptr p 0 0, .int _ b] => match nth m p with
      | ⟨bp, bq, _, _, _, .one [.sl r k n c]⟩ => match nth m r with
        | ⟨bb, q, _, _, _, .rows 46 l⟩ => some ((⟨bp, bq, bb, q, l, k, n, c⟩, b), [p, r])
        | _ => none
      | _ => none
    | _ => none
  ok := fun (x, b) h => rrem_ok x b h.1 h.2
theorem rrem_nil (bp bq : Nat) (b : Int) : Does (C := C0) Tryd.prog (.fn 16) [⟨bp, bq, 1, true, none, .one [.nils]⟩] [.ptr 0 0 0, .int .i64 b]
    [⟨Unit, fun _ => True, fun _ => .bool .f, fun _ => [⟨bp, bq, 1, true, none, .one [.nils]⟩]⟩] := by
  refine loc_fn (P := Tryd.prog) (E := ⟨[], [], 51, [(5, [0], [.p 0, .p 1, .p 2, .p 3, .p 4, .p 6, .p 7, .p 8, .p 9, .p 10, .p 11, .e 5, .e 12, .p 13])]⟩) (L := [Hr0]) mix Tryd.func16 rfl (by kernel_rfl) (by kernel_rfl) rfl rfl ?_
  ((conv => (arg 1; reduce)); with_reducible repeat' (first | exact Tr.yes_h | refine Tr.and_h ?_ ?_ | refine Tr.imp_h fun _ => ?_ | refine Tr.all_h fun _ => ?_ | refine Tr.lf_h ?_))
  all_goals try first | (show Region.lexB _ _ = true; kernel_rfl) | (show planned _ _ = true; kernel_rfl) | exact rfl | exact True.intro
  all_goals try exact absurd (by with_reducible assumption : decide ((0 : Int) < 0) = true) (by decide)
  · refine Stands.one () ⟨trivial, ?_⟩
    ((conv => (arg 1; reduce)); with_reducible repeat' (first | exact Tr.yes_h | refine Tr.and_h ?_ ?_ | refine Tr.imp_h fun _ => ?_ | refine Tr.all_h fun _ => ?_ | refine Tr.lf_h ?_))
    all_goals (first | first | (show Region.lexB _ _ = true; kernel_rfl) | (show planned _ _ = true; kernel_rfl) | exact rfl | exact True.intro | ((try dsimp only [imp, C0, cG, cInt2] at *); (try refine inR64 ?_ ?_) <;> (try simp only [List.length_set, List.length_append, List.length_take, List.length_drop]) <;> omega))
  · refine Ends.one () trivial ?_
    ((conv => (arg 1; reduce)); with_reducible repeat' (first | exact Tr.yes_h | refine Tr.and_h ?_ ?_ | refine Tr.imp_h fun _ => ?_ | refine Tr.all_h fun _ => ?_ | refine Tr.lf_h ?_))
    all_goals (first | first | (show Region.lexB _ _ = true; kernel_rfl) | (show planned _ _ = true; kernel_rfl) | exact rfl | exact True.intro | ((try dsimp only [imp, C0, cG, cInt2] at *); (try refine inR64 ?_ ?_) <;> (try simp only [List.length_set, List.length_append, List.length_take, List.length_drop]) <;> omega))
noncomputable def fcRRem0 : Fc Tryd.prog C0 where
  tg := .fn 16
  X := Nat × Nat × Int
  args := fun (_, _, b) => [.ptr 0 0 0, .int .i64 b]
  mem := fun (bp, bq, _) => [⟨bp, bq, 1, true, none, .one [.nils]⟩]
  pre := fun _ => True
  alts := fun (bp, bq, _) => [⟨Unit, fun _ => True, fun _ => .bool .f, fun _ => [⟨bp, bq, 1, true, none, .one [.nils]⟩]⟩]
  mat vs m := match vs with
    | [.ptr p 0 0, .int _ b] => match nth m p with
      | ⟨bp, bq, _, _, _, .one [.nils]⟩ => some ((bp, bq, b), [p])
      | _ => none
    | _ => none
  ok := fun (_, _, _) _ => rrem_nil _ _ _
end Go.Vx
