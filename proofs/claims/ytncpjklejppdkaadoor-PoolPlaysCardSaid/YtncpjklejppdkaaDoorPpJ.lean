/-
  Round 17: the pool and the reference side by side: what is taken; what is asked.
  Conditions: none.
-/
import Derived.Test.YtncpjklejppdkaaDoorPpI
set_option linter.unusedSectionVars false
set_option maxRecDepth 100000
set_option linter.unusedVariables false
set_option linter.unusedSimpArgs false
namespace Go.Vx
open Go Go.Proofs
variable [Gl]

/-- The first Add. -/
noncomputable def fcXAdd0 : Fc Tryd.prog C0 where
  tg := .fn 15
  X := Nat × Nat × Int × Int × List Ent × Nat × Nat
  args := fun (_, _, b, w, _, _, _) => [.ptr 0 0 0, .int .i64 b, .int .i64 w]
  mem := fun (bp, bq, _, _, _, _, _) => [⟨bp, bq, 1, true, none, .one [.nils]⟩]
  pre := fun (_, _, b, w, l, n, c) => badB b w = true ∨ (badB b w = false ∧ n = 1 ∧ HOK l n c ∧ (l.take n).Perm [(b, w)])
  alts := fun (bp, bq, b, w, l, n, c) => [⟨Unit, fun _ => badB b w = true, fun _ => .int .i64 (codeB (badB b w)), fun _ => [⟨bp, bq, 1, true, none, .one [.nils]⟩]⟩,
     ⟨Ry, fun y => badB b w = false ∧ Sy l n c y.l y.k y.n y.c, fun _ => .int .i64 0, fun y => rnew0 bp bq y⟩]
  mat vs m := match vs with
    | [.ptr p 0 0, .int _ b, .int _ w] => match nth m p with
      | ⟨bp, bq, _, _, _, .one [.nils]⟩ => match heapG m with
        | (hl, hn, hc) => some ((bp, bq, b, w, hl, hn, hc), [p])
      | _ => none
    | _ => none
  ok := fun (bp, bq, b, w, l, n, c) h => by
    refine (radd_nil bp bq b w).mono ?_
    rintro rr m' ⟨A, hmem, y, hy, hr⟩
    simp only [List.mem_cons, List.not_mem_nil, or_false] at hmem
    rcases hmem with rfl | rfl
    · have hy : badB b w = true := hy
      refine Ends.one () hy ⟨?_, hr.2⟩
      rw [hr.1]; unfold codeB; rw [hy]; rfl
    · obtain ⟨h1, h2, h3, h4⟩ := hy
      refine Ends.next (Ends.one y ⟨h1, ?_⟩ hr)
      rcases h with ht | ⟨_, rfl, g2, g3⟩
      · rw [h1] at ht; cases ht
      · have e : pl y.l y.k y.n = [(b, w)] := h2
        refine ⟨g2, ⟨h4.len, h4.cap, h4.fit⟩, ⟨⟨?_, ?_⟩, ?_⟩, ?_⟩
        · rw [e]; exact List.pairwise_singleton ..
        · rw [e]; simp
        · rw [e]
          intro a ha
          rw [List.mem_singleton] at ha; subst ha
          have := badB_rng h1; exact ⟨this.1, this.2.1⟩
        · rw [e]; exact g3

/-! Take. -/
theorem Lok.tail {L : List Ent} (h : Lok L) : Lok (L.drop 1) := ⟨h.srt.tail, fun e he => h.rng e (List.mem_of_mem_drop he)⟩
noncomputable def fcTakeH : Fc Tryd.prog C0 where
  tg := .fn 9
  X := Hg
  args := fun _ => [.ptr 0 0 0]
  mem := fun ⟨⟨bp, q, b, base, l, n, c⟩, _, _, _, _⟩ => hp bp q b base true true l n c
  pre := fun ⟨⟨_, _, _, _, l, n, c⟩, r, k, rn, rc⟩ => Sy l n c r k rn rc
  alts := fun ⟨⟨bp, q, b, base, l, n, c⟩, r, k, rn, rc⟩ => [⟨List Ent × Int × Bool, fun y => y.2.2 = decide (0 < rn) ∧ y.2.1 = ((pl r k rn).getD 0 (0, 0)).1 ∧ HOK y.1 (n - 1) c ∧ (y.1.take (n - 1)).Perm ((pl r k rn).drop 1) ∧ n = rn,
    fun y => .tup [.int .i64 y.2.1, .bool (.tm y.2.2)], fun y => hp bp q b base true true y.1 (n - 1) c⟩]
  mat vs m := match vs with
    | [p] => matG p m
    | _ => none
  ok := fun ⟨⟨bp, q, b, base, l, n, c⟩, r, k, rn, rc⟩ h => by
    have hs : Sy l n c r k rn rc := h
    have hb : n < 1048576 := by have := hs.eq; have := hs.le; omega
    refine (take_ok bp q b base l n c hs.hok hb).mono ?_
    rintro rr m' ⟨A, hA, y, hy, hr⟩
    simp only [List.mem_cons, List.not_mem_nil, or_false] at hA
    subst hA
    have hlen := pl_len hs.rk.len
    have heq := hs.eq
    refine Ends.one y ?_ hr
    rcases hy with ⟨h1, h2, h3, e, h4, h5, h6⟩ | ⟨h1, h2, h3, h4⟩
    · have hf := first_all hs.hok.lt hs.prm h4
      have hm : e ∈ pl r k rn := hs.prm.mem_iff.1 (h6.mem_iff.2 (by simp))
      have h0 := hs.lok.srt.first hm hf
      refine ⟨h1.trans (decide_eq_true (by omega)).symm, by rw [h0]; exact h5, h3, ?_, heq⟩
      have hL : pl r k rn = e :: (pl r k rn).drop 1 := by
        cases hc : pl r k rn with
        | nil => rw [hc] at hm; cases hm
        | cons a t => rw [hc] at h0; simp at h0; rw [h0]; rfl
      have := h6.symm.trans hs.prm
      rw [hL] at this
      simpa using this.cons_inv
    · have hL : pl r k rn = [] := List.eq_nil_of_length_eq_zero (by omega)
      refine ⟨h1.trans (decide_eq_false (by omega)).symm, by rw [hL]; exact h3, by rw [h4, h2]; exact ⟨Nat.zero_le _, hs.hok.len, fun k _ hk => absurd hk (by omega)⟩, ?_, heq⟩
      rw [hL, h4, h2]; exact List.Perm.refl _
noncomputable def fcXTake : Fc Tryd.prog C0 where
  tg := .fn 17
  X := Ry × List Ent × Nat × Nat
  args := fun _ => [.ptr 0 0 0]
  mem := fun (x, _, _, _) => rp true x
  pre := fun (x, l, n, c) => Rk x.l x.k x.n x.c ∧ Lok (rx x) ∧ HOK l n c ∧ (l.take n).Perm ((rx x).drop 1)
  alts := fun (x, l, n, c) => [⟨Unit, fun _ => x.n = 0 ∧ Sy l n c x.l x.k x.n x.c, fun _ => .tup [.int .i64 0, .bool .f], fun _ => rp true x⟩,
     ⟨Unit, fun _ => 0 < x.n ∧ Sy l n c x.l (srow x.c 1 x.k) (x.n - 1) (x.c - 1), fun _ => .tup [.int .i64 (x.l.getD x.k (0, 0)).1, .bool .t], fun _ => rp true (rtaken x)⟩]
  mat vs m := match vs with
    | [.ptr p 0 0] => match nth m p with
      | ⟨bp, bq, _, _, _, .one [.sl r k n c]⟩ => match nth m r with
        | ⟨bb, q, _, _, _, .rows 46 l⟩ => match heapG m with
          | (hl, hn, hc) => some ((⟨bp, bq, bb, q, l, k, n, c⟩, hl, hn, hc), [p, r])
        | _ => none
      | _ => none
    | _ => none
  ok := fun (x, l, n, c) h => by
    obtain ⟨hk, hL, h1, h2⟩ := h
    refine (rtake_ok x hk.len).mono ?_
    rintro rr m' ⟨A, hmem, y, hy, hr⟩
    simp only [List.mem_cons, List.not_mem_nil, or_false] at hmem
    rcases hmem with rfl | rfl
    · have hy : x.n = 0 := hy
      have hn : rx x = [] := List.eq_nil_of_length_eq_zero (by rw [pl_len hk.len]; exact hy)
      refine Ends.one () ⟨hy, h1, hk, hL, ?_⟩ hr
      rw [show pl x.l x.k x.n = rx x from rfl, hn]
      rw [hn] at h2; exact h2
    · have hy : 0 < x.n := hy
      have e := rtaken_list (x := x) hk.cap
      rw [rx_eq, rx_eq] at e
      have g1 := hk.len
      have g2 := hk.cap
      have g3 := hk.fit
      refine Ends.next (Ends.one () ⟨hy, h1, ⟨?_, by omega, ?_⟩, ?_, ?_⟩ hr)
      · unfold srow; split <;> omega
      · unfold srow; split <;> omega
      · rw [show pl x.l (srow x.c 1 x.k) (x.n - 1) = rx (rtaken x) from rfl, e]; exact hL.tail
      · rw [show pl x.l (srow x.c 1 x.k) (x.n - 1) = rx (rtaken x) from rfl, e]; exact h2

/-! The most worn one. -/
noncomputable def fcMostH : Fc Tryd.prog C0 where
  tg := .fn 10
  X := Hg
  args := fun _ => [.ptr 0 0 0]
  mem := fun ⟨⟨bp, q, b, base, l, n, c⟩, _, _, _, _⟩ => hp bp q b base true true l n c
  pre := fun ⟨⟨_, _, _, _, l, n, c⟩, r, k, rn, rc⟩ => Sy l n c r k rn rc
  alts := fun ⟨⟨bp, q, b, base, l, n, c⟩, r, k, rn, rc⟩ => [⟨List Ent × Int × Bool, fun y => y.2.2 = decide (0 < rn) ∧ n = rn ∧ (0 < rn → (∃ e ∈ pl r k rn, (∀ a ∈ pl r k rn, mst a e = false) ∧ y.2.1 = e.1) ∧ RemP (pl r k rn) y.2.1 y.1 (n - 1) c) ∧ (rn = 0 → Sy y.1 (n - 1) c r k rn rc),
    fun y => .tup [.int .i64 y.2.1, .bool (.tm y.2.2)], fun y => hp bp q b base true true y.1 (n - 1) c⟩]
  mat vs m := match vs with
    | [p] => matG p m
    | _ => none
  ok := fun ⟨⟨bp, q, b, base, l, n, c⟩, r, k, rn, rc⟩ h => by
    have hs : Sy l n c r k rn rc := h
    have hb : n < 1048576 := by have := hs.eq; have := hs.le; omega
    refine (most_ok bp q b base l n c hs.hok hb).mono ?_
    rintro rr m' ⟨A, hA, y, hy, hr⟩
    simp only [List.mem_cons, List.not_mem_nil, or_false] at hA
    subst hA
    have heq := hs.eq
    refine Ends.one y ?_ hr
    rcases hy with ⟨h1, h2, h3, e, h4, h5, h6⟩ | ⟨h1, h2, h3, h4⟩
    · have hf := most_all hs.hok.lt hs.prm h4
      have hm : e ∈ pl r k rn := hs.prm.mem_iff.1 (h6.mem_iff.2 (by simp))
      refine ⟨h1.trans (decide_eq_true (by omega)).symm, heq, fun _ => ⟨⟨e, hm, hf, h5⟩, h3, .inr ⟨?_, e, h5.symm, hs.prm.symm.trans h6⟩⟩, fun h => absurd h (by omega)⟩
      unfold hasB
      rw [List.any_eq_true]
      exact ⟨e, hm, by simp [h5]⟩
    · refine ⟨h1.trans (decide_eq_false (by omega)).symm, heq, fun h => absurd h (by omega), fun _ => ?_⟩
      subst h2
      obtain ⟨g1, g2, g3, g4⟩ := hs
      rw [h4]
      exact ⟨g1, g2, g3, g4⟩
/-- The place that the reference tells is the pool's. -/
theorem most_at {r : List Ent} {k rn a : Nat} {l : List Ent} {n c : Nat} {z : Int} (hk : k + rn ≤ r.length) (ha : a < rn) (hm : ∀ j, j < rn → mst (r.getD (j + k) (0, 0)) (r.getD (a + k) (0, 0)) = false)
    (h : ∃ e ∈ pl r k rn, (∀ a ∈ pl r k rn, mst a e = false) ∧ z = e.1) : (r.getD (a + k) (0, 0)).1 = z := by
  obtain ⟨e, he, h1, rfl⟩ := h
  have hlen := pl_len hk
  obtain ⟨j, hj, rfl⟩ := mem_get.1 he
  rw [hlen] at hj
  have e1 := hm j hj
  have e2 := h1 (r.getD (a + k) (0, 0)) (mem_get.2 ⟨a, by rw [hlen]; exact ha, pl_get ha⟩)
  rw [pl_get hj] at e2 ⊢
  rw [most_same e1 e2]

/-! What is asked. -/
noncomputable def pcHasH : Pc Tryd.prog C0 where
  tg := .fn 13
  X := Hg × Int
  args := fun (_, x) => [.ptr 0 0 0, .int .i64 x]
  mem := fun (⟨⟨bp, q, b, base, l, n, c⟩, _, _, _, _⟩, _) => hp bp q b base false false l n c
  pre := fun (⟨⟨_, _, _, _, l, n, c⟩, r, k, rn, rc⟩, _) => Sy l n c r k rn rc
  res := fun (⟨⟨_, _, _, _, _, _, _⟩, r, k, rn, _⟩, x) => .bool (.tm (hasB (pl r k rn) x))
  mat vs m := match vs with
    | [p, .int _ x] => (matG p m).map fun (h, r) => ((h, x), r)
    | _ => none
  ok := fun (⟨⟨bp, q, b, base, l, n, c⟩, r, k, rn, rc⟩, x) h => by
    have hs : Sy l n c r k rn rc := h
    have hb : n < 1048577 := by have := hs.eq; have := hs.le; omega
    have := has_ok bp q b base l n c x hs.hok.lt hb
    rw [show decide (0 ≤ ixf l n x) = hasB (pl r k rn) x from has_perm hs.hok.lt hs.prm x] at this
    exact this
noncomputable def pcPlenH : Pc Tryd.prog C0 where
  tg := .fn 11
  X := Hg
  args := fun _ => [.ptr 0 0 0]
  mem := fun ⟨⟨bp, q, b, base, l, n, c⟩, _, _, _, _⟩ => hp bp q b base false false l n c
  pre := fun ⟨⟨_, _, _, _, l, n, c⟩, r, k, rn, rc⟩ => Sy l n c r k rn rc
  res := fun ⟨⟨_, _, _, _, _, _, _⟩, _, _, rn, _⟩ => .int .i64 rn
  mat vs m := match vs with
    | [p] => matG p m
    | _ => none
  ok := fun ⟨⟨bp, q, b, base, l, n, c⟩, r, k, rn, rc⟩ h => by
    have hs : Sy l n c r k rn rc := h
    have := len_ok bp q b base l n c
    rw [hs.eq] at this ⊢
    exact this
theorem least_pl {l : List Ent} {n c : Nat} {r : List Ent} {k rn rc : Nat} (hs : Sy l n c r k rn rc) : leastE l n = (pl r k rn).getD 0 (0, 0) := by
  have heq := hs.eq
  unfold leastE
  split
  · rename_i h0
    have : pl r k rn = [] := List.eq_nil_of_length_eq_zero (by rw [pl_len hs.rk.len]; omega)
    rw [this]; rfl
  · rename_i h0
    have hf := first_all hs.hok.lt hs.prm (heap_first hs.hok.heap)
    exact (hs.lok.srt.first (hs.prm.mem_iff.1 ((mem_take hs.hok.lt).2 ⟨0, by omega, rfl⟩)) hf).symm
noncomputable def pcLeastH : Pc Tryd.prog C0 where
  tg := .fn 19
  X := Hg
  args := fun _ => [.ptr 0 0 0]
  mem := fun ⟨⟨bp, q, b, base, l, n, c⟩, _, _, _, _⟩ => hp bp q b base false false l n c
  pre := fun ⟨⟨_, _, _, _, l, n, c⟩, r, k, rn, rc⟩ => Sy l n c r k rn rc
  res := fun ⟨⟨_, _, _, _, _, _, _⟩, r, k, rn, _⟩ => .tup [.int .i64 ((pl r k rn).getD 0 (0, 0)).1, .int .i64 ((pl r k rn).getD 0 (0, 0)).2, .bool (.tm (decide (0 < rn)))]
  mat vs m := match vs with
    | [p] => matG p m
    | _ => none
  ok := fun ⟨⟨bp, q, b, base, l, n, c⟩, r, k, rn, rc⟩ h => by
    have hs : Sy l n c r k rn rc := h
    have := least_ok bp q b base l n c hs.hok.lt
    rw [least_pl hs, hs.eq] at this
    rw [hs.eq]
    exact this
end Go.Vx
