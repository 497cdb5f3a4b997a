/-
  Round 17: PoolRemoves, plain law of its states.
  Conditions: none.
-/
import Derived.Test.YtncpjklejppdkaaDoorPoN
set_option maxRecDepth 100000
set_option linter.unusedVariables false
set_option linter.unusedSimpArgs false
namespace Go.Vx
open Go Go.Proofs

theorem mask63 (x : Int) : 0 ≤ ibit .and .i64 x 63 ∧ ibit .and .i64 x 63 ≤ 63 := by
  have h : ((BitVec.ofInt 64 x &&& BitVec.ofInt 64 63).toNat : Nat) ≤ 63 := by
    rw [BitVec.toNat_and]
    exact Nat.le_trans Nat.and_le_right (by decide)
  have e : ibit .and .i64 x 63 = (((BitVec.ofInt 64 x &&& BitVec.ofInt 64 63).toNat : Nat) : Int) := by
    have := inR64 (n := (((BitVec.ofInt 64 x &&& BitVec.ofInt 64 63).toNat : Nat) : Int)) (by omega) (by omega)
    exact this
  omega
abbrev w6 (worn : List Int) (k : Nat) : Int := ibit .and .i64 (worn.getD k 0) 63
/-- The heap holds just the blocks that are told as being there, each once. -/
structure goodR (worn : List Int) (N : Nat) (l : List Ent) (n : Nat) (has : List Bool) : Prop where
  nodup : ((l.take n).map (·.1)).Nodup
  sub : ∀ e ∈ l.take n, ∃ k, k < N ∧ e = ((k : Int), w6 worn k) ∧ has.getD k false = true
  all : ∀ k, has.getD k false = true → ∃ e ∈ l.take n, e.1 = (k : Int)
  len : has.length = 64
theorem getD_rep (n k : Nat) : (List.replicate n false).getD k false = false := by
  simp only [List.getD_eq_getElem?_getD, List.getElem?_replicate]; split <;> rfl
theorem goodR.mono {worn : List Int} {N M n : Nat} {l : List Ent} {has : List Bool} (h : goodR worn N l n has) (hM : N ≤ M) : goodR worn M l n has :=
  ⟨h.nodup, fun e he => (h.sub e he).elim fun k hk => ⟨k, by omega, hk.2.1, hk.2.2⟩, h.all, h.len⟩
/-- Block N laid in. -/
theorem goodR.add {worn : List Int} {N n n' : Nat} {l l' : List Ent} {has : List Bool} (h : goodR worn N l n has) (hN : N < 64) (hp : (l'.take n').Perm (l.take n ++ [((N : Int), w6 worn N)])) : goodR worn (N + 1) l' n' (has.set N true) := by
  refine ⟨?_, fun e he => ?_, fun k hk => ?_, by simp [h.len]⟩
  · rw [(hp.map _).nodup_iff]
    simp only [List.map_append, List.map_cons, List.map_nil]
    rw [List.nodup_append]
    refine ⟨h.nodup, by simp, fun a ha b hb e => ?_⟩
    obtain ⟨x, hx, rfl⟩ := List.mem_map.1 ha
    obtain ⟨k, hk, e1, _⟩ := h.sub x hx
    simp only [List.mem_singleton] at hb
    rw [e1] at e
    have e : (k : Int) = b := e
    omega
  · rcases List.mem_append.1 (hp.mem_iff.1 he) with h1 | h1
    · obtain ⟨k, hk, e1, e2⟩ := h.sub e h1
      exact ⟨k, by omega, e1, by rw [getD_set_ne (by omega)]; exact e2⟩
    · rw [List.mem_singleton.1 h1]
      exact ⟨N, by omega, rfl, getD_set_self (by rw [h.len]; exact hN)⟩
  · by_cases e : N = k
    · subst e
      exact ⟨_, hp.mem_iff.2 (List.mem_append_right _ (List.mem_singleton.2 rfl)), rfl⟩
    · rw [getD_set_ne e] at hk
      obtain ⟨x, hx, h2⟩ := h.all k hk
      exact ⟨x, hp.mem_iff.2 (List.mem_append_left _ hx), h2⟩
/-- One taken out. -/
theorem goodR.out {worn : List Int} {N n n' : Nat} {l l' : List Ent} {has : List Bool} {e : Ent} (h : goodR worn N l n has) (hp : (l.take n).Perm (e :: l'.take n')) :
    ∃ k, k < N ∧ e = ((k : Int), w6 worn k) ∧ has.getD k false = true ∧ goodR worn N l' n' (has.set k false) := by
  obtain ⟨k, hk, e1, e2⟩ := h.sub e (hp.mem_iff.2 (by simp))
  have hnd := (hp.map (·.1)).nodup_iff.1 h.nodup
  simp only [List.map_cons, List.nodup_cons] at hnd
  have hne : ∀ a ∈ l'.take n', a.1 ≠ (k : Int) := fun a ha e => hnd.1 (List.mem_map.2 ⟨a, ha, by rw [e1]; exact e⟩)
  refine ⟨k, hk, e1, e2, hnd.2, fun a ha => ?_, fun j hj => ?_, by simp [h.len]⟩
  · obtain ⟨j, hj, a1, a2⟩ := h.sub a (hp.mem_iff.2 (by simp [ha]))
    refine ⟨j, hj, a1, ?_⟩
    rw [getD_set_ne ?_]; exact a2
    rintro rfl
    exact hne a ha (by rw [a1])
  · by_cases e : k = j
    · subst e
      by_cases hl : k < has.length
      · rw [getD_set_self hl] at hj; cases hj
      · rw [List.getD_eq_getElem?_getD, List.getElem?_eq_none (by simp; omega)] at hj; cases hj
    · rw [getD_set_ne e] at hj
      obtain ⟨x, hx, h2⟩ := h.all j hj
      rcases List.mem_cons.1 (hp.mem_iff.1 hx) with rfl | hx
      · rw [e1] at h2
        have : (k : Int) = (j : Int) := h2
        omega
      · exact ⟨x, hx, h2⟩
/-- It stands there just where it is told. -/
theorem goodR.ix {worn : List Int} {N n : Nat} {l : List Ent} {has : List Bool} (h : goodR worn N l n has) (hn : n ≤ l.length) (k : Nat) : decide (0 ≤ ixf l n (k : Int)) = has.getD k false := by
  rcases ixf_cases (b := (k : Int)) hn with ⟨e, hne⟩ | ⟨i, hi, e, h1⟩
  · rw [e]
    cases hk : has.getD k false with
    | false => rfl
    | true =>
      obtain ⟨x, hx, h2⟩ := h.all k hk
      obtain ⟨j, hj, rfl⟩ := (mem_take hn).1 hx
      exact absurd h2 (hne j hj)
  · rw [e]
    obtain ⟨j, hj, e1, e2⟩ := h.sub (at_ l i) ((mem_take hn).2 ⟨i, hi, rfl⟩)
    rw [e1] at h1
    have : j = k := by have : (j : Int) = (k : Int) := h1; omega
    subst this
    rw [e2]
    exact decide_eq_true (by omega)
/-- How many are told as being there, of the first i. -/
def cnt (has : List Bool) (i : Nat) : Nat := ((List.range i).filter fun k => has.getD k false).length
theorem cnt_succ (has : List Bool) (i : Nat) : cnt has (i + 1) = cnt has i + if has.getD i false = true then 1 else 0 := by
  unfold cnt
  rw [List.range_succ, List.filter_append, List.length_append]
  congr 1
  rw [List.filter_cons]
  split <;> simp_all
theorem cnt_le (has : List Bool) (i : Nat) : cnt has i ≤ i := by
  unfold cnt
  exact Nat.le_trans (List.length_filter_le _ _) (by simp)
theorem goodR.count {worn : List Int} {N n : Nat} {l : List Ent} {has : List Bool} (h : goodR worn N l n has) (hn : n ≤ l.length) : cnt has 64 = n := by
  have hk : ∀ k, has.getD k false = true → k < 64 := by
    intro k hk
    by_cases hl : k < 64
    · exact hl
    · rw [List.getD_eq_getElem?_getD, List.getElem?_eq_none (by rw [h.len]; omega)] at hk; cases hk
  have hp : ((l.take n).map (·.1)).Perm (((List.range 64).filter fun k => has.getD k false).map fun (k : Nat) => (k : Int)) := by
    rw [List.perm_ext_iff_of_nodup h.nodup]
    · intro a
      simp only [List.mem_map, List.mem_filter, List.mem_range]
      constructor
      · rintro ⟨e, he, rfl⟩
        obtain ⟨k, _, e1, e2⟩ := h.sub e he
        exact ⟨k, ⟨hk k e2, e2⟩, by rw [e1]⟩
      · rintro ⟨k, ⟨_, e2⟩, rfl⟩
        exact h.all k e2
    · exact List.Pairwise.map _ (fun a b h e => h (Int.ofNat.inj e)) (List.Pairwise.filter _ List.nodup_range)
  have := hp.length_eq
  simp only [List.length_map, List.length_take] at this
  unfold cnt
  omega
theorem goodR.same {worn : List Int} {N n : Nat} {l : List Ent} {has has' : List Bool} (h : goodR worn N l n has) (he : ∀ j, has'.getD j false = has.getD j false) (hl : has'.length = 64) : goodR worn N l n has' :=
  ⟨h.nodup, fun e he' => (h.sub e he').elim fun k hk => ⟨k, hk.1, hk.2.1, by rw [he]; exact hk.2.2⟩, fun k hk => h.all k (by rw [← he]; exact hk), hl⟩
theorem getD_set_same {l : List Bool} {k : Nat} (h : l.getD k false = false) (j : Nat) : (l.set k false).getD j false = l.getD j false := by
  by_cases e : k = j
  · subst e
    by_cases hl : k < l.length
    · rw [getD_set_self hl, h]
    · rw [List.getD_eq_getElem?_getD, List.getElem?_eq_none (by simp; omega)]; exact h.symm
  · rw [getD_set_ne e]
theorem goodR0 (worn : List Int) (l : List Ent) : goodR worn 0 l 0 (List.replicate 64 false) :=
  ⟨by simp, fun e he => by simp at he, fun k hk => (by rw [getD_rep] at hk; cases hk), by simp⟩
/-- A round of the second loop. -/
theorem round2 {worn : List Int} {N n c : Nat} {l : List Ent} {has : List Bool} {w : Int} {y : List Ent × Nat × Bool} (h : goodR worn N l n has) (hk : HOK l n c) (hw : 0 ≤ w) (hy : remPost l n c w y) :
    y.2.2 = has.getD w.toNat false ∧ HOK y.1 y.2.1 c ∧ y.2.1 ≤ n ∧ goodR worn N y.1 y.2.1 (has.set w.toNat false) := by
  have hix := h.ix hk.lt w.toNat
  have ew : ((w.toNat : Nat) : Int) = w := by omega
  rcases hy with ⟨h1, h2, h3, h4, e, h5, h6⟩ | ⟨h1, h2, h3, h4⟩
  · obtain ⟨k, g1, g2, g3, g4⟩ := h.out h6
    have hkw : w.toNat = k := by rw [← h5, g2]; rfl
    rw [h3, hkw]
    exact ⟨by rw [h1, g3], h4, by omega, g4⟩
  · rw [ew, h4] at hix
    have hf : has.getD w.toNat false = false := by rw [← hix]; rfl
    rw [h2, h3]
    exact ⟨by rw [h1, hf], hk, Nat.le_refl _, h.same (getD_set_same hf) (by simp [h.len])⟩
/-- A round of the last loop. -/
theorem round4 {worn : List Int} {N n c : Nat} {l : List Ent} {has : List Bool} {last : Int} {y : List Ent × Int × Bool} (h : goodR worn N l n has) (hk : HOK l n c) (hn : 0 < n) (hl : ∀ e ∈ l.take n, last ≤ e.2) (hy : takePost First l n c y) :
    y.2.2 = true ∧ ∃ k, k < N ∧ y.2.1 = (k : Int) ∧ has.getD k false = true ∧ HOK y.1 (n - 1) c ∧ goodR worn N y.1 (n - 1) (has.set k false) ∧ last ≤ w6 worn k ∧ ∀ e ∈ y.1.take (n - 1), w6 worn k ≤ e.2 := by
  obtain ⟨h1, h2, e, h3, h4, h5⟩ := takeP hy hn
  obtain ⟨k, g1, g2, g3, g4⟩ := h.out h5
  subst g2
  refine ⟨h1, k, g1, h4, g3, h2, g4, ?_, fun a ha => ?_⟩
  · exact hl ((k : Int), w6 worn k) (h5.mem_iff.2 (List.mem_cons_self ..))
  · have := bef_f.1 (first_all hk.lt (List.Perm.refl _) h3 a (h5.mem_iff.2 (List.mem_cons_of_mem _ ha)))
    have this : w6 worn k < a.2 ∨ (a.2 = w6 worn k ∧ _) := this
    omega
end Go.Vx
