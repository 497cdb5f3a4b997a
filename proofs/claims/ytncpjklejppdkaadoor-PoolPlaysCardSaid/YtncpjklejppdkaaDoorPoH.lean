/-
  Round 17: a heap in a list: plain law of up and down.
  Conditions: none.
-/
import Derived.Test.YtncpjklejppdkaaDoorPoA
set_option linter.unusedVariables false
set_option linter.unusedSimpArgs false
namespace Go.Vx
open Go

theorem bef_t {a b : Ent} : bef a b = true ↔ a.2 < b.2 ∨ (a.2 = b.2 ∧ a.1 < b.1) := by
  simp [bef]
theorem bef_f {a b : Ent} : bef a b = false ↔ b.2 < a.2 ∨ (a.2 = b.2 ∧ b.1 ≤ a.1) := by
  have h := @bef_t a b
  cases hb : bef a b with
  | true => simp only [hb, true_iff] at h; simp; omega
  | false => simp only [hb, Bool.false_eq_true, false_iff] at h; simp; omega

abbrev at_ (l : List Ent) (k : Nat) : Ent := l.getD k (0, 0)
theorem length_swp (l : List Ent) (i j : Nat) : (swp l i j).length = l.length := by simp [swp]
theorem at_swp {l : List Ent} {i j : Nat} (hi : i < l.length) (hj : j < l.length) (k : Nat) :
    at_ (swp l i j) k = if k = j then at_ l i else if k = i then at_ l j else at_ l k := by
  simp only [at_, swp, List.getD_eq_getElem?_getD, List.getElem?_set, List.length_set]
  by_cases h1 : j = k
  · subst h1; simp [hj]
  · by_cases h2 : i = k
    · subst h2; simp [hi, h1, Ne.symm h1]
    · simp [h1, h2, Ne.symm h1, Ne.symm h2]
theorem perm_swp {l : List Ent} {i j : Nat} (hi : i < l.length) (hj : j < l.length) : (swp l i j).Perm l := by
  have := List.set_set_perm hi hj
  simpa [swp, List.getD_eq_getElem?_getD, hi, hj] using this

def par (k : Nat) : Nat := (k - 1) / 2
/-- In order, the least first. -/
def HeapL (l : List Ent) (n : Nat) : Prop := ∀ k, 0 < k → k < n → bef (at_ l k) (at_ l (par k)) = false
/-- But for j, which may come ahead of those above it. -/
def HeapUp (l : List Ent) (n j : Nat) : Prop :=
  (∀ k, 0 < k → k < n → k ≠ j → bef (at_ l k) (at_ l (par k)) = false) ∧ (∀ k, 0 < k → k < n → par k = j → 0 < j → bef (at_ l k) (at_ l (par j)) = false)
/-- But for i, which may come ahead of what is above it, or behind what is below. -/
def HeapX (l : List Ent) (n i : Nat) : Prop :=
  (∀ k, 0 < k → k < n → k ≠ i → par k ≠ i → bef (at_ l k) (at_ l (par k)) = false) ∧ (∀ k, 0 < k → k < n → par k = i → 0 < i → bef (at_ l k) (at_ l (par i)) = false)
/-- The same entries, but turned about; those beyond n stay. -/
def Same (l l' : List Ent) (n : Nat) : Prop := l'.length = l.length ∧ l'.Perm l ∧ ∀ k, n ≤ k → at_ l' k = at_ l k
theorem Same.refl (l : List Ent) (n : Nat) : Same l l n := ⟨rfl, List.Perm.refl _, fun _ _ => rfl⟩
theorem Same.swp {l0 l : List Ent} {n i j : Nat} (h : Same l0 l n) (hn : n ≤ l0.length) (hi : i < n) (hj : j < n) : Same l0 (swp l i j) n := by
  obtain ⟨h1, h2, h3⟩ := h
  refine ⟨by rw [length_swp, h1], (perm_swp (by omega) (by omega)).trans h2, fun k hk => ?_⟩
  rw [at_swp (by omega) (by omega), if_neg (by omega), if_neg (by omega), h3 k hk]

theorem up_step {l : List Ent} {n j : Nat} (h : HeapUp l n j) (hn : n ≤ l.length) (h0 : 0 < j) (hj : j < n) (hb : bef (at_ l j) (at_ l (par j)) = true) : HeapUp (swp l (par j) j) n (par j) := by
  have hpj : par j < j := by unfold par; omega
  have sw := at_swp (l := l) (i := par j) (j := j) (by omega) (by omega)
  rw [bef_t] at hb
  obtain ⟨h1, h2⟩ := h
  constructor
  · intro k hk0 hkn hki
    rw [sw, sw]
    have hpk : par k < k := by unfold par; omega
    have h1k := h1 k hk0 hkn
    have h2k := h2 k hk0 hkn
    simp only [bef_f] at h1k h2k ⊢
    by_cases e1 : k = j
    · subst e1
      rw [if_pos rfl, if_neg (by omega), if_pos rfl]
      omega
    · rw [if_neg e1, if_neg hki]
      have h1k := h1k e1
      by_cases e2 : par k = j
      · rw [if_pos e2]; exact h2k e2 h0
      · rw [if_neg e2]
        by_cases e3 : par k = par j
        · rw [if_pos e3]; rw [e3] at h1k; omega
        · rw [if_neg e3]; exact h1k
  · intro k hk0 hkn hpk hp0
    rw [sw, sw]
    have hppj : par (par j) < par j := by unfold par at hp0 ⊢; omega
    have h1p := h1 (par j) hp0 (by omega) (by omega)
    have h1k := h1 k hk0 hkn
    simp only [bef_f] at h1p h1k ⊢
    rw [if_neg (by omega : par (par j) ≠ j), if_neg (by omega : par (par j) ≠ par j)]
    by_cases e1 : k = j
    · rw [if_pos e1]; exact h1p
    · have : par k < k := by unfold par; omega
      rw [if_neg e1, if_neg (by omega : k ≠ par j)]
      have h1k := h1k e1
      rw [hpk] at h1k
      omega
theorem up_done {l : List Ent} {n j : Nat} (h : HeapUp l n j) (hb : 0 < j → bef (at_ l j) (at_ l (par j)) = false) : HeapL l n := by
  intro k hk0 hkn
  by_cases e : k = j
  · subst e; exact hb hk0
  · exact h.1 k hk0 hkn e

theorem down_step {l : List Ent} {n i j : Nat} (h : HeapX l n i) (hn : n ≤ l.length) (hj : j < n) (hp : par j = i) (h0 : 0 < j) (hleast : ∀ k, 0 < k → k < n → par k = i → bef (at_ l k) (at_ l j) = false)
    (hb : bef (at_ l j) (at_ l i) = true) (hi : 0 < i → bef (at_ l i) (at_ l (par i)) = false ∨ True) : HeapX (swp l i j) n j ∧ bef (at_ (swp l i j) j) (at_ (swp l i j) (par j)) = false := by
  have hij : i < j := by subst hp; unfold par; omega
  have sw := at_swp (l := l) (i := i) (j := j) (by omega) (by omega)
  obtain ⟨h1, h2⟩ := h
  refine ⟨⟨?_, ?_⟩, ?_⟩
  · intro k hk0 hkn hkj hpk
    rw [sw, sw, if_neg hkj, if_neg hpk]
    have hpk' : par k < k := by unfold par; omega
    by_cases e1 : k = i
    · subst e1
      rw [if_pos rfl, if_neg (by omega)]
      exact h2 j h0 hj hp hk0
    · rw [if_neg e1]
      by_cases e2 : par k = i
      · rw [if_pos e2]; exact hleast k hk0 hkn e2
      · rw [if_neg e2]; exact h1 k hk0 hkn e1 e2
  · intro k hk0 hkn hpk _
    have hpk' : par k < k := by unfold par; omega
    rw [sw, sw, if_neg (by omega), if_neg (by omega), hp, if_neg (by omega), if_pos rfl]
    have := h1 k hk0 hkn (by omega) (by omega)
    rw [hpk] at this; exact this
  · rw [sw, sw, if_pos rfl, hp, if_neg (by omega), if_pos rfl]
    rw [bef_t] at hb; rw [bef_f]; omega
theorem down_done {l : List Ent} {n i : Nat} (h : HeapX l n i) (hb : ∀ k, 0 < k → k < n → par k = i → bef (at_ l k) (at_ l i) = false) : HeapUp l n i := by
  refine ⟨fun k hk0 hkn hki => ?_, h.2⟩
  by_cases e : par k = i
  · rw [e]; exact hb k hk0 hkn e
  · exact h.1 k hk0 hkn hki e

/-- One more at the end. -/
theorem heap_push {l : List Ent} {n : Nat} (h : HeapL l n) (l' : List Ent) (he : ∀ k, k < n → at_ l' k = at_ l k) : HeapUp l' (n + 1) n := by
  constructor
  · intro k hk0 hkn hkj
    have hpk' : par k < k := by unfold par; omega
    rw [he k (by omega), he _ (by omega)]
    exact h k hk0 (by omega)
  · intro k hk0 hkn hpk
    unfold par at hpk; omega
/-- Those at i and at the end turned about, the end off. -/
theorem heap_cut {l : List Ent} {n i : Nat} (h : HeapL l (n + 1)) (hn : n < l.length) (hi : i ≤ n) : HeapX (swp l i n) n i := by
  have sw := at_swp (l := l) (i := i) (j := n) (by omega) (by omega)
  constructor
  · intro k hk0 hkn hki hpk
    have hpk' : par k < k := by unfold par; omega
    rw [sw, sw, if_neg (by omega), if_neg hki, if_neg (by omega), if_neg hpk]
    exact h k hk0 (by omega)
  · intro k hk0 hkn hpk h0
    have hpk' : par k < k := by unfold par; omega
    have hpi : par i < i := by unfold par; omega
    rw [sw, sw, if_neg (by omega), if_neg (by omega), if_neg (by omega), if_neg (by omega)]
    have a := h k hk0 (by omega)
    have b := h i h0 (by omega)
    rw [hpk] at a
    rw [bef_f] at a b ⊢
    omega
/-- The first one is the least. -/
theorem heap_first {l : List Ent} {n : Nat} (h : HeapL l n) : ∀ k, k < n → bef (at_ l k) (at_ l 0) = false := by
  intro k
  induction k using Nat.strongRecOn with
  | _ k ih =>
    intro hk
    by_cases h0 : k = 0
    · subst h0; rw [bef_f]; omega
    · have hp : par k < k := by unfold par; omega
      have a := ih (par k) hp (by omega)
      have b := h k (by omega) hk
      rw [bef_f] at a b ⊢; omega

theorem Same.trans {a b c : List Ent} {n : Nat} (h : Same a b n) (h' : Same b c n) : Same a c n :=
  ⟨h'.1.trans h.1, h'.2.1.trans h.2.1, fun k hk => (h'.2.2 k hk).trans (h.2.2 k hk)⟩
theorem Same.le {a b : List Ent} {n m : Nat} (h : Same a b n) (hm : n ≤ m) : Same a b m := ⟨h.1, h.2.1, fun k hk => h.2.2 k (by omega)⟩
theorem at_get {l : List Ent} {k : Nat} (h : k < l.length) : l[k]? = some (at_ l k) := by
  simp [at_, List.getD_eq_getElem?_getD, h]
theorem Same.take {l l' : List Ent} {n : Nat} (h : Same l l' n) : (l'.take n).Perm (l.take n) := by
  have hd : l'.drop n = l.drop n := by
    apply List.ext_getElem?
    intro k
    rw [List.getElem?_drop, List.getElem?_drop]
    by_cases hk : n + k < l.length
    · rw [at_get hk, at_get (by rw [h.1]; exact hk), h.2.2 _ (by omega)]
    · rw [List.getElem?_eq_none (by rw [h.1]; omega), List.getElem?_eq_none (by omega)]
  have := h.2.1
  rw [← List.take_append_drop n l', ← List.take_append_drop n l, hd] at this
  exact (List.perm_append_right_iff _).1 this
theorem take_last {l : List Ent} {n : Nat} (h : n < l.length) : l.take (n + 1) = l.take n ++ [at_ l n] := by
  rw [List.take_add_one, at_get h]; rfl

/-- A heap in the first n of a list, of which c may be used. -/
structure HOK (l : List Ent) (n c : Nat) : Prop where
  le : n ≤ c
  len : c ≤ l.length
  heap : HeapL l n
theorem at_push {l : List Ent} {n k : Nat} (e : Ent) (sp : List Ent) (hk : k < n) (hn : n ≤ l.length) : at_ (l.take n ++ [e] ++ sp) k = at_ l k := by
  simp only [at_, List.getD_eq_getElem?_getD]
  rw [List.append_assoc, List.getElem?_append_left (by simp; omega), List.getElem?_take, if_pos hk]
/-- One more. -/
theorem HOK.push {l l' : List Ent} {n c c' : Nat} {e : Ent} {sp : List Ent} (h : HOK l n c) (hs : Same (l.take n ++ [e] ++ sp) l' (n + 1)) (hh : HeapL l' (n + 1)) (h1 : n + 1 ≤ c') (h2 : c' ≤ n + 1 + sp.length) :
    HOK l' (n + 1) c' ∧ (l'.take (n + 1)).Perm (l.take n ++ [e]) := by
  have := h.le; have := h.len
  have hl := hs.1
  simp at hl
  refine ⟨⟨h1, by omega, hh⟩, ?_⟩
  have := hs.take
  have e1 : (l.take n ++ [e] ++ sp).take (n + 1) = l.take n ++ [e] := by
    rw [List.take_append_of_le_length (by simp; omega)]
    rw [List.take_of_length_le (by simp; omega)]
  rwa [e1] at this
/-- One less: the one at i. -/
theorem HOK.cut {l l1 l' : List Ent} {n c i : Nat} (h : HOK l (n + 1) c) (hi : i ≤ n) (hs1 : l1 = swp l i n ∨ (i = n ∧ l1 = l)) (hs : Same l1 l' n) (hh : HeapL l' n) :
    HOK l' n c ∧ at_ l' n = at_ l i ∧ (l.take (n + 1)).Perm (at_ l i :: l'.take n) := by
  have h1 := h.le; have h2 := h.len
  have hS : Same l l1 (n + 1) := by
    rcases hs1 with e | ⟨_, e⟩
    · rw [e]; exact (Same.refl _ _).swp (by omega) (by omega) (by omega)
    · rw [e]; exact Same.refl _ _
  have hS2 := hS.trans (hs.le (Nat.le_succ n))
  have hn : at_ l' n = at_ l i := by
    rw [hs.2.2 n (Nat.le_refl _)]
    rcases hs1 with e | ⟨e0, e⟩
    · rw [e, at_swp (by omega) (by omega), if_pos rfl]
    · rw [e, e0]
  refine ⟨⟨by omega, by rw [hS2.1]; omega, hh⟩, hn, ?_⟩
  have := hS2.take.symm
  rw [take_last (l := l') (by rw [hS2.1]; omega), hn] at this
  exact this.trans List.perm_append_comm
end Go.Vx
