/-
  A heap in a list, over any order: plain law of up, down and the building of a heap.
  Conditions: none.
-/
import Derived.Test.YtoiiehjnfdhciaaVxA
set_option linter.unusedVariables false
set_option linter.unusedSimpArgs false
namespace Go.Vx.Hg
variable {α : Type}

/-- 'a comes ahead of b', of a total order in which some may stand alike. -/
structure Ord (lt : α → α → Bool) : Prop where
  asym : ∀ {a b}, lt a b = true → lt b a = false
  tr : ∀ {a b c}, lt b a = false → lt c b = false → lt c a = false
theorem Ord.irr {lt : α → α → Bool} (o : Ord lt) (a : α) : lt a a = false := by
  cases h : lt a a with
  | false => rfl
  | true => have := o.asym h; rw [h] at this; cases this

variable (d : α)
abbrev at_ (l : List α) (k : Nat) : α := l.getD k d
def swp (l : List α) (i j : Nat) : List α := (l.set i (l.getD j d)).set j (l.getD i d)
theorem length_swp (l : List α) (i j : Nat) : (swp d l i j).length = l.length := by simp [swp]
theorem at_swp {l : List α} {i j : Nat} (hi : i < l.length) (hj : j < l.length) (k : Nat) :
    at_ d (swp d l i j) k = if k = j then at_ d l i else if k = i then at_ d l j else at_ d l k := by
  simp only [at_, swp, List.getD_eq_getElem?_getD, List.getElem?_set, List.length_set]
  by_cases h1 : j = k
  · subst h1; simp [hj]
  · by_cases h2 : i = k
    · subst h2; simp [hi, h1, Ne.symm h1]
    · simp [h1, h2, Ne.symm h1, Ne.symm h2]
theorem perm_swp {l : List α} {i j : Nat} (hi : i < l.length) (hj : j < l.length) : (swp d l i j).Perm l := by
  have := List.set_set_perm hi hj
  simpa [swp, List.getD_eq_getElem?_getD, hi, hj] using this
theorem at_get {l : List α} {k : Nat} (h : k < l.length) : l[k]? = some (at_ d l k) := by
  simp [at_, List.getD_eq_getElem?_getD, h]
theorem get_at {l : List α} {i : Nat} (h : i < l.length) : l[i] = at_ d l i := by simp [at_, List.getD_eq_getElem?_getD, h]
theorem mem_take {l : List α} {n : Nat} (hn : n ≤ l.length) {e : α} : e ∈ l.take n ↔ ∃ k, k < n ∧ at_ d l k = e := by
  rw [List.mem_iff_getElem]
  constructor
  · rintro ⟨k, hk, rfl⟩
    simp at hk
    exact ⟨k, by omega, by rw [List.getElem_take, get_at d]⟩
  · rintro ⟨k, hk, rfl⟩
    exact ⟨k, by simp; omega, by rw [List.getElem_take, get_at d]⟩

def par (k : Nat) : Nat := (k - 1) / 2
theorem kids {k i : Nat} (h : par k = i) (h0 : 0 < k) : k = 2 * i + 1 ∨ k = 2 * i + 2 := by unfold par at h; omega
theorem par1 (i : Nat) : par (2 * i + 1) = i := by unfold par; omega
theorem par2 (i : Nat) : par (2 * i + 2) = i := by unfold par; omega
theorem par_lt {k : Nat} (h : 0 < k) : par k < k := by unfold par; omega
theorem par_div (j : Nat) : ((j : Int) - 1).tdiv 2 = ((par j : Nat) : Int) := by
  unfold par
  cases j with
  | zero => rfl
  | succ k => rw [show ((k + 1 : Nat) : Int) - 1 = (k : Int) by omega, Int.tdiv_eq_ediv_of_nonneg (by omega)]; omega

/-- The same entries, but turned about; those beyond n stay. -/
def Same (l l' : List α) (n : Nat) : Prop := l'.length = l.length ∧ l'.Perm l ∧ ∀ k, n ≤ k → at_ d l' k = at_ d l k
theorem Same.refl (l : List α) (n : Nat) : Same d l l n := ⟨rfl, List.Perm.refl _, fun _ _ => rfl⟩
variable {d}
theorem Same.swp {l0 l : List α} {n i j : Nat} (h : Same d l0 l n) (hn : n ≤ l0.length) (hi : i < n) (hj : j < n) : Same d l0 (swp d l i j) n := by
  obtain ⟨h1, h2, h3⟩ := h
  refine ⟨by rw [length_swp, h1], (perm_swp d (by omega) (by omega)).trans h2, fun k hk => ?_⟩
  rw [at_swp d (by omega) (by omega), if_neg (by omega), if_neg (by omega), h3 k hk]
theorem Same.trans {a b c : List α} {n : Nat} (h : Same d a b n) (h' : Same d b c n) : Same d a c n :=
  ⟨h'.1.trans h.1, h'.2.1.trans h.2.1, fun k hk => (h'.2.2 k hk).trans (h.2.2 k hk)⟩
theorem Same.le {a b : List α} {n m : Nat} (h : Same d a b n) (hm : n ≤ m) : Same d a b m := ⟨h.1, h.2.1, fun k hk => h.2.2 k (by omega)⟩
theorem Same.take {l l' : List α} {n : Nat} (h : Same d l l' n) : (l'.take n).Perm (l.take n) := by
  have hd : l'.drop n = l.drop n := by
    apply List.ext_getElem?
    intro k
    rw [List.getElem?_drop, List.getElem?_drop]
    by_cases hk : n + k < l.length
    · rw [at_get d hk, at_get d (by rw [h.1]; exact hk), h.2.2 _ (by omega)]
    · rw [List.getElem?_eq_none (by rw [h.1]; omega), List.getElem?_eq_none (by omega)]
  have := h.2.1
  rw [← List.take_append_drop n l', ← List.take_append_drop n l, hd] at this
  exact (List.perm_append_right_iff _).1 this
theorem take_last {l : List α} {n : Nat} (h : n < l.length) : l.take (n + 1) = l.take n ++ [at_ d l n] := by
  rw [List.take_add_one, at_get d h]; rfl

variable (d) (lt : α → α → Bool)
/-- From place a on all below come no earlier than what is above them. -/
def HeapF (l : List α) (n a : Nat) : Prop := ∀ k, 0 < k → k < n → a ≤ par k → lt (at_ d l k) (at_ d l (par k)) = false
/-- In order, the least first. -/
def HeapL (l : List α) (n : Nat) : Prop := ∀ k, 0 < k → k < n → lt (at_ d l k) (at_ d l (par k)) = false
def HeapUp (l : List α) (n j : Nat) : Prop :=
  (∀ k, 0 < k → k < n → k ≠ j → lt (at_ d l k) (at_ d l (par k)) = false) ∧ (∀ k, 0 < k → k < n → par k = j → 0 < j → lt (at_ d l k) (at_ d l (par j)) = false)
/-- But for i; only those whose place above is a or more are looked at. -/
def HeapX (l : List α) (n a i : Nat) : Prop :=
  (∀ k, 0 < k → k < n → a ≤ par k → k ≠ i → par k ≠ i → lt (at_ d l k) (at_ d l (par k)) = false) ∧ (∀ k, 0 < k → k < n → par k = i → 0 < i → a ≤ par i → lt (at_ d l k) (at_ d l (par i)) = false)
variable {d lt}
theorem heapF_zero {l : List α} {n : Nat} : HeapF d lt l n 0 ↔ HeapL d lt l n := ⟨fun h k a b => h k a b (Nat.zero_le _), fun h k a b _ => h k a b⟩

theorem up_step (o : Ord lt) {l : List α} {n j : Nat} (h : HeapUp d lt l n j) (hn : n ≤ l.length) (h0 : 0 < j) (hj : j < n) (hb : lt (at_ d l j) (at_ d l (par j)) = true) : HeapUp d lt (swp d l (par j) j) n (par j) := by
  have hpj : par j < j := par_lt h0
  have sw := at_swp d (l := l) (i := par j) (j := j) (by omega) (by omega)
  have hb' := o.asym hb
  obtain ⟨h1, h2⟩ := h
  constructor
  · intro k hk0 hkn hki
    rw [sw, sw]
    have hpk : par k < k := par_lt hk0
    by_cases e1 : k = j
    · subst e1
      rw [if_pos rfl, if_neg (by omega), if_pos rfl]
      exact hb'
    · rw [if_neg e1, if_neg hki]
      have h1k := h1 k hk0 hkn e1
      by_cases e2 : par k = j
      · rw [if_pos e2]; exact h2 k hk0 hkn e2 h0
      · rw [if_neg e2]
        by_cases e3 : par k = par j
        · rw [if_pos e3]; rw [e3] at h1k; exact o.tr hb' h1k
        · rw [if_neg e3]; exact h1k
  · intro k hk0 hkn hpk hp0
    rw [sw, sw]
    have hppj : par (par j) < par j := par_lt hp0
    have h1p := h1 (par j) hp0 (by omega) (by omega)
    rw [if_neg (by omega : par (par j) ≠ j), if_neg (by omega : par (par j) ≠ par j)]
    by_cases e1 : k = j
    · rw [if_pos e1]; exact h1p
    · have : par k < k := par_lt hk0
      rw [if_neg e1, if_neg (by omega : k ≠ par j)]
      have h1k := h1 k hk0 hkn e1
      rw [hpk] at h1k
      exact o.tr h1p h1k
theorem up_done {l : List α} {n j : Nat} (h : HeapUp d lt l n j) (hb : 0 < j → lt (at_ d l j) (at_ d l (par j)) = false) : HeapL d lt l n := by
  intro k hk0 hkn
  by_cases e : k = j
  · subst e; exact hb hk0
  · exact h.1 k hk0 hkn e

theorem down_step (o : Ord lt) {l : List α} {n a i j : Nat} (h : HeapX d lt l n a i) (hn : n ≤ l.length) (hj : j < n) (hp : par j = i) (h0 : 0 < j) (ha : a ≤ i) (hleast : ∀ k, 0 < k → k < n → par k = i → lt (at_ d l k) (at_ d l j) = false)
    (hb : lt (at_ d l j) (at_ d l i) = true) : HeapX d lt (swp d l i j) n a j ∧ lt (at_ d (swp d l i j) j) (at_ d (swp d l i j) (par j)) = false := by
  have hij : i < j := by subst hp; exact par_lt h0
  have sw := at_swp d (l := l) (i := i) (j := j) (by omega) (by omega)
  obtain ⟨h1, h2⟩ := h
  refine ⟨⟨?_, ?_⟩, ?_⟩
  · intro k hk0 hkn hak hkj hpk
    rw [sw, sw, if_neg hkj, if_neg hpk]
    have hpk' : par k < k := par_lt hk0
    by_cases e1 : k = i
    · subst e1
      rw [if_pos rfl, if_neg (by omega)]
      exact h2 j h0 hj hp hk0 hak
    · rw [if_neg e1]
      by_cases e2 : par k = i
      · rw [if_pos e2]; exact hleast k hk0 hkn e2
      · rw [if_neg e2]; exact h1 k hk0 hkn hak e1 e2
  · intro k hk0 hkn hpk _ _
    have hpk' : par k < k := par_lt hk0
    rw [sw, sw, if_neg (by omega), if_neg (by omega), hp, if_neg (by omega), if_pos rfl]
    have := h1 k hk0 hkn (by omega) (by omega) (by omega)
    rw [hpk] at this; exact this
  · rw [sw, sw, if_pos rfl, hp, if_neg (by omega), if_pos rfl]
    exact o.asym hb
theorem down_done {l : List α} {n a i : Nat} (h : HeapX d lt l n a i) (hb : ∀ k, 0 < k → k < n → par k = i → lt (at_ d l k) (at_ d l i) = false) :
    (∀ k, 0 < k → k < n → a ≤ par k → k ≠ i → lt (at_ d l k) (at_ d l (par k)) = false) ∧ (∀ k, 0 < k → k < n → par k = i → 0 < i → a ≤ par i → lt (at_ d l k) (at_ d l (par i)) = false) := by
  refine ⟨fun k hk0 hkn hak hki => ?_, h.2⟩
  by_cases e : par k = i
  · rw [e]; exact hb k hk0 hkn e
  · exact h.1 k hk0 hkn hak hki e
theorem least2 (o : Ord lt) {l : List α} {n X : Nat} (h : lt (at_ d l (2 * X + 2)) (at_ d l (2 * X + 1)) = true) : ∀ k, 0 < k → k < n → par k = X → lt (at_ d l k) (at_ d l (2 * X + 2)) = false := by
  intro k hk0 _ hk
  rcases kids hk hk0 with e | e
  · rw [e]; exact o.asym h
  · rw [e]; exact o.irr _
theorem least1 (o : Ord lt) {l : List α} {n X : Nat} (h : 2 * X + 2 < n → lt (at_ d l (2 * X + 2)) (at_ d l (2 * X + 1)) = false) : ∀ k, 0 < k → k < n → par k = X → lt (at_ d l k) (at_ d l (2 * X + 1)) = false := by
  intro k hk0 hkn hk
  rcases kids hk hk0 with e | e
  · rw [e]; exact o.irr _
  · rw [e]; exact h (by omega)
theorem toN1 (X : Nat) : (2 * (X : Int) + 1).toNat = 2 * X + 1 := by omega
theorem toN2 (X : Nat) : (2 * (X : Int) + 1 + 1).toNat = 2 * X + 2 := by omega

/-- What down leaves: it tells whether it has moved something; then all is in order from a on (but where it has not moved: but for i). -/
def DownPost (d : α) (lt : α → α → Bool) (l : List α) (n a i : Nat) (y : List α × Bool) : Prop := Same d l y.1 n ∧ (y.2 = true → HeapF d lt y.1 n a) ∧
  (y.2 = false → (∀ k, 0 < k → k < n → a ≤ par k → k ≠ i → lt (at_ d y.1 k) (at_ d y.1 (par k)) = false) ∧ (∀ k, 0 < k → k < n → par k = i → 0 < i → a ≤ par i → lt (at_ d y.1 k) (at_ d y.1 (par i)) = false))
theorem down_end {l l1 : List α} {n a i X : Nat} (h : HeapX d lt l1 n a X) (hX : i ≤ X) (hs : Same d l l1 n) (hu : i < X → lt (at_ d l1 X) (at_ d l1 (par X)) = false)
    (hk : ∀ k, 0 < k → k < n → par k = X → lt (at_ d l1 k) (at_ d l1 X) = false) : DownPost d lt l n a i (l1, decide ((i : Int) < (X : Int))) := by
  have hup := down_done h hk
  refine ⟨hs, fun hb => ?_, fun hb => ?_⟩
  · have : i < X := by have := of_decide_eq_true hb; omega
    intro k hk0 hkn hak
    by_cases e : k = X
    · subst e; exact hu this
    · exact hup.1 k hk0 hkn hak e
  · have : i = X := by have := of_decide_eq_false hb; omega
    rw [this]; exact hup

/-- One step of the building of a heap: place i joins. -/
theorem HeapF.step {l : List α} {n i : Nat} (h : HeapF d lt l n (i + 1)) : HeapX d lt l n i i :=
  ⟨fun k a b c e1 e2 => h k a b (by omega), fun k a b c e1 e2 => by have := par_lt e1; omega⟩
theorem DownPost.joined {l : List α} {n i : Nat} {y : List α × Bool} (h : DownPost d lt l n i i y) : Same d l y.1 n ∧ HeapF d lt y.1 n i := by
  refine ⟨h.1, ?_⟩
  cases hy : y.2 with
  | true => exact h.2.1 hy
  | false =>
    intro k hk0 hkn hak
    refine (h.2.2 hy).1 k hk0 hkn hak ?_
    have := par_lt hk0
    omega
theorem HeapF.half {l : List α} {n : Nat} : HeapF d lt l n (n / 2) := fun k hk0 hkn hak => by
  exfalso
  unfold par at hak
  omega

/-- A heap in the first n of a list, of which c may be used. -/
structure HOK (d : α) (lt : α → α → Bool) (l : List α) (n c : Nat) : Prop where
  le : n ≤ c
  len : c ≤ l.length
  heap : HeapL d lt l n
theorem HOK.lt_len {l : List α} {n c : Nat} (h : HOK d lt l n c) : n ≤ l.length := Nat.le_trans h.le h.len
/-- Those at i and at the end turned about, the end off. -/
theorem heap_cut (o : Ord lt) {l : List α} {n i : Nat} (h : HeapL d lt l (n + 1)) (hn : n < l.length) (hi : i ≤ n) : HeapX d lt (swp d l i n) n 0 i := by
  have sw := at_swp d (l := l) (i := i) (j := n) (by omega) (by omega)
  constructor
  · intro k hk0 hkn _ hki hpk
    have hpk' : par k < k := par_lt hk0
    rw [sw, sw, if_neg (by omega), if_neg hki, if_neg (by omega), if_neg hpk]
    exact h k hk0 (by omega)
  · intro k hk0 hkn hpk h0 _
    have hpk' : par k < k := par_lt hk0
    have hpi : par i < i := par_lt h0
    rw [sw, sw, if_neg (by omega), if_neg (by omega), if_neg (by omega), if_neg (by omega)]
    have x := h k hk0 (by omega)
    have y := h i h0 (by omega)
    rw [hpk] at x
    exact o.tr y x
theorem heap_first (o : Ord lt) {l : List α} {n : Nat} (h : HeapL d lt l n) : ∀ k, k < n → lt (at_ d l k) (at_ d l 0) = false := by
  intro k
  induction k using Nat.strongRecOn with
  | _ k ih =>
    intro hk
    by_cases h0 : k = 0
    · subst h0; exact o.irr _
    · have hp : par k < k := par_lt (by omega)
      exact o.tr (ih (par k) hp (by omega)) (h k (by omega) hk)
/-- One less: the one at i. -/
theorem HOK.cut {l l1 l' : List α} {n c i : Nat} (h : HOK d lt l (n + 1) c) (hi : i ≤ n) (hs1 : l1 = swp d l i n ∨ (i = n ∧ l1 = l)) (hs : Same d l1 l' n) (hh : HeapL d lt l' n) :
    HOK d lt l' n c ∧ at_ d l' n = at_ d l i ∧ (l.take (n + 1)).Perm (at_ d l i :: l'.take n) := by
  have h1 := h.le; have h2 := h.len
  have hS : Same d l l1 (n + 1) := by
    rcases hs1 with e | ⟨_, e⟩
    · rw [e]; exact (Same.refl d _ _).swp (by omega) (by omega) (by omega)
    · rw [e]; exact Same.refl d _ _
  have hS2 := hS.trans (hs.le (Nat.le_succ n))
  have hn : at_ d l' n = at_ d l i := by
    rw [hs.2.2 n (Nat.le_refl _)]
    rcases hs1 with e | ⟨e0, e⟩
    · rw [e, at_swp d (by omega) (by omega), if_pos rfl]
    · rw [e, e0]
  refine ⟨⟨by omega, by rw [hS2.1]; omega, hh⟩, hn, ?_⟩
  have := hS2.take.symm
  rw [take_last (d := d) (l := l') (by rw [hS2.1]; omega), hn] at this
  exact this.trans List.perm_append_comm
end Go.Vx.Hg
