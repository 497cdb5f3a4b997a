/-
  Round 21: lists in order: there is one only. What an insertion makes.
  Conditions: none.
-/
import Derived.Test.YtoiiehjnfdhciaaViZ
set_option maxRecDepth 100000
set_option linter.unusedVariables false
set_option linter.unusedSimpArgs false
namespace Go.Vi
open Go Go.Vx Go.Proofs

abbrev leB (a b : Blk) : Prop := ah b a = false
theorem ah_iff {a b : Blk} : ah a b = true ↔ ag a b < 0 := by unfold ah; exact decide_eq_true_iff
theorem leB_iff {a b : Blk} : leB a b ↔ ¬ ag b a < 0 := by
  show ah b a = false ↔ _
  rw [← ah_iff]
  cases ah b a <;> simp
theorem leB_refl (a : Blk) : leB a a := by rw [leB_iff, ag_lt]; omega
theorem leB_trans {a b c : Blk} (h1 : leB a b) (h2 : leB b c) : leB a c := by
  rw [leB_iff, ag_lt] at *; omega
theorem leB_of {a b : Blk} (h : ah a b = true) : leB a b := by
  rw [ah_iff] at h
  rw [leB_iff]
  rw [ag_lt] at *; omega
theorem leB_anti {a b : Blk} (h1 : leB a b) (h2 : leB b a) : a = b := by
  rw [leB_iff, ag_lt] at h1 h2
  have k1 : fst1 a = fst1 b := by omega
  have k2 : a.2.1 = b.2.1 := by omega
  have k3 : a.2.2.1 = b.2.2.1 := by omega
  have k4 : a.1 = b.1 := by omega
  obtain ⟨a1, a2, a3, a4⟩ := a
  obtain ⟨b1, b2, b3, b4⟩ := b
  simp only at k2 k3 k4
  unfold fst1 at k1
  cases a4 <;> cases b4 <;> simp_all
theorem leI_B {a b : Itm} (h : leI a b) : leB a.1 b.1 := by
  have g1 : ¬ lessI b a = true := by rw [show lessI b a = false from h]; decide
  rw [lessI_t] at g1
  rw [leB_iff, ag_lt]
  omega
/-- A list in order. -/
abbrev SrB (L : List Blk) : Prop := L.Pairwise leB
/-- What comes first, and is no later than the others, is a beginning of the one list in order. -/
theorem pre_one : ∀ {D R X : List Blk}, (D ++ R).Perm X → SrB X → SrB D → (∀ d ∈ D, ∀ r ∈ R, leB d r) → D = X.take D.length
  | [], _, _, _, _, _, _ => by simp
  | a :: D, R, X, hp, hX, hD, hR => by
    cases X with
    | nil => have := hp.length_eq; simp at this
    | cons x X =>
      rw [SrB, List.pairwise_cons] at hX hD
      have hxa : leB x a := by
        have : a ∈ x :: X := hp.mem_iff.1 (by simp)
        rcases List.mem_cons.1 this with h | h
        · rw [h]; exact leB_refl x
        · exact hX.1 a h
      have hax : leB a x := by
        have : x ∈ a :: D ++ R := hp.mem_iff.2 (by simp)
        rw [List.cons_append] at this
        rcases List.mem_cons.1 this with h | h
        · rw [h]; exact leB_refl a
        · rcases List.mem_append.1 h with h | h
          · exact hD.1 x h
          · exact hR a (by simp) x h
      have e : a = x := leB_anti hax hxa
      subst e
      have hp' : (D ++ R).Perm X := (List.perm_cons a).1 hp
      have ih := pre_one hp' hX.2 hD.2 (fun d hd r hr => hR d (by simp [hd]) r hr)
      rw [List.length_cons, List.take_succ_cons, ← ih]
theorem one_list {D X : List Blk} (hp : D.Perm X) (hX : SrB X) (hD : SrB D) : D = X := by
  have := pre_one (R := []) (by simpa using hp) hX hD (by simp)
  rw [this, hp.length_eq, List.take_length]
theorem popd_pre {its D l : List Itm} {n c : Nat} {X : List Blk} (h : Popd its D l n c) (hp : X.Perm (its.map (·.1))) (hX : SrB X) : D.map (·.1) = X.take D.length := by
  have := pre_one (D := D.map (·.1)) (R := (l.take n).map (·.1)) (X := X) ?_ hX ?_ ?_
  · simpa using this
  · have := h.perm.map (·.1)
    rw [List.map_append] at this
    exact this.trans hp.symm
  · rw [SrB, List.pairwise_map]
    exact h.srt.imp leI_B
  · intro d hd r hr
    obtain ⟨x, hx, rfl⟩ := List.mem_map.1 hd
    obtain ⟨y, hy, rfl⟩ := List.mem_map.1 hr
    exact leI_B (h.low y hy x hx)
theorem srt_one {its D : List Itm} {X : List Blk} (h : Srt its D) (hp : X.Perm (its.map (·.1))) (hX : SrB X) : D.map (·.1) = X := by
  refine one_list ((h.1.map (·.1)).trans hp.symm) hX ?_
  rw [SrB, List.pairwise_map]
  exact h.2.imp leI_B
theorem head_one {its : List Itm} {e : Itm} {X : List Blk} (h : Head its e) (hp : X.Perm (its.map (·.1))) (hX : SrB X) (h0 : 0 < X.length) : e.1 = X.getD 0 z0 := by
  cases X with
  | nil => simp at h0
  | cons x X =>
    rw [SrB, List.pairwise_cons] at hX
    show e.1 = x
    refine leB_anti ?_ ?_
    · have : x ∈ its.map (·.1) := hp.mem_iff.1 (by simp)
      obtain ⟨y, hy, rfl⟩ := List.mem_map.1 this
      exact leI_B (h.2 y hy)
    · have : e.1 ∈ x :: X := hp.mem_iff.2 (List.mem_map.2 ⟨e, h.1, rfl⟩)
      rcases List.mem_cons.1 this with h | h
      · rw [h]; exact leB_refl x
      · exact hX.1 _ h
/-- x goes in ahead of place k. -/
theorem ins_srt {s : List Blk} {x : Blk} {k : Nat} (hs : SrB s) (hk : k ≤ s.length) (h1 : ∀ j, k ≤ j → j < s.length → ah x (s.getD j z0) = true) (h2 : 0 < k → ah x (s.getD (k - 1) z0) = false) :
    SrB (s.take k ++ [x] ++ s.drop k) := by
  have hs' := hs
  rw [← List.take_append_drop k s] at hs'
  rw [SrB, List.pairwise_append] at hs'
  obtain ⟨p1, p2, p3⟩ := hs'
  have q1 : ∀ d ∈ s.drop k, leB x d := by
    intro d hd
    obtain ⟨j, hj, rfl⟩ := List.mem_iff_getElem.1 hd
    rw [List.length_drop] at hj
    have := h1 (k + j) (by omega) (by omega)
    rw [List.getElem_drop]
    have e : s.getD (k + j) z0 = s[k + j] := by simp [List.getD_eq_getElem?_getD, show k + j < s.length by omega]
    rw [e] at this
    exact leB_of this
  have q2 : ∀ d ∈ s.take k, leB d x := by
    intro d hd
    obtain ⟨j, hj, rfl⟩ := List.mem_iff_getElem.1 hd
    rw [List.length_take] at hj
    have hl := h2 (by omega)
    have e : s.getD (k - 1) z0 = s[k - 1]'(by omega) := by simp [List.getD_eq_getElem?_getD, show k - 1 < s.length by omega]
    rw [e] at hl
    rw [List.getElem_take]
    by_cases hj1 : j = k - 1
    · subst hj1; exact hl
    · exact leB_trans ((List.pairwise_iff_getElem.1 hs) j (k - 1) (by omega) (by omega) (by omega)) hl
  rw [SrB, List.append_assoc, List.pairwise_append]
  refine ⟨p1, ?_, ?_⟩
  · rw [List.singleton_append, List.pairwise_cons]
    exact ⟨q1, p2⟩
  · intro a ha b hb
    rw [List.singleton_append] at hb
    rcases List.mem_cons.1 hb with rfl | hb
    · exact q2 a ha
    · exact p3 a ha b hb
theorem ins_perm {s : List Blk} {x : Blk} {k : Nat} : (s.take k ++ [x] ++ s.drop k).Perm (s ++ [x]) := by
  have e : s ++ [x] = s.take k ++ (s.drop k ++ [x]) := by rw [← List.append_assoc, List.take_append_drop]
  rw [e, List.append_assoc]
  exact (List.perm_append_comm).append_left _
end Go.Vi
