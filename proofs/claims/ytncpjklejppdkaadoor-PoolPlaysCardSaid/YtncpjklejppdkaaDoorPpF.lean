/-
  Round 17: plain law: a list in order, its first one, its most worn one, one put in, one taken out.
  Conditions: none.
-/
import Derived.Test.YtncpjklejppdkaaDoorPpD
set_option linter.unusedSectionVars false
set_option maxRecDepth 100000
set_option linter.unusedVariables false
set_option linter.unusedSimpArgs false
namespace Go.Vx
open Go Go.Proofs
variable [Gl]

theorem bef_tt {a b : Ent} : bef a b = true ↔ a.2 < b.2 ∨ (a.2 = b.2 ∧ a.1 < b.1) := by simp [bef]
theorem bef_ff {a b : Ent} : bef a b = false ↔ b.2 < a.2 ∨ (b.2 = a.2 ∧ b.1 ≤ a.1) := by
  have h := bef_tt (a := a) (b := b)
  cases hb : bef a b with
  | true => simp only [hb, true_iff] at h; simp; omega
  | false => simp only [hb, Bool.false_eq_true, false_iff] at h; simp; omega
/-- In order, no block twice. -/
structure Rsd (L : List Ent) : Prop where
  srt : L.Pairwise fun a b => bef a b = true
  nod : (L.map (·.1)).Nodup
theorem Rsd.nil : Rsd [] := ⟨List.Pairwise.nil, List.nodup_nil⟩
theorem Rsd.tail {L : List Ent} (h : Rsd L) : Rsd (L.drop 1) := by
  cases L with
  | nil => exact h
  | cons a L =>
    obtain ⟨h1, h2⟩ := h
    rw [List.pairwise_cons] at h1
    rw [List.map_cons, List.nodup_cons] at h2
    exact ⟨h1.2, h2.2⟩
theorem Rsd.cut {L : List Ent} (h : Rsd L) (i : Nat) : Rsd (L.take i ++ L.drop (i + 1)) := by
  have hs : (L.take i ++ L.drop (i + 1)).Sublist L := by
    rw [← List.eraseIdx_eq_take_drop_succ]
    exact List.eraseIdx_sublist _ _
  exact ⟨h.srt.sublist hs, (h.nod.sublist (hs.map _))⟩
/-- One that comes ahead of none of the others stands first. -/
theorem Rsd.first {L : List Ent} (h : Rsd L) {e : Ent} (he : e ∈ L) (hf : ∀ x ∈ L, bef x e = false) : L.getD 0 (0, 0) = e := by
  cases L with
  | nil => cases he
  | cons a L =>
    show a = e
    have h1 := hf a (by simp)
    rw [List.mem_cons] at he
    rcases he with he | he
    · exact he.symm
    · have := (List.pairwise_cons.1 h.srt).1 e he
      rw [h1] at this
      exact absurd this (by decide)
theorem bef_trt {a b c : Ent} (h1 : bef a b = true) (h2 : bef b c = true) : bef a c = true := by
  rw [bef_tt] at *
  omega
theorem bef_tot {a b : Ent} (h : bef a b = false) (hn : a.1 ≠ b.1) : bef b a = true := by
  rw [bef_ff] at h
  rw [bef_tt]
  omega
/-- One more, at its place. -/
theorem Rsd.put {L : List Ent} (h : Rsd L) {e : Ent} {i : Nat} (hi : i ≤ L.length) (hn : hasB L e.1 = false) (h1 : ∀ j, j < i → bef (L.getD j (0, 0)) e = true) (h2 : i < L.length → bef (L.getD i (0, 0)) e = false) :
    Rsd (L.take i ++ [e] ++ L.drop i) := by
  have hne : ∀ x ∈ L, x.1 ≠ e.1 := by
    intro x hx hxe
    obtain ⟨k, hk, rfl⟩ := mem_get.1 hx
    have := hasB_iff.2 ⟨k, hk, hxe⟩
    rw [hn] at this
    exact absurd this (by decide)
  have hs := h.srt
  rw [← List.take_append_drop i L, List.pairwise_append] at hs
  obtain ⟨p1, p2, p3⟩ := hs
  have q1 : ∀ d ∈ L.drop i, bef e d = true := by
    intro d hd
    obtain ⟨j, hj, rfl⟩ := List.mem_iff_getElem.1 hd
    rw [List.length_drop] at hj
    rw [List.getElem_drop]
    have hb := h2 (by omega)
    have e0 : L.getD i (0, 0) = L[i]'(by omega) := by simp [List.getD_eq_getElem?_getD, show i < L.length by omega]
    rw [e0] at hb
    have hb := bef_tot hb (hne _ (List.getElem_mem _))
    by_cases hj0 : j = 0
    · subst hj0; simpa using hb
    · exact bef_trt hb ((List.pairwise_iff_getElem.1 h.srt) i (i + j) (by omega) (by omega) (by omega))
  have q2 : ∀ d ∈ L.take i, bef d e = true := by
    intro d hd
    obtain ⟨j, hj, rfl⟩ := List.mem_iff_getElem.1 hd
    rw [List.length_take] at hj
    rw [List.getElem_take]
    have := h1 j (by omega)
    have e0 : L.getD j (0, 0) = L[j]'(by omega) := by simp [List.getD_eq_getElem?_getD, show j < L.length by omega]
    rwa [e0] at this
  constructor
  · rw [List.append_assoc, List.pairwise_append]
    refine ⟨p1, ?_, ?_⟩
    · rw [List.singleton_append, List.pairwise_cons]
      exact ⟨q1, p2⟩
    · intro a ha b hb
      rw [List.singleton_append] at hb
      rcases List.mem_cons.1 hb with rfl | hb
      · exact q2 a ha
      · exact p3 a ha b hb
  · have hp : ((L.take i ++ [e] ++ L.drop i).map (·.1)).Perm (e.1 :: L.map (·.1)) := by
      rw [← List.map_cons (f := fun (x : Ent) => x.1)]
      refine List.Perm.map _ ?_
      rw [List.append_assoc, List.singleton_append]
      refine List.perm_middle.trans ?_
      rw [List.take_append_drop]
    rw [hp.nodup_iff, List.nodup_cons]
    refine ⟨?_, h.nod⟩
    intro hm
    obtain ⟨x, hx, hxe⟩ := List.mem_map.1 hm
    exact hne x hx hxe
theorem most_same {a b : Ent} (h1 : mst a b = false) (h2 : mst b a = false) : a = b := by
  rw [mst_f] at h1 h2
  obtain ⟨a1, a2⟩ := a
  obtain ⟨b1, b2⟩ := b
  simp only at h1 h2
  have e1 : a1 = b1 := by omega
  have e2 : a2 = b2 := by omega
  rw [e1, e2]
/-- Those of one block number are one. -/
theorem Rsd.one {L : List Ent} (h : Rsd L) {i j : Nat} (hi : i < L.length) (hj : j < L.length) (he : (L.getD i (0, 0)).1 = (L.getD j (0, 0)).1) : i = j := by
  have e : ∀ k (hk : k < L.length), (L.map (·.1))[k]'(by rw [List.length_map]; exact hk) = (L.getD k (0, 0)).1 := by
    intro k hk
    simp [List.getD_eq_getElem?_getD, hk]
  exact (List.getElem_inj h.nod).1 ((e i hi).trans (he.trans (e j hj).symm))
/-- Taken out of the list, taken out of those that are the same but turned about. -/
theorem cut_perm {L : List Ent} {i : Nat} (hi : i < L.length) : L.Perm (L.getD i (0, 0) :: (L.take i ++ L.drop (i + 1))) := by
  have e : L = L.take i ++ (L.getD i (0, 0) :: L.drop (i + 1)) := by
    conv => lhs; rw [← List.take_append_drop i L]
    congr 1
    rw [List.drop_eq_getElem_cons hi]
    congr 1
    simp [List.getD_eq_getElem?_getD, hi]
  conv => lhs; rw [e]
  exact List.perm_middle
end Go.Vx
