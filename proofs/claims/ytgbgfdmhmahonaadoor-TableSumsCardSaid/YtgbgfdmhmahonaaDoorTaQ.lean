/-
  Round 20: lists of slots in the order of their keys; two that say the same.
  Conditions: none.
-/
import Derived.Test.YtgbgfdmhmahonaaDoorTaP
set_option linter.unusedSectionVars false
set_option linter.unusedVariables false
set_option linter.unusedSimpArgs false
namespace Go.Vx
open Go Go.Proofs

def srtK (L : List Slot) : List Slot := L.mergeSort fun a b => decide (a.key ≤ b.key)
theorem srtK_srt (L : List Slot) : Srt leKey L (srtK L) := by
  refine ⟨List.mergeSort_perm _ _, ?_⟩
  have := List.pairwise_mergeSort (le := fun a b : Slot => decide (a.key ≤ b.key)) (fun a b c h1 h2 => by simp at *; omega) (fun a b => by simp; omega) L
  exact this.imp fun h => of_decide_eq_true h
theorem srtK_one {L l' : List Slot} (hL : Lok L) (h : Srt leKey L l') : l' = srtK L := by
  refine List.Perm.eq_of_pairwise (le := leKey) (fun a b ha hb h1 h2 => ?_) h.ord (srtK_srt L).ord (h.perm.trans (srtK_srt L).perm.symm)
  exact hL.key (h.perm.mem_iff.1 ha) ((srtK_srt L).perm.mem_iff.1 hb) (Int.le_antisymm h1 h2)
theorem sameB_iff : ∀ {A B : List Slot}, sameB A B = true ↔ A.length = B.length ∧ ∀ i, i < A.length → alikeB (A.getD i slot0) (B.getD i slot0) = true
  | [], [] => by simp [sameB]
  | [], _ :: _ => by simp [sameB]
  | _ :: _, [] => by simp [sameB]
  | a :: A, b :: B => by
    simp only [sameB, Bool.and_eq_true, sameB_iff (A := A) (B := B), List.length_cons, Nat.add_right_cancel_iff]
    constructor
    · rintro ⟨h1, h2, h3⟩
      refine ⟨h2, fun i hi => ?_⟩
      cases i with
      | zero => exact h1
      | succ i => exact h3 i (by omega)
    · rintro ⟨h2, h3⟩
      exact ⟨h3 0 (by omega), h2, fun i hi => h3 (i + 1) (by omega)⟩
theorem alikeB_comm (a b : Slot) : alikeB a b = alikeB b a := by
  unfold alikeB
  rw [decide_eq_decide.2 (eq_comm : a.key = b.key ↔ _), decide_eq_decide.2 (eq_comm : a.pl.1 = b.pl.1 ↔ _), decide_eq_decide.2 (eq_comm : a.pl.2 = b.pl.2 ↔ _), decide_eq_decide.2 (eq_comm : a.me.seq = b.me.seq ↔ _), decide_eq_decide.2 (eq_comm : a.me.kind = b.me.kind ↔ _)]
theorem alikeB_self (a : Slot) : alikeB a a = true := by simp [alikeB]
theorem sameB_comm : ∀ (A B : List Slot), sameB A B = sameB B A
  | [], [] => rfl
  | [], _ :: _ => rfl
  | _ :: _, [] => rfl
  | a :: A, b :: B => by simp only [sameB, alikeB_comm a b, sameB_comm A B]
theorem sameB_self : ∀ (A : List Slot), sameB A A = true
  | [] => rfl
  | a :: A => by simp [sameB, alikeB_self, sameB_self A]
/-- The other one has that key, and says the same of it. -/
def good (M : List Slot) (s : Slot) : Bool :=
  lhas M s.key && (decide ((lget M s.key).pl.1 = s.pl.1) && decide ((lget M s.key).pl.2 = s.pl.2)) && decide ((lget M s.key).me.seq = s.me.seq) && decide ((lget M s.key).me.kind = s.me.kind)
theorem keys_one {A B : List Int} (hA : A.Pairwise (· ≤ ·)) (hB : B.Pairwise (· ≤ ·)) (nA : A.Nodup) (nB : B.Nodup) (hl : A.length = B.length) (hs : ∀ a ∈ A, a ∈ B) : A = B := by
  have hs' : ∀ b ∈ B, b ∈ A := by
    intro b hb
    refine Classical.byContradiction fun hn => ?_
    have h1 : (b :: A).Nodup := List.nodup_cons.2 ⟨hn, nA⟩
    have h2 : (b :: A).length ≤ B.length := h1.length_le_of_subset (fun x hx => by
      rcases List.mem_cons.1 hx with rfl | hx
      · exact hb
      · exact hs x hx)
    simp only [List.length_cons] at h2
    omega
  have hp : A.Perm B := (List.perm_ext_iff_of_nodup nA nB).2 fun a => ⟨hs a, hs' a⟩
  exact List.Perm.eq_of_pairwise (le := (· ≤ ·)) (fun a b _ _ h1 h2 => Int.le_antisymm h1 h2) hA hB hp
theorem getD_map_key {A : List Slot} {i : Nat} (h : i < A.length) : (A.map (·.key)).getD i 0 = (A.getD i slot0).key := by
  simp [List.getD, h]
theorem getD_mem {A : List Slot} {i : Nat} (h : i < A.length) : A.getD i slot0 ∈ A := by
  have : A.getD i slot0 = A[i] := by simp [List.getD, h]
  rw [this]; exact List.getElem_mem h
theorem same_good {L M : List Slot} (hL : Lok L) (hM : Lok M) : sameB (srtK L) (srtK M) = (decide (((srtK L).length : Int) = (M.length : Int)) && (srtK L).all (good M)) := by
  have pL := srtK_srt L
  have pM := srtK_srt M
  have nL : ((srtK L).map (·.key)).Nodup := (pL.perm.map _).symm.nodup hL.nk
  have nM : ((srtK M).map (·.key)).Nodup := (pM.perm.map _).symm.nodup hM.nk
  have lM := pM.perm.length_eq
  refine Bool.eq_iff_iff.2 ?_
  rw [sameB_iff, Bool.and_eq_true, decide_eq_true_eq, List.all_eq_true]
  constructor
  · rintro ⟨h1, h2⟩
    refine ⟨by omega, fun s hs => ?_⟩
    obtain ⟨i, hi, rfl⟩ := List.getElem_of_mem hs
    have h3 := h2 i hi
    have e1 : (srtK L).getD i slot0 = (srtK L)[i] := by simp [List.getD, hi]
    rw [e1] at h3
    have hb : (srtK M).getD i slot0 ∈ M := pM.perm.mem_iff.1 (getD_mem (by omega))
    generalize (srtK M).getD i slot0 = b at h3 hb
    generalize (srtK L)[i] = a at h3
    simp only [alikeB, Bool.and_eq_true, decide_eq_true_eq] at h3
    obtain ⟨⟨⟨k, p1, p2⟩, sq⟩, kd⟩ := h3
    have hh : lhas M a.key = true := lhas_iff.2 ⟨b, hb, k.symm⟩
    have hg : lget M a.key = b := by rw [k]; exact hM.get hb
    simp only [good, hh, hg, Bool.true_and, Bool.and_eq_true, decide_eq_true_eq]
    exact ⟨⟨⟨p1.symm, p2.symm⟩, sq.symm⟩, kd.symm⟩
  · rintro ⟨h1, h2⟩
    have hlen : (srtK L).length = (srtK M).length := by omega
    have hkeys : (srtK L).map (·.key) = (srtK M).map (·.key) := by
      refine keys_one (List.pairwise_map.2 pL.ord) (List.pairwise_map.2 pM.ord) nL nM (by simpa using hlen) ?_
      intro k hk
      obtain ⟨a, ha, rfl⟩ := List.mem_map.1 hk
      have hg := h2 a ha
      simp only [good, Bool.and_eq_true] at hg
      obtain ⟨b, hb, hbk⟩ := lhas_iff.1 hg.1.1.1
      exact List.mem_map.2 ⟨b, pM.perm.mem_iff.2 hb, hbk⟩
    refine ⟨hlen, fun i hi => ?_⟩
    have hk : ((srtK L).getD i slot0).key = ((srtK M).getD i slot0).key := by
      rw [← getD_map_key hi, ← getD_map_key (by omega), hkeys]
    have hg := h2 _ (getD_mem hi)
    have hb : (srtK M).getD i slot0 ∈ M := pM.perm.mem_iff.1 (getD_mem (by omega))
    generalize (srtK M).getD i slot0 = b at hk hb
    generalize (srtK L).getD i slot0 = a at hk hg
    have hgt : lget M a.key = b := by rw [hk]; exact hM.get hb
    simp only [good, hgt, Bool.and_eq_true, decide_eq_true_eq] at hg
    obtain ⟨⟨⟨_, p1, p2⟩, sq⟩, kd⟩ := hg
    simp only [alikeB, Bool.and_eq_true, decide_eq_true_eq]
    exact ⟨⟨⟨hk, p1.symm, p2.symm⟩, sq.symm⟩, kd.symm⟩
end Go.Vx
