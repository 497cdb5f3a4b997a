/-
  Round 21: two queues of the same blocks, popped side by side.
  Conditions: none.
-/
import Derived.Test.YtoiiehjnfdhciaaViM
set_option maxRecDepth 100000
set_option linter.unusedVariables false
set_option linter.unusedSimpArgs false
namespace Go.Vi
open Go Go.Vx Go.Proofs

/-- The blocks taken from both so far are B; their numbers are 0 to N - 1, each once. -/
def Turn (N : Nat) (B : List Blk) (la lb : List Itm) (n ca cb : Nat) : Prop :=
  ∃ ia ib Da Db, Popd ia Da la n ca ∧ Popd ib Db lb n cb ∧ Da.map (·.1) = B ∧ Db.map (·.1) = B ∧ (ia.map (·.1)).Perm (ib.map (·.1)) ∧ ((ia.map (·.1)).map (·.1)).Perm ((List.range N).map fun (j : Nat) => (j : Int))
theorem blk_eq {a b x y : Itm} (h1 : leI a x) (h2 : leI b y) (hx : x.1 = b.1) (hy : y.1 = a.1) : a.1 = b.1 := by
  have g1 : ¬ lessI x a = true := by rw [show lessI x a = false from h1]; decide
  have g2 : ¬ lessI y b = true := by rw [show lessI y b = false from h2]; decide
  rw [lessI_t, hx] at g1
  rw [lessI_t, hy] at g2
  have k1 : fst1 a.1 = fst1 b.1 := by omega
  have k2 : a.1.2.1 = b.1.2.1 := by omega
  have k3 : a.1.2.2.1 = b.1.2.2.1 := by omega
  have k4 : a.1.1 = b.1.1 := by omega
  have k5 : a.1.2.2.2 = b.1.2.2.2 := by
    unfold fst1 at k1
    cases ha : a.1.2.2.2 <;> cases hb : b.1.2.2.2 <;> simp [ha, hb] at k1 <;> rfl
  obtain ⟨⟨a1, a2, a3, a4⟩, a5⟩ := a
  obtain ⟨⟨b1, b2, b3, b4⟩, b5⟩ := b
  simp only at k2 k3 k4 k5
  simp only [k2, k3, k4, k5]
theorem Turn.step {N : Nat} {B : List Blk} {la lb la' lb' : List Itm} {n ca cb : Nat} (h : Turn N B la lb n ca cb) (h0 : 0 < n) (ha : cutPost la (n - 1) ca 0 la') (hb : cutPost lb (n - 1) cb 0 lb') :
    (at_ la' (n - 1)).1 = (at_ lb' (n - 1)).1 ∧ Turn N (B ++ [(at_ la' (n - 1)).1]) la' lb' (n - 1) ca cb ∧ (∃ j, j < N ∧ (at_ la' (n - 1)).1.1 = (j : Int)) ∧ (at_ la' (n - 1)).1.1 ∉ B.map (·.1) := by
  obtain ⟨ia, ib, Da, Db, h1, h2, h3, h4, h5, h6⟩ := h
  have A := h1.step h0 ha
  have E := h2.step h0 hb
  generalize at_ la' (n - 1) = a at A ⊢
  generalize at_ lb' (n - 1) = b at E ⊢
  have pa : (B ++ (a.1 :: (la'.take (n - 1)).map (·.1))).Perm (ia.map (·.1)) := by
    have := A.perm.map (·.1)
    simpa [List.map_append, h3] using this
  have pb : (B ++ (b.1 :: (lb'.take (n - 1)).map (·.1))).Perm (ib.map (·.1)) := by
    have := E.perm.map (·.1)
    simpa [List.map_append, h4] using this
  have pr : (a.1 :: (la'.take (n - 1)).map (·.1)).Perm (b.1 :: (lb'.take (n - 1)).map (·.1)) :=
    (List.perm_append_left_iff B).1 (pa.trans (h5.trans pb.symm))
  have fx : ∀ {a : Itm} {l : List Itm} {c : Blk}, (∀ x ∈ l, leI a x) → c ∈ a.1 :: l.map (·.1) → ∃ x, leI a x ∧ x.1 = c := by
    intro a l c hl hc
    rcases List.mem_cons.1 hc with rfl | hc
    · exact ⟨a, ordI.irr a, rfl⟩
    · obtain ⟨x, hx, rfl⟩ := List.mem_map.1 hc
      exact ⟨x, hl x hx, rfl⟩
  have lowa : ∀ x ∈ la'.take (n - 1), leI a x := fun x hx => A.low x hx a (by simp)
  have lowb : ∀ x ∈ lb'.take (n - 1), leI b x := fun x hx => E.low x hx b (by simp)
  obtain ⟨x, hx1, hx2⟩ := fx lowa (pr.mem_iff.2 (List.mem_cons_self ..))
  obtain ⟨y, hy1, hy2⟩ := fx lowb (pr.mem_iff.1 (List.mem_cons_self ..))
  have e : a.1 = b.1 := blk_eq hx1 hy1 hx2 hy2
  have pn := (pa.map (·.1)).trans h6
  refine ⟨e, ⟨ia, ib, Da ++ [a], Db ++ [b], A, E, by simp [h3], by simp [h4, e], h5, h6⟩, ?_, ?_⟩
  · have : a.1.1 ∈ (List.range N).map fun (j : Nat) => (j : Int) := pn.mem_iff.1 (by simp)
    obtain ⟨j, hj, hj2⟩ := List.mem_map.1 this
    exact ⟨j, List.mem_range.1 hj, hj2.symm⟩
  · have nd : ((List.range N).map fun (j : Nat) => (j : Int)).Nodup := by
      rw [List.nodup_iff_pairwise_ne, List.pairwise_map]
      refine (List.nodup_range (n := N)).imp ?_
      intro p q hpq he
      exact hpq (by omega)
    have := pn.nodup_iff.2 nd
    rw [List.map_append, List.map_cons, List.nodup_append] at this
    intro hm
    exact this.2.2 _ hm _ (List.mem_cons_self ..) rfl
theorem Turn.hok {N : Nat} {B : List Blk} {la lb : List Itm} {n ca cb : Nat} (h : Turn N B la lb n ca cb) : Hg.HOK d0 lessI la n ca ∧ Hg.HOK d0 lessI lb n cb ∧ B.length + n = N := by
  obtain ⟨ia, ib, Da, Db, h1, h2, h3, h4, h5, h6⟩ := h
  refine ⟨h1.hok, h2.hok, ?_⟩
  have := h1.len
  have e := h6.length_eq
  simp at e
  rw [← h3, List.length_map]
  omega
theorem itms_fst (l : List Blk) (N : Nat) (h : N ≤ l.length) : (itms l N).map (·.1) = l.take N := by
  apply List.ext_getElem?
  intro k
  by_cases hk : k < N
  · simp [itms, hk, List.getElem?_take]
    rw [List.getElem?_eq_getElem (by omega)]; simp
  · simp [itms, hk, List.getElem?_take]
theorem Turn.start {N : Nat} {m r : List Blk} {la lb : List Itm} {ca cb : Nat} (hm : N ≤ m.length) (hr : N ≤ r.length) (hp : (m.take N).Perm (r.take N)) (hn : ∀ k, k < N → (m.getD k z0).1 = (k : Int))
    (ha : hOf (itms m N) la N ca) (hb : hOf (itms r N) lb N cb) : Turn N [] la lb N ca cb := by
  refine ⟨itms m N, itms r N, [], [], Popd.start ha, Popd.start hb, rfl, rfl, ?_, ?_⟩
  · rw [itms_fst m N hm, itms_fst r N hr]; exact hp
  · refine List.Perm.of_eq ?_
    rw [List.map_map]
    simp only [itms, List.map_map]
    refine List.map_congr_left fun k hk => ?_
    exact hn k (List.mem_range.1 hk)
end Go.Vi
