/-
  Round 21: the chapter's examples.
  Conditions: none.
-/
import Derived.Test.YtoiiehjnfdhciaaViK
set_option maxRecDepth 100000
set_option linter.unusedVariables false
set_option linter.unusedSimpArgs false
namespace Go.Vi
open Go Go.Vx Go.Proofs

abbrev L4 : List Blk := [(0, 3, 1, false), (1, 2, 9, false), (2, 2, 4, false), (3, 8, 0, true)]
theorem first2 {a b : Itm} {l : List Itm} {n c : Nat} (h : Popd (itms L4 4) [a, b] l n c) (h1 : Head (itms L4 4) a) : a.1.1 = 3 ∧ b.1.1 = 2 := by
  have hb : b ∈ itms L4 4 := h.perm.mem_iff.1 (by simp)
  have hne : b ≠ a := by
    have hn : (itms L4 4).Nodup := by decide
    have := h.perm.nodup_iff.2 hn
    simp at this
    exact fun e => this.1.1 e.symm
  have hmin : ∀ x ∈ itms L4 4, x ≠ a → leI b x := fun x hx hxa => by
    have := h.perm.mem_iff.2 hx
    rcases List.mem_append.1 this with hd | hd
    · simp at hd
      rcases hd with hd | hd
      · exact absurd hd hxa
      · rw [hd]; exact ordI.irr b
    · exact h.low x hd b (by simp)
  have ha : a = ((3, 8, 0, true), 3) := by
    have h2 := h1.2 ((3, 8, 0, true), 3) (by decide)
    have h3 : a ∈ [((0, 3, 1, false), 0), ((1, 2, 9, false), 1), ((2, 2, 4, false), 2), ((3, 8, 0, true), 3)] := h1.1
    simp only [List.mem_cons, List.mem_nil_iff, or_false] at h3
    rcases h3 with rfl | rfl | rfl | rfl
    · exact absurd h2 (by decide)
    · exact absurd h2 (by decide)
    · exact absurd h2 (by decide)
    · rfl
  subst ha
  refine ⟨rfl, ?_⟩
  have h2 := hmin ((2, 2, 4, false), 2) (by decide) (by decide)
  have h3 : b ∈ [((0, 3, 1, false), 0), ((1, 2, 9, false), 1), ((2, 2, 4, false), 2), ((3, 8, 0, true), 3)] := hb
  simp only [List.mem_cons, List.mem_nil_iff, or_false] at h3
  rcases h3 with rfl | rfl | rfl | rfl
  · exact absurd h2 (by decide)
  · exact absurd h2 (by decide)
  · rfl
  · exact absurd rfl hne
theorem cold4 {e : Blk} (h : Coldest (L4.take 4) e) : e.1 = 0 := by
  obtain ⟨⟨h1, h2⟩, h3⟩ := h
  have h4 := h3 (0, 3, 1, false) (by decide) (by decide)
  have h5 : e ∈ [(0, 3, 1, false), (1, 2, 9, false), (2, 2, 4, false), (3, 8, 0, true)] := h1
  simp only [List.mem_cons, List.mem_nil_iff, or_false] at h5
  rcases h5 with rfl | rfl | rfl | rfl
  · rfl
  · exact absurd h4 (by decide)
  · exact absurd h4 (by decide)
  · exact absurd h2 (by decide)
theorem gap4 : gapv (([12] : List Int).take 1 ++ worns (L4.take 4)) = 11 := by decide
set_option maxHeartbeats 8000000 in
theorem first_ok : Does (C := C1) Try.prog (.fn 6) [] [] [⟨Unit, fun _ => True, fun _ => .bool .t, fun y => []⟩] := by
  refine loc_fn (P := Try.prog) (E := ⟨[fcOf, fcNext, fcNext0, fcCold, fcGap], [pcQLen, pcQLen0], 60, []⟩) (L := []) mix Try.func6 rfl (by kernel_rfl) (by kernel_rfl) rfl rfl ?_
  ((conv => (arg 1; reduce)); with_reducible repeat' (first | exact Tr.yes_h | refine Tr.and_h ?_ ?_ | refine Tr.imp_h fun _ => ?_ | refine Tr.all_h fun _ => ?_ | refine Tr.lf_h ?_))
  all_goals try first | (show Region.lexB _ _ = true; kernel_rfl) | (show planned _ _ = true; kernel_rfl) | exact rfl | exact True.intro
  all_goals try exact absurd (‹(4 : Nat) = 0› : (4 : Nat) = 0) (by decide)
  all_goals try exact absurd (‹(4 - 1 : Nat) = 0› : (4 - 1 : Nat) = 0) (by decide)
  · exact (⟨by decide, by decide⟩ : 4 ≤ L4.length ∧ 4 < 1048576)
  · rename_i s y hy
    exact ⟨hy.2.1, by decide⟩
  · rename_i s y hy l1 h1 c1
    have P1 := (Popd.start (its := itms L4 4) hy.2).step hy.1 h1.2
    exact ⟨P1.hok, by decide⟩
  · exact (⟨by decide, by decide⟩ : 4 ≤ L4.length ∧ 4 < 1048576)
  · rename_i s y hy l1 h1 c1 l2 h2 c2 u hu c3
    have h := (hu : ∀ x ∈ L4.take 4, nf x = false) (0, 3, 1, false) (by decide)
    exact absurd h (by decide)
  · exact (⟨by decide, by decide, by decide, by decide⟩ : 4 ≤ L4.length ∧ 1 ≤ ([12] : List Int).length ∧ 4 < 524288 ∧ 1 < 524288)
  · refine Ends.one () trivial ?_
    ((conv => (arg 1; reduce)); with_reducible repeat' (first | exact Tr.yes_h | refine Tr.and_h ?_ ?_ | refine Tr.imp_h fun _ => ?_ | refine Tr.all_h fun _ => ?_ | refine Tr.lf_h ?_))
    all_goals first | exact decide_eq_true gap4 | (first | first | (show Region.lexB _ _ = true; kernel_rfl) | (show planned _ _ = true; kernel_rfl) | exact rfl | exact True.intro | ((try dsimp only [imp, C1, cBlk, cItm] at *); (try refine inR64 ?_ ?_) <;> (try simp only [List.length_set, List.length_append, List.length_take, List.length_drop]) <;> omega))
  · rename_i s y hy l1 h1 c1 l2 h2 c2 e he c3 hc
    exfalso
    have P1 := (Popd.start (its := itms L4 4) hy.2).step hy.1 h1.2
    have P2 := P1.step h2.1 h2.2
    obtain ⟨f1, f2⟩ := first2 P2 P1.head
    have f3 := cold4 he
    simp only [SB.val, Bool.and_eq_false_iff, decide_eq_false_iff_not] at hc
    repeat' (obtain hc | hc := hc)
    all_goals first | exact hc f1 | exact hc f2 | exact hc f3 | exact absurd hc (by decide) | trace_state
end Go.Vi
