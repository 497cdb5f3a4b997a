/-
  Round 17: the chapter's examples.
  Conditions: none.
-/
import Derived.Test.YtncpjklejppdkaaDoorPoJ
set_option linter.unusedSectionVars false
set_option maxRecDepth 100000
set_option linter.unusedVariables false
set_option linter.unusedSimpArgs false
namespace Go.Vx
open Go Go.Proofs
variable [Gl]

theorem mem_take {l : List Ent} {n : Nat} (hn : n ≤ l.length) {e : Ent} : e ∈ l.take n ↔ ∃ k, k < n ∧ at_ l k = e := by
  rw [List.mem_iff_getElem]
  constructor
  · rintro ⟨k, hk, rfl⟩
    simp at hk
    exact ⟨k, by omega, by rw [List.getElem_take, get_at]⟩
  · rintro ⟨k, hk, rfl⟩
    exact ⟨k, by simp; omega, by rw [List.getElem_take, get_at]⟩
theorem ixf_absent {l S : List Ent} {n : Nat} {x : Int} (hn : n ≤ l.length) (hS : (l.take n).Perm S) (h : ∀ e ∈ S, e.1 ≠ x) : ixf l n x = -1 :=
  ixf_none hn fun k hk => h _ (hS.mem_iff.1 ((mem_take hn).2 ⟨k, hk, rfl⟩))
theorem first_all {l S : List Ent} {n : Nat} {e : Ent} (hn : n ≤ l.length) (hS : (l.take n).Perm S) (h : First l n e) : ∀ a ∈ S, bef a e = false := by
  intro a ha
  obtain ⟨k, hk, rfl⟩ := (mem_take hn).1 (hS.mem_iff.2 ha)
  exact h k hk
theorem most_all {l S : List Ent} {n : Nat} {e : Ent} (hn : n ≤ l.length) (hS : (l.take n).Perm S) (h : Most l n e) : ∀ a ∈ S, mst a e = false := by
  intro a ha
  obtain ⟨k, hk, rfl⟩ := (mem_take hn).1 (hS.mem_iff.2 ha)
  exact h k hk

theorem takeP {R : List Ent → Nat → Ent → Prop} {l : List Ent} {n c : Nat} {y : List Ent × Int × Bool} (h : takePost R l n c y) (hn : 0 < n) :
    y.2.2 = true ∧ HOK y.1 (n - 1) c ∧ ∃ e : Ent, R l n e ∧ y.2.1 = e.1 ∧ (l.take n).Perm (e :: y.1.take (n - 1)) := by
  rcases h with ⟨h1, _, h2, h3⟩ | ⟨_, h, _⟩
  · exact ⟨h1, h2, h3⟩
  · omega
theorem takeN {R : List Ent → Nat → Ent → Prop} {l : List Ent} {c : Nat} {y : List Ent × Int × Bool} (h : takePost R l 0 c y) : y.2.2 = false := by
  rcases h with ⟨_, h, _⟩ | ⟨h, _⟩
  · omega
  · exact h
theorem HOK.lt {l : List Ent} {n c : Nat} (h : HOK l n c) : n ≤ l.length := Nat.le_trans h.le h.len

/-- The examples' blocks, laid in and taken out. -/
theorem ex1 {y : Nat × List Ent × Nat} (h : push0Post (3, 5) y) : HOK y.2.1 1 y.2.2 ∧ ixf y.2.1 1 1 = -1 ∧ (y.2.1.take 1).Perm [(3, 5)] :=
  ⟨h.1, ixf_absent h.1.lt h.2 (by decide), h.2⟩
theorem ex2 {l : List Ent} {y : Nat × Nat × List Ent × Nat} (hl : (l.take 1).Perm [(3, 5)]) (h : pushPost l 1 (1, 5) y) : HOK y.2.2.1 2 y.2.2.2 ∧ ixf y.2.2.1 2 2 = -1 ∧ (y.2.2.1.take 2).Perm [(3, 5), (1, 5)] :=
  have hp : (y.2.2.1.take 2).Perm [(3, 5), (1, 5)] := h.2.trans (hl.append_right _)
  ⟨h.1, ixf_absent h.1.lt hp (by decide), hp⟩
theorem ex3 {l : List Ent} {y : Nat × Nat × List Ent × Nat} (hl : (l.take 2).Perm [(3, 5), (1, 5)]) (h : pushPost l 2 (2, 0) y) : HOK y.2.2.1 3 y.2.2.2 ∧ (y.2.2.1.take 3).Perm [(3, 5), (1, 5), (2, 0)] :=
  ⟨h.1, h.2.trans (hl.append_right _)⟩
theorem ex4 {l : List Ent} {c : Nat} {y : List Ent × Int × Bool} (hk : HOK l 3 c) (hl : (l.take 3).Perm [(3, 5), (1, 5), (2, 0)]) (h : takePost First l 3 c y) : HOK y.1 2 c ∧ y.2.1 = 2 ∧ (y.1.take 2).Perm [(3, 5), (1, 5)] := by
  obtain ⟨_, h2, e, h3, h4, h5⟩ := takeP h (by decide)
  have ha := first_all hk.lt hl h3
  have hm : e ∈ [(3, 5), (1, 5), (2, 0)] := hl.mem_iff.1 (h5.mem_iff.2 (by simp))
  simp only [List.mem_cons, List.not_mem_nil, or_false] at hm
  rcases hm with rfl | rfl | rfl
  · exact absurd (ha (2, 0) (by decide)) (by decide)
  · exact absurd (ha (2, 0) (by decide)) (by decide)
  · exact ⟨h2, h4, (h5.symm.trans (hl.trans (by decide : List.Perm [(3, 5), (1, 5), (2, 0)] ([(2, 0), (3, 5), (1, 5)] : List Ent)))).cons_inv⟩
theorem ex5 {l : List Ent} {c : Nat} {y : List Ent × Int × Bool} (hk : HOK l 2 c) (hl : (l.take 2).Perm [(3, 5), (1, 5)]) (h : takePost First l 2 c y) : HOK y.1 1 c ∧ y.2.1 = 1 ∧ (y.1.take 1).Perm [(3, 5)] := by
  obtain ⟨_, h2, e, h3, h4, h5⟩ := takeP h (by decide)
  have ha := first_all hk.lt hl h3
  have hm : e ∈ [(3, 5), (1, 5)] := hl.mem_iff.1 (h5.mem_iff.2 (by simp))
  simp only [List.mem_cons, List.not_mem_nil, or_false] at hm
  rcases hm with rfl | rfl
  · exact absurd (ha (1, 5) (by decide)) (by decide)
  · exact ⟨h2, h4, (h5.symm.trans (hl.trans (by decide : List.Perm [(3, 5), (1, 5)] ([(1, 5), (3, 5)] : List Ent)))).cons_inv⟩
theorem ex6 {l : List Ent} {c : Nat} {y : List Ent × Int × Bool} (hl : (l.take 1).Perm [(3, 5)]) (h : takePost Most l 1 c y) : HOK y.1 0 c ∧ y.2.1 = 3 := by
  obtain ⟨_, h2, e, h3, h4, h5⟩ := takeP h (by decide)
  have hm : e ∈ [(3, 5)] := hl.mem_iff.1 (h5.mem_iff.2 (by simp))
  simp only [List.mem_cons, List.not_mem_nil, or_false] at hm
  subst hm
  exact ⟨h2, h4⟩

theorem first_ok : Tells (C := C0) Tryd.prog (.fn 6) [] [] (.bool .t) := by
  refine loc_pc (P := Tryd.prog) (E := ⟨[fcNew, fcAdd, fcAdd0, fcTake, fcTake0, fcMost, fcMost0], [], 58, []⟩) (L := []) mix Tryd.func6 rfl (by kernel_rfl) (by kernel_rfl) rfl rfl ?_
  ((conv => (arg 1; reduce)); with_reducible repeat' (first | exact Tr.yes_h | refine Tr.and_h ?_ ?_ | refine Tr.imp_h fun _ => ?_ | refine Tr.all_h fun _ => ?_ | refine Tr.lf_h ?_))
  all_goals try first | (show Region.lexB _ _ = true; kernel_rfl) | (show planned _ _ = true; kernel_rfl) | exact rfl | exact True.intro
  · exact (by decide : (0 : Int) ≤ 3 ∧ (3 : Int) < 64 ∧ (0 : Int) ≤ 5 ∧ (5 : Int) ≤ 1073741824)
  · rename_i b0 u0 y1 h1
    obtain ⟨a1, a2, a3⟩ := ex1 h1
    exact ⟨a1, by decide, by decide, by decide, by decide, by decide, a2⟩
  · rename_i b0 u0 y1 h1 y2 h2
    obtain ⟨a1, a2, a3⟩ := ex1 h1
    obtain ⟨b1, b2, b3⟩ := ex2 a3 h2
    exact ⟨b1, by decide, by decide, by decide, by decide, by decide, b2⟩
  · rename_i b0 u0 y1 h1 y2 h2 y3 h3
    obtain ⟨a1, a2, a3⟩ := ex1 h1
    obtain ⟨b1, b2, b3⟩ := ex2 a3 h2
    obtain ⟨c1, c3⟩ := ex3 b3 h3
    exact ⟨c1, by decide⟩
  · rename_i b0 u0 y1 h1 y2 h2 y3 h3 y4 h4
    obtain ⟨a1, a2, a3⟩ := ex1 h1
    obtain ⟨b1, b2, b3⟩ := ex2 a3 h2
    obtain ⟨c1, c3⟩ := ex3 b3 h3
    obtain ⟨d1, d2, d3⟩ := ex4 c1 c3 h4
    exact ⟨d1, by decide⟩
  · rename_i b0 u0 y1 h1 y2 h2 y3 h3 y4 h4 y5 h5
    obtain ⟨a1, a2, a3⟩ := ex1 h1
    obtain ⟨b1, b2, b3⟩ := ex2 a3 h2
    obtain ⟨c1, c3⟩ := ex3 b3 h3
    obtain ⟨d1, d2, d3⟩ := ex4 c1 c3 h4
    obtain ⟨e1, e2, e3⟩ := ex5 d1 d3 h5
    exact ⟨e1, by decide⟩
  · rename_i b0 u0 y1 h1 y2 h2 y3 h3 y4 h4 y5 h5 y6 h6
    obtain ⟨a1, a2, a3⟩ := ex1 h1
    obtain ⟨b1, b2, b3⟩ := ex2 a3 h2
    obtain ⟨c1, c3⟩ := ex3 b3 h3
    obtain ⟨d1, d2, d3⟩ := ex4 c1 c3 h4
    obtain ⟨e1, e2, e3⟩ := ex5 d1 d3 h5
    obtain ⟨f1, f2⟩ := ex6 e3 h6
    exact ⟨f1, by decide⟩
  · rename_i b0 u0 y1 h1 y2 h2 y3 h3 y4 h4 y5 h5 y6 h6 y7 h7
    obtain ⟨a1, a2, a3⟩ := ex1 h1
    obtain ⟨b1, b2, b3⟩ := ex2 a3 h2
    obtain ⟨c1, c3⟩ := ex3 b3 h3
    obtain ⟨d1, d2, d3⟩ := ex4 c1 c3 h4
    obtain ⟨e1, e2, e3⟩ := ex5 d1 d3 h5
    obtain ⟨f1, f2⟩ := ex6 e3 h6
    have g := takeN h7
    show (decide (y4.2.1 = 2) && decide (y5.2.1 = 1) && decide (y6.2.1 = 3) && !y7.2.2) = true
    rw [d2, e2, f2, g]
    rfl
noncomputable def pcFirst : Pc Tryd.prog C0 where
  tg := .fn 6
  X := Unit
  args := fun _ => []
  mem := fun _ => []
  pre _ := True
  res := fun _ => .bool .t
  mat vs m := some ((), [])
  ok := fun _ _ => first_ok
end Go.Vx
