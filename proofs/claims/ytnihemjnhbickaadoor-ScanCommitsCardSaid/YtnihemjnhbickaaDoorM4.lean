/-
  The symbolic evaluator: a region that draws its order and has effects.
  The symbolic evaluator, sixteenth part: regions, code, loops.
  The symbolic evaluator, seventeenth part: functions and their contracts.
  The symbolic evaluator, eighteenth part: which function a method of an interface value is.
  The symbolic evaluator, nineteenth part: from a contract to a law's own call.
  The symbolic evaluator, twenty-third part: what a row's laid sentinels give a walk, a whole list of them.
  A slice of structs that came in, az a row of chunks.
  Inputs that hold slices: a struct's own slices, slices of slices; the frame that also tells what the input's blocks hold.
  Round 22: element types; errors; slices of pages that grow.
  Round 22: numbers that are compared; what is newer, what is alive; what is the same.
  Round 22: maps' keys; a block's head, what counts, a page's key.
  Conditions: none.
-/
import Derived.Test.YtnihemjnhbickaaDoorM3
import Derived.Below
import Derived.Stop.LaidErr
import Derived.ProofKit
import Derived.OpenShut
import Derived.ChangeArms
import Derived.MakeChecks
import Derived.Deep.Slices
import Derived.Deep.Strs
import Derived.Handed
import Derived.Deep.Matrix
import Derived.Test.YtnihemjnhbickaaDoorProg
import Derived.KernelRfl
set_option linter.unusedVariables false
set_option linter.unusedSimpArgs false
set_option linter.unusedSectionVars false
namespace Go.Vx
open Go
section
variable {P : Program} {ops : Array Oper} {T : Array Bool → World → Prop} {T0 Cl : World → Prop} {Q : Exit → Act → World → Prop} {E : Nat → Bool}

/-- As 'wpAny', with what holds of every world on the way. -/
def wpAT (P : Program) (ops : Array Oper) (T : Array Bool → World → Prop) (Q : Exit → Act → World → Prop) : Nat → Array Bool → Act → World → Prop
  | 0, listed, a, w => T listed w ∧ Region.ready .any ops listed = [] ∧ Q .normal a w
  | fuel + 1, listed, a, w =>
    T listed w ∧ (Region.ready .any ops listed = [] → Q .normal a w) ∧
    ∀ i ∈ Region.ready .any ops listed, wpOp P ops Q i (wpAT P ops T Q fuel (listed.setIfInBounds i true)) a w

theorem wpAT_any : ∀ (fuel : Nat) (listed : Array Bool) (a : Act) (w : World), wpAT P ops T Q fuel listed a w → wpAny P .any ops Q fuel listed a w
  | 0, _, _, _, h => ⟨h.2.1, h.2.2⟩
  | fuel + 1, _, _, _, h => ⟨h.2.1, fun i hi => wpOp_mono (fun a' w' hk => wpAT_any fuel _ a' w' hk) (h.2.2 i hi)⟩
theorem wpAT_T {fuel : Nat} {listed : Array Bool} {a : Act} {w : World} (h : wpAT P ops T Q fuel listed a w) : T listed w := by
  cases fuel with
  | zero => exact h.1
  | succ _ => exact h.1

/-- It gives v in every world of T0. -/
def YieldsT (P : Program) (ops : Array Oper) (T0 : World → Prop) (o : Oper) (v : Value) (a : Act) : Prop :=
  (Region.wanted o (yielded ops a.tmps) = true ∧ ∀ w, T0 w → (execOp a.eval o).run P w = .ok (.value v) w) ∨
  (Region.wanted o (yielded ops a.tmps) = false ∧ v = undef)
theorem YieldsT.of_same {o : Oper} {v : Value} {a a' : Act} (hy : YieldsT P ops T0 o v a) (he : execOp a'.eval o = execOp a.eval o)
    (hw : Region.wanted o (yielded ops a'.tmps) = Region.wanted o (yielded ops a.tmps)) : YieldsT P ops T0 o v a' := by
  unfold YieldsT at *; rw [he, hw]; exact hy
theorem YieldsT.wpOp {i : Nat} {o : Oper} {v : Value} {a : Act} (hi : ops[i]? = some o) (hy : YieldsT P ops T0 o v a) {K : Act → World → Prop} {w : World} (hw' : T0 w) (h : K (a.put o.dst v) w) : wpOp P ops Q i K a w := by
  unfold Go.wpOp
  simp only [hi]
  rcases hy with ⟨hw, hv⟩ | ⟨hw, rfl⟩
  · simp only [hw, if_true, Oper.wp, hv w hw', Oper.upon]; exact .inl h
  · simp only [hw, Bool.false_eq_true, if_false]; exact h

/-- Whatever order is picked: what is quiet comes az it will, what is not leads on. -/
def Hy (P : Program) (ops : Array Oper) (E : Nat → Bool) (T : Array Bool → World → Prop) (Cl : World → Prop) (Q : Exit → Act → World → Prop) : Nat → Array Bool → Act → Prop
  | 0, listed, a => Region.ready .any ops listed = [] ∧ ∀ w, Cl w → Q .normal a w
  | fuel + 1, listed, a =>
    (Region.ready .any ops listed = [] → ∀ w, Cl w → Q .normal a w) ∧
    ∀ i ∈ Region.ready .any ops listed, if E i = true then (∀ w, Cl w → wpOp P ops Q i (wpAT P ops T Q fuel (listed.setIfInBounds i true)) a w)
      else qOp P ops Cl i (Hy P ops E T Cl Q fuel (listed.setIfInBounds i true)) a

theorem getD_set_le {l : Array Bool} {i j : Nat} (h : l.getD j false = true) : (l.setIfInBounds i true).getD j false = true := by
  by_cases hij : i = j
  · subst hij
    rcases Nat.lt_or_ge i l.size with h' | h'
    · simp [h']
    · simp [Array.getElem?_eq_none h'] at h
  · rw [getD_set_ne false hij]; exact h

theorem Hy_sound : ∀ (fuel : Nat) (listed : Array Bool) (a : Act) (w : World), (∀ l w, (∀ j, listed.getD j false = true → l.getD j false = true) → Cl w → T l w) → Hy P ops E T Cl Q fuel listed a → Cl w → wpAT P ops T Q fuel listed a w
  | 0, _, _, _, hCT, h, hw => ⟨hCT _ _ (fun _ h => h) hw, h.1, h.2 _ hw⟩
  | fuel + 1, listed, a, w, hCT, h, hw => by
    refine ⟨hCT _ _ (fun _ h => h) hw, fun h0 => h.1 h0 _ hw, fun i hi => ?_⟩
    have := h.2 i hi
    split at this
    · exact this w hw
    · exact wpOp_of_qOp hw (fun a' w' hw' hk => Hy_sound fuel _ a' w' (fun l w hl hc => hCT l w (fun j hj => hl j (getD_set_le hj)) hc) hk hw') this

theorem wpOp_put' {j : Nat} {oi oj : Oper} {v : Value} (hj : ops[j]? = some oj) (hap : oi.apart ops oj = true) (hsj : ∀ cs b, oj.op ≠ .select cs b)
    (hQ : ∀ c a w, Q (.panic c) (a.put oi.dst v) w → Q (.panic c) a w) {Y : Act → Prop} (hY : ∀ a, Y a → ∀ u, Y (a.put oj.dst u)) (hYd : ∀ a, Y a → ∀ d, Y { a with defers := d :: a.defers }) {K : Act → World → Prop} {a : Act} {w : World}
    (hy : Y a) (h : wpOp P ops Q j K (a.put oi.dst v) w) : wpOp P ops Q j (fun a' w' => Y a' ∧ K (a'.put oi.dst v) w') a w := by
  obtain ⟨h1, h2, h3⟩ := Oper.apart_spec hap
  unfold wpOp at *
  simp only [hj] at *
  rw [wanted_put oj a oi.dst v h1] at h
  split
  · rename_i hw
    simp only [hw, if_true] at h
    rcases h with h | ⟨hasks, hlets⟩
    case inr => exact .inr ⟨by unfold Oper.asks at *; rw [execOp_put oj hsj a oi.dst v h1] at hasks; exact hasks, hlets⟩
    refine .inl ?_
    unfold Oper.wp at *
    rw [execOp_put oj hsj a oi.dst v h1] at h
    generalize (execOp a.eval oj).run P w = r at *
    cases r with
    | ok n w' =>
      cases n <;> simp only [Oper.upon] at h ⊢
      case value u => exact ⟨hY a hy u, by rw [← Act.put_comm a v u h2]; exact h⟩
      case skip => exact ⟨hY a hy _, by rw [← Act.put_comm a v undef h2]; exact h⟩
      case defer d =>
        refine ⟨hY _ (hYd a hy d) _, ?_⟩
        rw [← Act.put_comm _ v undef h2, ← Act.put_defers]
        exact h
      case enter f args =>
        refine Calls.mono h fun e w'' he => ?_
        cases e with
        | returned u => exact ⟨hY a hy u, by rw [← Act.put_comm a v u h2]; exact he⟩
        | panicked c => exact hQ _ _ _ he
        | outgrown => exact he
      case row row args => exact Rows.mono h fun u w'' he => ⟨hY a hy u, by rw [← Act.put_comm a v u h2]; exact he⟩
    | halt x w' =>
      cases x <;> simp only [Oper.upon] at h ⊢
      case panic u => exact hQ _ _ _ h
  · rename_i hw
    simp only [hw] at h
    exact ⟨hY a hy _, by rw [← Act.put_comm a v undef h2]; exact h⟩

/-- A property of the state that an apart operation does not turn goes along. -/
theorem qOp_put' {j : Nat} {oi oj : Oper} {v : Value} (hj : ops[j]? = some oj) (hap : oi.apart ops oj = true)
    (hsj : ∀ cs b, oj.op ≠ .select cs b) {Y : Act → Prop} (hY : ∀ a, Y a → ∀ u, Y (a.put oj.dst u)) {K : Act → Prop} {a : Act}
    (hy : Y a) (h : qOp P ops Cl j K (a.put oi.dst v)) :
    qOp P ops Cl j (fun a' => Y a' ∧ K (a'.put oi.dst v)) a := by
  obtain ⟨h1, h2, h3⟩ := Oper.apart_spec hap
  unfold qOp at *
  simp only [hj] at *
  rw [wanted_put oj a oi.dst v h1] at h
  split
  · rename_i hw
    simp only [hw, if_true] at h
    obtain ⟨u, hu, hn⟩ := h
    refine ⟨u, fun w hw' => ?_, hY a hy u, by rw [← Act.put_comm a v u h2]; exact hn⟩
    have := hu w hw'
    unfold Oper.quietAt at *
    rwa [execOp_put oj hsj a oi.dst v h1] at this
  · rename_i hw
    simp only [hw] at h
    exact ⟨hY a hy _, by rw [← Act.put_comm a v undef h2]; exact h⟩

theorem ready_no {i : Nat} {oj : Oper} {listed : Array Bool} (hi : listed.getD i true = false) (hall : ∀ e ∈ oj.after, Region.binds .any e = true → listed.getD e.on false = true) : ∀ e ∈ oj.after, Region.binds .any e = true → e.on ≠ i := by
  intro e he hb heq
  have h1 := hall e he hb
  rw [heq] at h1
  rcases Nat.lt_or_ge i listed.size with h' | h'
  · simp [h'] at hi h1; rw [hi] at h1; cases h1
  · simp [Array.getElem?_eq_none h'] at h1

theorem YieldsT.qOp (hCT : ∀ w, Cl w → T0 w) {i : Nat} {o : Oper} {v : Value} {a : Act} (hi : ops[i]? = some o) (hy : YieldsT P ops T0 o v a) {K : Act → Prop} (h : K (a.put o.dst v)) : qOp P ops Cl i K a := by
  unfold Go.qOp
  simp only [hi]
  rcases hy with ⟨hw, hv⟩ | ⟨hw, rfl⟩
  · simp only [hw, if_true]; exact ⟨v, fun w hw => by unfold Oper.quietAt; rw [hv w (hCT w hw)]; exact ⟨rfl, rfl⟩, h⟩
  · simp only [hw, Bool.false_eq_true, if_false]; exact h

theorem sub_step {i j : Nat} {oj : Oper} {listed Z : Array Bool} (hZ : ∀ j oj, ops[j]? = some oj → j ≠ i → Z.getD j false = false → ∃ e ∈ oj.after, Region.binds .any e = true ∧ Z.getD e.on false = false)
    (hoj : ops[j]? = some oj) (hji : j ≠ i) (hall : ∀ e ∈ oj.after, Region.binds .any e = true → listed.getD e.on false = true) (hLZ : ∀ j, listed.getD j false = true → Z.getD j false = true) :
    ∀ k, (listed.setIfInBounds j true).getD k false = true → Z.getD k false = true := by
  have hjZ : Z.getD j false = true := by
    cases hz : Z.getD j false with
    | true => rfl
    | false =>
      obtain ⟨e, he, hb, hez⟩ := hZ j oj hoj hji hz
      have := hLZ e.on (hall e he hb)
      rw [hez] at this; cases this
  intro k hk
  by_cases hjk : j = k
  · subst hjk; exact hjZ
  · rw [getD_set_ne false hjk] at hk; exact hLZ k hk

theorem wpAT_first {i : Nat} {oi : Oper} {v : Value} (Z : Array Bool) (hZ : ∀ j oj, ops[j]? = some oj → j ≠ i → Z.getD j false = false → ∃ e ∈ oj.after, Region.binds .any e = true ∧ Z.getD e.on false = false)
    (hT : ∀ l w, (∀ j, l.getD j false = true → Z.getD j false = true) → T l w → T0 w) (hTi : ∀ l w, T (l.setIfInBounds i true) w → T l w) (hi : ops[i]? = some oi) (hsel : ∀ (j : Nat) (o : Oper) cs b, ops[j]? = some o → o.op ≠ .select cs b)
    (hQ : ∀ c a w, Q (.panic c) (a.put oi.dst v) w → Q (.panic c) a w) :
    ∀ (fuel : Nat) (listed : Array Bool) (a : Act) (w : World),
      (∀ j oj, ops[j]? = some oj → j ≠ i → listed.getD j true = false → (∀ e ∈ oj.after, Region.binds .any e = true → e.on ≠ i) → oi.apart ops oj = true) →
      (∀ j, listed.getD j false = true → Z.getD j false = true) → i ∈ Region.ready .any ops listed → YieldsT P ops T0 oi v a →
      wpAT P ops T Q fuel (listed.setIfInBounds i true) (a.put oi.dst v) w → wpAT P ops T Q (fuel + 1) listed a w := by
  intro fuel
  induction fuel with
  | zero =>
    intro listed a w _ hLZ hr hy H
    refine ⟨hTi _ _ H.1, fun h => (by rw [h] at hr; cases hr), fun j hj => ?_⟩
    by_cases hji : j = i
    · subst hji; exact hy.wpOp hi (hT _ _ hLZ (hTi _ _ H.1)) H
    · have := ready_mono hj hji
      rw [H.2.1] at this
      cases this
  | succ fuel ih =>
    intro listed a w hfree hLZ hr hy H
    refine ⟨hTi _ _ H.1, fun h => (by rw [h] at hr; cases hr), fun j hj => ?_⟩
    by_cases hji : j = i
    · subst hji; exact hy.wpOp hi (hT _ _ hLZ (hTi _ _ H.1)) H
    · have h1 := H.2.2 j (ready_mono hj hji)
      obtain ⟨hjun, oj, hoj, hall⟩ := mem_ready.1 hj
      have hnot := ready_no (mem_ready.1 hr).1 hall
      have hap := hfree j oj hoj hji hjun hnot
      have hfree' : ∀ k ok, ops[k]? = some ok → k ≠ i → (listed.setIfInBounds j true).getD k true = false →
          (∀ e ∈ ok.after, Region.binds .any e = true → e.on ≠ i) → oi.apart ops ok = true := fun k ok hk hki hun hno => by
        refine hfree k ok hk hki ?_ hno
        by_cases hjk : j = k
        · subst hjk; exact hjun
        · rw [getD_set_ne true hjk] at hun; exact hun
      have h2 := wpOp_put' hoj hap (fun cs b => hsel j oj cs b hoj) hQ (Y := fun a => YieldsT P ops T0 oi v a)
        (fun a hy u => hy.of_same (execOp_put oi (fun cs b => hsel i oi cs b hi) a oj.dst u (Oper.apart_spec hap).2.2) (wanted_put oi a oj.dst u (Oper.apart_spec hap).2.2))
        (fun a hy d => hy.of_same rfl rfl) hy h1
      refine wpOp_mono (fun a' w' h3 => ih (listed.setIfInBounds j true) a' w' hfree' (sub_step hZ hoj hji hall hLZ) (ready_mono hr (Ne.symm hji)) h3.1 ?_) h2
      rw [Array.setIfInBounds_comm _ _ hji]
      exact h3.2

/-- What computes alone may be taken first. -/
theorem Hy_first_P (hCT : ∀ w, Cl w → T0 w) (Z : Array Bool) {i : Nat} {oi : Oper} {v : Value} (hZ : ∀ j oj, ops[j]? = some oj → j ≠ i → Z.getD j false = false → ∃ e ∈ oj.after, Region.binds .any e = true ∧ Z.getD e.on false = false)
    (hT : ∀ l w, (∀ j, l.getD j false = true → Z.getD j false = true) → T l w → T0 w) (hTi : ∀ l w, T (l.setIfInBounds i true) w → T l w) (hi : ops[i]? = some oi) (hsel : ∀ (j : Nat) (o : Oper) cs b, ops[j]? = some o → o.op ≠ .select cs b) (hEi : E i = false)
    (hQ : ∀ c a w, Q (.panic c) (a.put oi.dst v) w → Q (.panic c) a w) :
    ∀ (fuel : Nat) (listed : Array Bool) (a : Act),
      (∀ j oj, ops[j]? = some oj → j ≠ i → listed.getD j true = false → (∀ e ∈ oj.after, Region.binds .any e = true → e.on ≠ i) → oi.apart ops oj = true) →
      (∀ j, listed.getD j false = true → Z.getD j false = true) → i ∈ Region.ready .any ops listed → YieldsT P ops T0 oi v a →
      Hy P ops E T Cl Q fuel (listed.setIfInBounds i true) (a.put oi.dst v) → Hy P ops E T Cl Q (fuel + 1) listed a := by
  intro fuel
  induction fuel with
  | zero =>
    intro listed a _ _ hr hy H
    refine ⟨fun h => (by rw [h] at hr; cases hr), fun j hj => ?_⟩
    by_cases hji : j = i
    · subst hji; rw [if_neg (by simp [hEi])]; exact hy.qOp hCT hi H
    · have := ready_mono hj hji
      rw [H.1] at this
      cases this
  | succ fuel ih =>
    intro listed a hfree hLZ hr hy H
    refine ⟨fun h => (by rw [h] at hr; cases hr), fun j hj => ?_⟩
    by_cases hji : j = i
    · subst hji; rw [if_neg (by simp [hEi])]; exact hy.qOp hCT hi H
    · have h1 := H.2 j (ready_mono hj hji)
      obtain ⟨hjun, oj, hoj, hall⟩ := mem_ready.1 hj
      have hnot := ready_no (mem_ready.1 hr).1 hall
      have hap := hfree j oj hoj hji hjun hnot
      have hfree' : ∀ k ok, ops[k]? = some ok → k ≠ i → (listed.setIfInBounds j true).getD k true = false →
          (∀ e ∈ ok.after, Region.binds .any e = true → e.on ≠ i) → oi.apart ops ok = true := fun k ok hk hki hun hno => by
        refine hfree k ok hk hki ?_ hno
        by_cases hjk : j = k
        · subst hjk; exact hjun
        · rw [getD_set_ne true hjk] at hun; exact hun
      have hr' := ready_mono hr (Ne.symm hji)
      split at h1
      · rename_i hE
        rw [if_pos hE]
        intro w hw
        have h2 := wpOp_put' hoj hap (fun cs b => hsel j oj cs b hoj) hQ (Y := fun a => YieldsT P ops T0 oi v a)
          (fun a hy u => hy.of_same (execOp_put oi (fun cs b => hsel i oi cs b hi) a oj.dst u (Oper.apart_spec hap).2.2) (wanted_put oi a oj.dst u (Oper.apart_spec hap).2.2))
          (fun a hy d => hy.of_same rfl rfl) hy (h1 w hw)
        refine wpOp_mono (fun a' w' h3 => ?_) h2
        refine wpAT_first Z hZ hT hTi hi hsel hQ fuel _ a' w' hfree' (sub_step hZ hoj hji hall hLZ) hr' h3.1 ?_
        rw [Array.setIfInBounds_comm _ _ hji]
        exact h3.2
      · rename_i hE
        rw [if_neg hE]
        have h2 := qOp_put' hoj hap (fun cs b => hsel j oj cs b hoj) (Y := fun a => YieldsT P ops T0 oi v a)
          (fun a hy u => hy.of_same (execOp_put oi (fun cs b => hsel i oi cs b hi) a oj.dst u (Oper.apart_spec hap).2.2) (wanted_put oi a oj.dst u (Oper.apart_spec hap).2.2)) hy h1
        refine qOp_mono (fun a' h3 => ih (listed.setIfInBounds j true) a' hfree' (sub_step hZ hoj hji hall hLZ) hr' h3.1 ?_) h2
        rw [Array.setIfInBounds_comm _ _ hji]
        exact h3.2

/-- What only reads may be taken first, where nothing with an effect can come ahead of it. -/
theorem Hy_first_Q {i : Nat} {oi : Oper} {v : Value} (hi : ops[i]? = some oi) (hsel : ∀ (j : Nat) (o : Oper) cs b, ops[j]? = some o → o.op ≠ .select cs b) (hEi : E i = false) (Z : Array Bool)
    (hZ : ∀ j oj, ops[j]? = some oj → j ≠ i → Z.getD j false = false → ∃ e ∈ oj.after, Region.binds .any e = true ∧ Z.getD e.on false = false) :
    ∀ (fuel : Nat) (listed : Array Bool) (a : Act),
      (∀ j oj, ops[j]? = some oj → j ≠ i → listed.getD j true = false → (∀ e ∈ oj.after, Region.binds .any e = true → e.on ≠ i) → oi.apart ops oj = true) →
      (∀ j, listed.getD j false = true → Z.getD j false = true) → (∀ j, listed.getD j true = false → Z.getD j false = true → E j = false) →
      i ∈ Region.ready .any ops listed → YieldsIn P ops Cl oi v a →
      Hy P ops E T Cl Q fuel (listed.setIfInBounds i true) (a.put oi.dst v) → Hy P ops E T Cl Q (fuel + 1) listed a := by
  intro fuel
  induction fuel with
  | zero =>
    intro listed a _ _ _ hr hy H
    refine ⟨fun h => (by rw [h] at hr; cases hr), fun j hj => ?_⟩
    by_cases hji : j = i
    · subst hji; rw [if_neg (by simp [hEi])]; exact hy.qOp hi H
    · have := ready_mono hj hji
      rw [H.1] at this
      cases this
  | succ fuel ih =>
    intro listed a hfree hLZ hEZ hr hy H
    refine ⟨fun h => (by rw [h] at hr; cases hr), fun j hj => ?_⟩
    by_cases hji : j = i
    · subst hji; rw [if_neg (by simp [hEi])]; exact hy.qOp hi H
    · have h1 := H.2 j (ready_mono hj hji)
      obtain ⟨hjun, oj, hoj, hall⟩ := mem_ready.1 hj
      have hnot := ready_no (mem_ready.1 hr).1 hall
      have hap := hfree j oj hoj hji hjun hnot
      have hjZ : Z.getD j false = true := by
        cases hz : Z.getD j false with
        | true => rfl
        | false =>
          obtain ⟨e, he, hb, hez⟩ := hZ j oj hoj hji hz
          have := hLZ e.on (hall e he hb)
          rw [hez] at this; cases this
      have hEj := hEZ j hjun hjZ
      rw [if_neg (by simp [hEj])] at h1 ⊢
      have hfree' : ∀ k ok, ops[k]? = some ok → k ≠ i → (listed.setIfInBounds j true).getD k true = false →
          (∀ e ∈ ok.after, Region.binds .any e = true → e.on ≠ i) → oi.apart ops ok = true := fun k ok hk hki hun hno => by
        refine hfree k ok hk hki ?_ hno
        by_cases hjk : j = k
        · subst hjk; exact hjun
        · rw [getD_set_ne true hjk] at hun; exact hun
      have hr' := ready_mono hr (Ne.symm hji)
      have h2 := qOp_put' hoj hap (fun cs b => hsel j oj cs b hoj) (Y := fun a => YieldsIn P ops Cl oi v a)
        (fun a hy u => hy.of_same (execOp_put oi (fun cs b => hsel i oi cs b hi) a oj.dst u (Oper.apart_spec hap).2.2) (wanted_put oi a oj.dst u (Oper.apart_spec hap).2.2)) hy h1
      refine qOp_mono (fun a' h3 => ih (listed.setIfInBounds j true) a' hfree' ?_ ?_ hr' h3.1 ?_) h2
      · intro k hk
        by_cases hjk : j = k
        · subst hjk; exact hjZ
        · rw [getD_set_ne false hjk] at hk; exact hLZ k hk
      · intro k hk hkz
        by_cases hjk : j = k
        · subst hjk; exact hEj
        · rw [getD_set_ne true hjk] at hk; exact hEZ k hk hkz
      · rw [Array.setIfInBounds_comm _ _ hji]
        exact h3.2
end

/-- May an operation have an effect. -/
def kindE : Op → Bool
  | .move _ | .assign _ | .pick _ _ _ | .nilCheck _ | .binOp _ _ _ _ _ | .unOp _ _ _ | .fieldAddr _ _ _ | .field _ _ _ | .indexAddr _ _ _ | .index _ _ _ | .slice _ _ _ _ _ | .makeInterface _ _ | .makeFunc _ _ _ | .extract _ _
  | .typeAssert _ _ _ _ | .convert _ _ _ | .build _ _ | .load _ _ | .lookup _ _ _ _ | .entry _ => false
  | .call c => match c.callee with
    | .builtin .len => false
    | .builtin .cap => false
    | .builtin .min => false
    | .builtin .max => false
    | _ => true
  | _ => true
def kindL : Op → Bool
  | .load _ _ => true
  | .lookup _ _ _ _ => true
  | .entry _ => true
  | _ => false

def kE (ops : Array Oper) (i : Nat) : Bool := ((ops[i]?).map fun o => kindE o.op).getD true
def kL (ops : Array Oper) (i : Nat) : Bool := ((ops[i]?).map fun o => kindL o.op).getD false

/-- What can come up while i does not. -/
def reach (ops : Array Oper) (i : Nat) : Nat → Array Bool → Array Bool
  | 0, Z => Z
  | n + 1, Z => reach ops i n (((Region.ready .any ops Z).filter fun j => !(Nat.beq j i)).foldl (fun Z j => Z.setIfInBounds j true) Z)

def planGo (ops : Array Oper) : Nat → Array Bool → List Tk
  | 0, _ => []
  | n + 1, listed => match Region.ready .any ops listed with
    | [] => []
    | R => match R.find? fun i => !kE ops i && !kL ops i with
      | some i => .p i :: planGo ops n (listed.setIfInBounds i true)
      | none => match R.find? fun i => !kE ops i with
        | some i => .q i :: planGo ops n (listed.setIfInBounds i true)
        | none => match R with
          | i :: _ => .e i :: planGo ops n (listed.setIfInBounds i true)
          | [] => []
def plan (ops : Array Oper) : List Tk := planGo ops ops.size (Array.replicate ops.size false)

def allIx (ops : Array Oper) (f : Nat → Bool) : Bool := (List.range ops.size).all f

/-- The operations that a plan takes az ones with an effect. -/
def effs : PTree → List Nat
  | .nil => []
  | .e i r => i :: effs r
  | .f i r => i :: effs r
  | .p _ r => effs r
  | .q _ r => effs r
  | .two i a j _ => i :: j :: effs a
def kW (W : List Nat) (i : Nat) : Bool := W.contains i
def reachOK (ops : Array Oper) (W : List Nat) (i : Nat) (listed Z : Array Bool) : Bool :=
  allIx ops (fun j => Nat.beq j i || Z.getD j false || (((ops[j]?).map fun o => o.after.any fun e => Region.binds .any e && !(Z.getD e.on false)).getD true)) &&
  allIx ops (fun j => (!(listed.getD j false) || Z.getD j false) && (listed.getD j true || !(Z.getD j false) || !kW W j))
def lates : PTree → List Nat
  | .nil => []
  | .f i r => i :: lates r
  | .p _ r => lates r
  | .q _ r => lates r
  | .e _ r => lates r
  | .two _ a _ b => lates a ++ lates b
def reachP (ops : Array Oper) (L : List Nat) (late : Bool) (i : Nat) (listed Z : Array Bool) : Bool :=
  allIx ops (fun j => Nat.beq j i || Z.getD j false || (((ops[j]?).map fun o => o.after.any fun e => Region.binds .any e && !(Z.getD e.on false)).getD true)) &&
  allIx ops (fun j => !(listed.getD j false) || Z.getD j false) && (late || L.all fun f => !(Z.getD f false)) && !(L.contains i)
/-- The plan holds. -/
def planOK (ops : Array Oper) (W L : List Nat) : Bool → PTree → Array Bool → Bool
  | _, .nil, listed => (Region.ready .any ops listed).isEmpty
  | late, .p i r, listed => (Region.ready .any ops listed).contains i && Region.free .any ops listed i && !kW W i &&
      reachP ops L late i listed (if late || L.isEmpty then Array.replicate ops.size true else reach ops i ops.size listed) && planOK ops W L late r (listed.setIfInBounds i true)
  | late, .q i r, listed => (Region.ready .any ops listed).contains i && Region.free .any ops listed i && !kW W i && reachOK ops W i listed (reach ops i ops.size listed) && planOK ops W L late r (listed.setIfInBounds i true)
  | late, .e i r, listed => (match Region.ready .any ops listed with
      | [j] => Nat.beq j i
      | _ => false) && kW W i && planOK ops W L late r (listed.setIfInBounds i true)
  | _, .f i r, listed => (match Region.ready .any ops listed with
      | [j] => Nat.beq j i
      | _ => false) && kW W i && L.contains i && planOK ops W L true r (listed.setIfInBounds i true)
  | late, .two i a j b, listed => (match Region.ready .any ops listed with
      | [x, y] => Nat.beq x i && Nat.beq y j
      | _ => false) && kW W i && kW W j && Nat.beq a.len b.len && planOK ops W L late a (listed.setIfInBounds i true) && planOK ops W L late b (listed.setIfInBounds j true)

def planned (ops : Array Oper) (l : PTree) : Bool := Region.noSelect ops && planOK ops (effs l) (lates l) false l (Array.replicate ops.size false) && Nat.beq l.len ops.size
def findPlan (id : Nat) : List (Nat × List Nat × List Tk) → Option (List Nat × PTree)
  | [] => none
  | (k, F, l) :: r => if Nat.beq k id then some (F, PTree.of l) else findPlan id r

variable {C : Nat → Codec}

/-- What is to stay: chunks by their numbers; from 1000000 on the chunk that a slot points into. -/
def frozen (tm : Tm) : List Nat → List Nat
  | [] => []
  | x :: r => match Nat.blt x 1000000 with
    | true => x :: frozen tm r
    | false => match get tm (x - 1000000) with
      | .ptr c _ _ => c :: frozen tm r
      | _ => frozen tm r
def inL (k : Nat) : List Nat → Bool
  | [] => false
  | x :: r => Nat.beq x k || inL k r
/-- It reads a chunk that nothing in the region turns. -/
def levF (P : Program) (tm : Tm) (m : List (Ck C)) (F : List Nat) (m0 : List (Ck C)) (G : List Nat) (al : List (Nat × Bool)) (o : Op) : Ans :=
  match o with
  | .load t a => match ev tm m al a with
    | some (.ptr c i f) => if inL c F && Nat.blt c m0.length then match loadSV P m0 t c i f with
        | some (ps, v) => if SV.lt m0.length v then some (ps, v) else none
        | none => none
      else if inL c G then loadSV P m t c i f else none
    | some (.gp g) => match aggTy P t, (C g).gv with
      | some false, some v => some ([], v)
      | _, _ => none
    | _ => none
  | _ => none
/-- One operation that only computes, or reads what stays. -/
def stepC {P : Program} (E : Env P C) (ops : Array Oper) (F : List Nat) (m0 : List (Ck C)) (G : List Nat) (o : Oper) (tm : Tm) (m : List (Ck C)) (K : Tm → Tr) : Tr :=
  match gd ops tm o.guard with
  | .lost => .no
  | .skip => match put? E.n tm o.dst [] .undef with
    | some tm' => K tm'
    | none => .no
  | .run cs => match pureP E tm m (alOf cs) o with
    | some (ps, v) => match put? E.n tm o.dst cs v with
      | some tm' => asks cs ps (K tm')
      | none => .no
    | none => match levF P tm m F m0 G (alOf cs) o.op with
      | some (ps, v) => match put? E.n tm o.dst cs v with
        | some tm' => asks cs ps (K tm')
        | none => .no
      | none => match cs with
        | [] => .no
        | _ :: _ => match put? E.n tm o.dst [] .undef with
          | some tm' => asks cs [False] (K tm')
          | none => .no
/-- What must stay has stayed. -/
def stays (m0 m : List (Ck C)) : List Nat → Tr → Tr
  | [], X => X
  | c :: r, X => .and (.lf (nth m c = nth m0 c)) (stays m0 m r X)
def inMem (F : List Nat) (m : List (Ck C)) : Tr :=
  match memLt m.length m && F.all fun c => Nat.blt c m.length with
  | true => .yes
  | false => .no
/-- One operation that reads. -/
def stepL {P : Program} (E : Env P C) (ops : Array Oper) (o : Oper) (tm : Tm) (m : List (Ck C)) (K : Tm → List (Ck C) → Tr) : Tr :=
  match gd ops tm o.guard with
  | .lost => .no
  | .skip => match put? E.n tm o.dst [] .undef with
    | some tm' => K tm' m
    | none => .no
  | .run cs => match famOf P E.fams tm m (alOf cs) o.op with
    | some _ => famQ E ops o 8 tm m K
    | none => match pureQ E tm m (alOf cs) o.op with
      | some (ps, v) => match put? E.n tm o.dst cs v with
        | some tm' => asks cs ps (K tm' m)
        | none => .no
      | none => .no

/-- A row's slice that is read out of what stays: it gets a name of its own. -/
def famP {P : Program} (E : Env P C) (F : List Nat) (m0 : List (Ck C)) (tm : Tm) (m : List (Ck C)) (o : Oper) : Option (FamHit C) :=
  match o.guard with
  | none => match famOf P E.fams tm m [] o.op with
    | some h => match inL h.c F && Nat.blt h.c m0.length with
      | true => some h
      | false => none
    | none => none
  | some _ => none
def splanG {P : Program} (E : Env P C) (ops : Array Oper) (F : List Nat) (m0 : List (Ck C)) (G : List Nat) : PTree → Tm → List (Ck C) → (Tm → List (Ck C) → Tr) → Tr
  | .nil, tm, m, K => K tm m
  | .p i r, tm, m, K => match ops[i]? with
    | some o => match famP E F m0 tm m o with
      | some h => famT h tm m fun v m' => match put? E.n tm o.dst [] v with
        | some tm' => fTm1 tm' fun tm' => splanG E ops F m0 (m.length :: G) r tm' m' K
        | none => .no
      | none => stepC E ops F m0 G o tm m fun tm' => fTm1 tm' fun tm' => splanG E ops F m0 G r tm' m K
    | none => .no
  | .q i r, tm, m, K => match ops[i]? with
    | some o => stepL E ops o tm m fun tm' m' => fTm1 tm' fun tm' => splanG E ops F m0 [] r tm' m' K
    | none => .no
  | .e i r, tm, m, K => match ops[i]? with
    | some o => stepP E ops o tm m fun tm' m' => fTm1 tm' fun tm' => fM m' fun m' => stays m0 m' F (splanG E ops F m0 [] r tm' m' K)
    | none => .no
  | .f i r, tm, m, K => match ops[i]? with
    | some o => stepP E ops o tm m fun tm' m' => fTm1 tm' fun tm' => fM m' fun m' => splanG E ops [] m0 [] r tm' m' K
    | none => .no
  | .two i a j b, tm, m, K => match ops[i]?, ops[j]? with
    | some o, some o' => .and (stepP E ops o tm m fun tm' m' => fTm1 tm' fun tm' => fM m' fun m' => stays m0 m' F (splanG E ops F m0 [] a tm' m' K))
        (stepP E ops o' tm m fun tm' m' => fTm1 tm' fun tm' => fM m' fun m' => stays m0 m' F (splanG E ops F m0 [] b tm' m' K))
    | _, _ => .no
def splan {P : Program} (E : Env P C) (ops : Array Oper) (F : List Nat) (m0 : List (Ck C)) (l : PTree) (tm : Tm) (m : List (Ck C)) (K : Tm → List (Ck C) → Tr) : Tr := splanG E ops F m0 [] l tm m K

/-- What stays, in a world. -/
def Stay (F : List Nat) (m0 : List (Ck C)) (w : World) : Prop := (∀ c, inL c F = true → c < m0.length → ((nth m0 c).on = true → Ck.ok (ads m0) w (nth m0 c)) ∧ ∀ t x, (nth m0 c).cells.Has t x → (C t).good w x) ∧ ∀ g v, (C g).gv = some v → w.cell? ⟨g, 0, none⟩ = some (v.va noAd)

theorem stays_ok {m0 m : List (Ck C)} : ∀ {F : List Nat} {X : Tr}, stays m0 m F X → X.holds ∧ ∀ c, inL c F = true → nth m c = nth m0 c
  | [], X, h => ⟨h, fun c hc => by simp [inL] at hc⟩
  | x :: r, X, h => by
    obtain ⟨h1, h2⟩ := stays_ok h.2
    refine ⟨h1, fun c hc => ?_⟩
    simp only [inL, Bool.or_eq_true] at hc
    rcases hc with hc | hc
    · rw [← Nat.eq_of_beq_eq_true hc]; exact h.1
    · exact h2 c hc

theorem Stay.of {S : Sx} {w0 w : World} {F : List Nat} {m0 m : List (Ck C)} (hm : MemOK S w0 w m) (hlt : memLt m0.length m0 = true) (hs : ∀ c, inL c F = true → nth m c = nth m0 c) (ha : ∀ k, k < m0.length → ads m0 k = ads m k) : Stay F m0 w := by
  refine ⟨fun c hc hcl => ⟨fun hon => ?_, fun t x hl => ?_⟩, fun g v hv => (hm.more.gv g v hv).1⟩
  rotate_left
  · have h1 := hs c hc
    rw [← h1] at hl
    exact (hm.more.deep _ (nth_mem (lt_of_alive (Cells.Has.alive hl))) t x hl).1
  have h1 := hs c hc
  cases hl : (nth m0 c).alive with
  | false => unfold Ck.alive at hl; unfold Ck.ok; split at hl <;> simp_all
  | true =>
    have h2 := hm.ok _ (nth_mem (lt_of_alive (m := m) (c := c) (by rw [h1]; exact hl))) (by rw [h1]; exact hon)
    rw [h1] at h2
    exact Ck.ok_ads (fun k hk => (ha k hk).symm) (memLt_mem hlt (nth_mem hcl)) h2

theorem loadSV_ck {P : Program} {w : World} {m : List (Ck C)} {c : Nat} (hc : (nth m c).on = true → Ck.ok (ads m) w (nth m c)) {t i f : Nat} {ps : List Prop} {r : SV} (h : loadSV P m t c i f = some (ps, r)) (hp : allOf ps) :
    (loadVar t ((ads m c).at i f)).run P w = .ok (r.va (ads m)) w := by
  exact loadSV_okc hc h hp

/-- The names that were given on the way hold what they say. -/
def GsOK (F : List Nat) (m0 : List (Ck C)) (G : List Nat) (m : List (Ck C)) : Prop := ∀ c, inL c G = true → c < m.length ∧ ∀ w, Stay F m0 w → (nth m c).on = true → Ck.ok (ads m) w (nth m c)
theorem GsOK.nil {F : List Nat} {m0 m : List (Ck C)} : GsOK F m0 [] m := fun c hc => by simp [inL] at hc
theorem stepC_ok {P : Program} {E : Env P C} {ops : Array Oper} {F : List Nat} {m0 : List (Ck C)} {G : List Nat} {o : Oper} {tm : Tm} {m : List (Ck C)} (hg : GlOK m) (hads : ∀ k, k < m0.length → ads m0 k = ads m k) (hG : GsOK F m0 G m) {K : Tm → Tr} (hs : stepC E ops F m0 G o tm m K) {a : Act} (h : ActOK (ads m) E.n tm a) :
    ∃ v tm', YieldsT P ops (Stay F m0) o v a ∧ K tm' ∧ ActOK (ads m) E.n tm' (a.put o.dst v) := by
  unfold stepC at hs
  split at hs <;> try (first | contradiction | exact False.elim hs)
  · rename_i hgd
    have hw := gd_skip h hgd
    split at hs <;> try (first | contradiction | exact False.elim hs)
    rename_i tm' hp
    exact ⟨Go.undef, tm', .inr ⟨hw, rfl⟩, hs, put_ok h hp (by simp) _ rfl⟩
  · rename_i cs hgd
    obtain ⟨hw, hcs⟩ := gd_run h hgd
    have fin : ∀ (ps : List Prop) (v : SV) (tm' : Tm), put? E.n tm o.dst cs v = some tm' → asks cs ps (K tm') → (holds cs = true → allOf ps → ∀ w, Stay F m0 w → (execOp a.eval o).run P w = .ok (.value (v.va (ads m))) w) →
        ∃ v tm', YieldsT P ops (Stay F m0) o v a ∧ K tm' ∧ ActOK (ads m) E.n tm' (a.put o.dst v) := by
      intro ps v tm' hp hs hr
      obtain ⟨hK, hps⟩ := asks_ok hs
      cases e : holds cs with
      | true =>
        refine ⟨v.va (ads m), tm', .inl ⟨by rw [hw, e], fun w hT => hr e (hps e) w hT⟩, hK, put_ok h hp hcs _ ?_⟩
        cases cs with
        | nil => rfl
        | cons c r => simp [mkc, SV.va, e]
      | false =>
        refine ⟨Go.undef, tm', .inr ⟨by rw [hw, e], rfl⟩, hK, put_ok h hp hcs _ ?_⟩
        cases cs with
        | nil => cases e
        | cons c r => simp [mkc, SV.va, e]
    split at hs
    · rename_i ps v hpu
      split at hs <;> try (first | contradiction | exact False.elim hs)
      rename_i tm' hp
      exact fin ps v tm' hp hs fun e hps w _ => pureP_ok h hg (alOf_ok hcs e) hpu hps w
    · split at hs
      rotate_left
      · cases cs with
        | nil => exact False.elim hs
        | cons c1 c2 =>
          dsimp only at hs
          split at hs <;> try (first | contradiction | exact False.elim hs)
          rename_i tm' hp
          obtain ⟨hK, hno⟩ := asks_ok hs
          cases e : holds (c1 :: c2) with
          | true => exact (hno e).1.elim
          | false => exact ⟨Go.undef, tm', .inr ⟨by rw [hw, e], rfl⟩, hK, put_ok h hp (by simp) _ rfl⟩
      rename_i ps v hpu
      split at hs <;> try (first | contradiction | exact False.elim hs)
      rename_i tm' hp
      refine fin ps v tm' hp hs fun e hps w hT => ?_
      obtain ⟨dst, op, ty, pos, after, g⟩ := o
      simp only at hpu
      cases op <;> simp only [levF] at hpu <;> try contradiction
      rename_i t x
      split at hpu <;> try (first | contradiction | exact False.elim hpu)
      · rename_i c i f he
        split at hpu <;> try (first | contradiction | exact False.elim hpu)
        · rename_i hcF
          simp only [Bool.and_eq_true] at hcF
          have hcl : c < m0.length := by simpa using hcF.2
          split at hpu <;> try (first | contradiction | exact False.elim hpu)
          rename_i ps' v' hld
          split at hpu <;> try (first | contradiction | exact False.elim hpu)
          rename_i hvl
          simp only [Option.some.injEq, Prod.mk.injEq] at hpu
          obtain ⟨rfl, rfl⟩ := hpu
          have h1 := ev_ok h hg (alOf_ok hcs e) _ _ he
          have h2 := loadSV_ck (hT.1 c hcF.1 hcl).1 hld hps
          rw [hads c hcl, SV.va_congr hads _ hvl] at h2
          simp [execOp, Instr.loadAt, h1, SV.va, Instr.sureAddr, h2]
        · split at hpu <;> try (first | contradiction | exact False.elim hpu)
          rename_i hcG
          have h1 := ev_ok h hg (alOf_ok hcs e) _ _ he
          have h2 := loadSV_ck ((hG c hcG).2 w hT) hpu hps
          simp [execOp, Instr.loadAt, h1, SV.va, Instr.sureAddr, h2]
      · rename_i g he
        have h1 := ev_ok h hg (alOf_ok hcs e) _ _ he
        split at hpu <;> try (first | contradiction | exact False.elim hpu)
        rename_i v' hag hv
        simp only [Option.some.injEq, Prod.mk.injEq] at hpu
        obtain ⟨_, rfl⟩ := hpu
        have hc := hT.2 g v' hv
        rw [(C g).gflat v' hv noAd (ads m)] at hc
        have h2 := run_loadVar (P := P) (w := w) (a := ⟨g, 0, none⟩) hag (vs := [v'.va (ads m)]) 0 (fun h => by cases h) (fun _ => by simp) (fun j u hj _ h2 => by
          have : j = 0 := by simp at h2; omega
          subst this
          simp only [List.getElem?_cons_zero, Option.some.injEq] at hj
          subst hj
          simpa [Addr.add] using hc)
        simp [execOp, Instr.loadAt, h1, SV.va, Instr.sureAddr, h2]

theorem famS_ok {P : Program} {S : Sx} {w0 : World} {E : Env P C} {ops : Array Oper} {F : List Nat} {m0 : List (Ck C)} (hm0 : memLt m0.length m0 = true) {G : List Nat} {tm : Tm} {m : List (Ck C)} {a : Act} (h : ActOK (ads m) E.n tm a) (hg : GlOK m) (hads : ∀ k, k < m0.length → ads m0 k = ads m k) (hst : ∀ c, inL c F = true → c < m0.length ∧ nth m c = nth m0 c) (hG : GsOK F m0 G m) {o : Oper} {ht : FamHit C}
    (hf : famP E F m0 tm m o = some ht) {K : SV → List (Ck C) → Tr} (hK : (famT ht tm m K).holds) :
    ∃ v m', YieldsT P ops (Stay F m0) o (v.va (ads m')) a ∧ (K v m').holds ∧ (∀ w, MemOK S w0 w m ↔ MemOK S w0 w m') ∧ ActOK (ads m') E.n tm a ∧ GlOK m' ∧
      (m.length ≤ m'.length ∧ ∀ k, k < m.length → ads m k = ads m' k ∧ nth m' k = nth m k) ∧ GsOK F m0 (m.length :: G) m' := by
  unfold famP at hf
  split at hf <;> try contradiction
  rename_i hgd
  split at hf <;> try contradiction
  rename_i ht' hf'
  split at hf <;> try contradiction
  rename_i hcF
  simp only [Option.some.injEq] at hf
  subst hf
  simp only [Bool.and_eq_true] at hcF
  obtain ⟨F0, c0, as0, x0⟩ := ht'
  simp only at hcF
  have hcl0 : c0 < m0.length := by simpa using hcF.2
  have hst0 := (hst c0 hcF.1).2
  unfold famT at hK
  split at hK <;> try exact hK.elim
  rename_i hlt
  simp only [Bool.and_eq_true] at hlt
  obtain ⟨hp, hK⟩ := (conj_iff _ _).1 hK
  have hK := hK _ rfl
  obtain ⟨hc, hon, hx, hrun⟩ := famOf_run h hg (al := []) (by intro p hp; cases hp) hf' hp
  simp only at hc hon hx hrun
  have hx' : (∃ c ∈ m, c.cells.Has F0.te x0) ∨ x0 = (C F0.te).dflt := hx.imp (fun hx => ⟨_, nth_mem hc, hx⟩) id
  have hgood : ∀ w, Stay F m0 w → Rw.ok (C F0.t) w (F0.get x0) := fun w hT => by
    refine F0.good w _ ?_
    rcases hx with hx | hx
    · rw [hst0] at hx; exact (hT.1 _ hcF.1 hcl0).2 _ _ hx
    · rw [hx]; exact (C F0.te).dflt_deep.2 w
  generalize hr : F0.get x0 = r at hK hgood
  refine ⟨_, _, .inl ⟨?_, fun w hT => ?_⟩, hK, fun w => ⟨fun hm => (hm.ghost hlt.1 F0 hx' hr).1, MemOK.dropO hlt.1⟩, h.ads (ads_append m _) hlt.2, trivial, ⟨by simp, fun k hk => ⟨ads_append m _ k hk, by rw [nth_append, if_pos hk]⟩⟩, ?_⟩
  · unfold Region.wanted; rw [hgd]
  · have hgd' := hgood w hT
    have hok := (hT.1 _ hcF.1 hcl0).1 (by rw [← hst0]; exact hon)
    have hok' : Ck.ok (ads m) w (nth m c0) := by
      rw [hst0]
      exact Ck.ok_ads hads (memLt_mem hm0 (nth_mem hcl0)) hok
    rw [hrun w hok', hr, ghost_val r m fun ho => by
      unfold Rw.ok at hgd'
      simp only [ho] at hgd'
      exact hgd']
  · intro k hk
    simp only [inL, Bool.or_eq_true] at hk
    rcases hk with hk | hk
    · obtain rfl := Nat.eq_of_beq_eq_true hk
      refine ⟨by simp, fun w hT ho => ?_⟩
      have hgd := hgood w hT
      have e : nth (m ++ [(⟨r.b, r.base, (C F0.t).sz, false, some r.on, .rows F0.t r.l⟩ : Ck C)]) m.length = ⟨r.b, r.base, (C F0.t).sz, false, some r.on, .rows F0.t r.l⟩ := by
        rw [nth_append, if_neg (Nat.lt_irrefl _), if_pos rfl]
      rw [e] at ho ⊢
      have ho : r.on = true := ho
      unfold Rw.ok at hgd
      simp only [ho] at hgd
      refine ⟨rfl, fun i' hi' f' hf' => ?_⟩
      rw [enc_flat (C F0.t) _ noAd _ f' hf']
      exact hgd i' hi' f' hf'
    · obtain ⟨g1, g2⟩ := hG k hk
      refine ⟨by simp; omega, fun w hT ho => ?_⟩
      rw [nth_append, if_pos g1] at ho ⊢
      exact Ck.ok_ads (ads_append m _) (memLt_mem hlt.1 (nth_mem g1)) (g2 w hT ho)

theorem stepL_ok {P : Program} {S : Sx} {w0 : World} {E : Env P C} {ops : Array Oper} {o : Oper} {tm : Tm} {m : List (Ck C)} (hg : GlOK m) {K : Tm → List (Ck C) → Tr} (hs : stepL E ops o tm m K) {a : Act} (h : ActOK (ads m) E.n tm a) :
    ∃ v tm' m', YieldsIn P ops (fun w => MemOK S w0 w m) o v a ∧ K tm' m' ∧ ActOK (ads m') E.n tm' (a.put o.dst v) ∧ (∀ w, MemOK S w0 w m ↔ MemOK S w0 w m') ∧ GlOK m' ∧ (m.length ≤ m'.length ∧ ∀ k, k < m.length → ads m k = ads m' k ∧ nth m' k = nth m k) := by
  have same : (∀ w, MemOK S w0 w m ↔ MemOK S w0 w m) ∧ GlOK m ∧ (m.length ≤ m.length ∧ ∀ k, k < m.length → ads m k = ads m k ∧ nth m k = nth m k) := ⟨fun _ => Iff.rfl, hg, Nat.le_refl _, fun _ _ => ⟨rfl, rfl⟩⟩
  unfold stepL at hs
  split at hs <;> try (first | contradiction | exact False.elim hs)
  · rename_i hgd
    have hw := gd_skip h hgd
    split at hs <;> try (first | contradiction | exact False.elim hs)
    rename_i tm' hp
    exact ⟨Go.undef, tm', m, .inr ⟨hw, rfl⟩, hs, put_ok h hp (by simp) _ rfl, same⟩
  · rename_i cs hgd
    obtain ⟨hw, hcs⟩ := gd_run h hgd
    split at hs
    · obtain ⟨v, tm', m', hr, hK, h', hiff, hg', hl⟩ := famQ_ok (S := S) (w0 := w0) hg 8 tm hs h
      refine ⟨v, tm', m', ?_, hK, h', hiff, hg', hl⟩
      rcases hr with ⟨hw', hr⟩ | hr
      · refine .inl ⟨hw', fun w hm => ?_⟩
        unfold Oper.quietAt; rw [hr w hm]; exact ⟨rfl, rfl⟩
      · exact .inr hr
    split at hs <;> try (first | contradiction | exact False.elim hs)
    rename_i ps v hpu
    split at hs <;> try (first | contradiction | exact False.elim hs)
    rename_i tm' hp
    obtain ⟨hK, hps⟩ := asks_ok hs
    cases e : holds cs with
    | true =>
      refine ⟨v.va (ads m), tm', m, .inl ⟨by rw [hw, e], fun w hm => ?_⟩, hK, put_ok h hp hcs _ ?_, same⟩
      · rcases pureQ_ok (S := S) (w0 := w0) h (alOf_ok hcs e) hpu (hps e) w hm with hr | ⟨f, vals, hr, hc⟩
        · unfold Oper.quietAt; rw [hr]; exact ⟨rfl, rfl⟩
        · unfold Oper.quietAt; rw [hr]; exact ⟨rfl, hc⟩
      · cases cs with
        | nil => rfl
        | cons c r => simp [mkc, SV.va, e]
    | false =>
      refine ⟨Go.undef, tm', m, .inr ⟨by rw [hw, e], rfl⟩, hK, put_ok h hp hcs _ ?_, same⟩
      cases cs with
      | nil => cases e
      | cons c r => simp [mkc, SV.va, e]

theorem allIx_ok {ops : Array Oper} {f : Nat → Bool} (h : allIx ops f = true) : ∀ j, j < ops.size → f j = true := by
  intro j hj
  exact List.all_eq_true.1 h j (List.mem_range.2 hj)

/-- What holds on the way. -/
def TT (L : List Nat) (F : List Nat) (m0 : List (Ck C)) (l : Array Bool) (w : World) : Prop := ((∃ f ∈ L, l.getD f false = true) ∨ Stay F m0 w) ∧ Stay [] m0 w

theorem reachP_ok {ops : Array Oper} {L : List Nat} {late : Bool} {i : Nat} {listed Z : Array Bool} (hsz : listed.size = ops.size) (h : reachP ops L late i listed Z = true) :
    (∀ j oj, ops[j]? = some oj → j ≠ i → Z.getD j false = false → ∃ e ∈ oj.after, Region.binds .any e = true ∧ Z.getD e.on false = false) ∧
    (∀ j, listed.getD j false = true → Z.getD j false = true) ∧ (late = true ∨ ∀ f ∈ L, Z.getD f false = false) ∧ i ∉ L := by
  unfold reachP at h
  simp only [Bool.and_eq_true, Bool.or_eq_true, Bool.not_eq_true', List.all_eq_true] at h
  obtain ⟨⟨⟨h1, h2⟩, h3⟩, h4⟩ := h
  refine ⟨?_, ?_, h3, by simpa using h4⟩
  · intro j oj hoj hji hz
    have hj : j < ops.size := (Array.getElem?_eq_some_iff.1 hoj).1
    have := allIx_ok h1 j hj
    simp only [hoj, hz, Bool.or_false, Option.map_some, Option.getD_some, Bool.or_eq_true] at this
    rcases this with this | this
    · exact absurd (Nat.eq_of_beq_eq_true this) hji
    · obtain ⟨e, he, hb⟩ := Array.any_eq_true'.1 this
      simp only [Bool.and_eq_true, Bool.not_eq_true'] at hb
      exact ⟨e, he, hb.1, hb.2⟩
  · intro j hj
    have hjl : j < ops.size := by
      rcases Nat.lt_or_ge j ops.size with h' | h'
      · exact h'
      · simp [Array.getElem?_eq_none (by omega : listed.size ≤ j)] at hj
    have := allIx_ok h2 j hjl
    rw [hj] at this
    simpa using this

theorem TT_set {L F : List Nat} {m0 : List (Ck C)} {i : Nat} (hi : i ∉ L) (l : Array Bool) (w : World) (h : TT L F m0 (l.setIfInBounds i true) w) : TT L F m0 l w := by
  refine ⟨?_, h.2⟩
  rcases h.1 with ⟨f, hf, h⟩ | h
  · refine .inl ⟨f, hf, ?_⟩
    rw [getD_set_ne false (fun e => hi (by rw [e]; exact hf))] at h
    exact h
  · exact .inr h
theorem Stay.none {S : Sx} {w0 w : World} {m0 m : List (Ck C)} (hm : MemOK S w0 w m) : Stay [] m0 w := ⟨fun c hc => by simp [inL] at hc, fun g v hv => (hm.more.gv g v hv).1⟩

theorem splan_ok {P : Program} {S : Sx} {w0 : World} {E : Env P C} {ops : Array Oper} {W L F0 : List Nat} {m0 : List (Ck C)} (hm0 : memLt m0.length m0 = true) {Q : Exit → Act → World → Prop} (hQ : ∀ c a w, ¬ Q (.panic c) a w) (hns : Region.noSelect ops = true) :
    ∀ (l : PTree) (late : Bool) (F G : List Nat) (listed : Array Bool) (tm : Tm) (m : List (Ck C)) (K : Tm → List (Ck C) → Tr) (a : Act), listed.size = ops.size → planOK ops W L late l listed = true → splanG E ops F m0 G l tm m K → GsOK F m0 G m → ActOK (ads m) E.n tm a → GlOK m →
    (∀ k, k < m0.length → ads m0 k = ads m k) → m0.length ≤ m.length → (∀ c, inL c F = true → c < m0.length ∧ nth m c = nth m0 c) → (if late then F = [] ∧ ∃ f ∈ L, listed.getD f false = true else F = F0) →
    (∀ tm' m' a' w', K tm' m' → ActOK (ads m') E.n tm' a' → MemOK S w0 w' m' → (m0.length ≤ m'.length ∧ ∀ k, k < m0.length → ads m0 k = ads m' k) → Q .normal a' w') → Hy P ops (kW W) (TT L F0 m0) (fun w => MemOK S w0 w m) Q l.len listed a
  | .nil, late, F, G, listed, tm, m, K, a, _, hp, hs, _, h, _, hads, hle, _, _, hq => by
    simp only [planOK, List.isEmpty_iff] at hp
    exact ⟨hp, fun w hm => hq _ _ _ _ hs h hm ⟨hle, hads⟩⟩
  | .p i r, late, F, G, listed, tm, m, K, a, hsz, hp, hs, hG, h, hg, hads, hle, hst, hlt, hq => by
    simp only [planOK, Bool.and_eq_true, Bool.not_eq_true'] at hp
    obtain ⟨⟨⟨⟨h1, h2⟩, h3⟩, h5⟩, h4⟩ := hp
    generalize (if (late || L.isEmpty) = true then Array.replicate ops.size true else reach ops i ops.size listed) = Z at h5
    obtain ⟨hZ, hLZ, hLL, hiL⟩ := reachP_ok hsz h5
    simp only [splanG] at hs
    split at hs <;> try (first | contradiction | exact False.elim hs)
    rename_i o ho
    have hlt' : if late then F = [] ∧ ∃ f ∈ L, (listed.setIfInBounds i true).getD f false = true else F = F0 := by
      cases late with
      | false => exact hlt
      | true => exact ⟨hlt.1, hlt.2.elim fun f hf => ⟨f, hf.1, getD_set_le hf.2⟩⟩
    have hall : ∀ (l : Array Bool) (w : World), (∀ k, l.getD k false = true → Z.getD k false = true) → TT L F0 m0 l w → Stay F m0 w := by
      intro l w hl hT
      cases late with
      | true =>
        obtain ⟨rfl, _⟩ := hlt
        exact hT.2
      | false =>
        simp only [Bool.false_eq_true, if_false] at hlt
        subst hlt
        rcases hT.1 with ⟨f, hf, hT⟩ | hT
        · rcases hLL with hLL | hLL
          · cases hLL
          · have := hl f hT
            rw [hLL f hf] at this; cases this
        · exact hT
    split at hs
    · rename_i ht hfp
      obtain ⟨v, m', hy, hK, hiff, h', hg', hl, hG'⟩ := famS_ok (S := S) (w0 := w0) (ops := ops) hm0 h hg hads hst hG hfp hs
      split at hK <;> try (first | contradiction | exact False.elim hK)
      rename_i tm' hpt
      rw [fTm1_eq] at hK
      have hnext := splan_ok (S := S) (w0 := w0) (a := a.put o.dst (v.va (ads m'))) hm0 hQ hns r late F _ _ tm' m' K (by simp [hsz]) h4 hK hG' (put_ok h' hpt (by simp) _ rfl) hg' (fun k hk => (hads k hk).trans (hl.2 k (by omega)).1) (by omega) (fun c hc => ⟨(hst c hc).1, (hl.2 c (by have := (hst c hc).1; omega)).2.trans (hst c hc).2⟩) hlt' hq
      rw [← memEq hiff] at hnext
      exact Hy_first_P (fun w hm => Stay.of hm hm0 (fun c hc => (hst c hc).2) hads) Z hZ hall (TT_set hiL) ho (Region.noSelect_spec hns) h3 (fun c a w hc => absurd hc (hQ _ _ _)) r.len listed a (Region.free_spec ho h2) hLZ (by simpa using h1) hy hnext
    obtain ⟨v, tm', hy, hK, h'⟩ := stepC_ok hg hads hG hs h
    rw [fTm1_eq] at hK
    exact Hy_first_P (fun w hm => Stay.of hm hm0 (fun c hc => (hst c hc).2) hads) Z hZ hall (TT_set hiL) ho (Region.noSelect_spec hns) h3 (fun c a w hc => absurd hc (hQ _ _ _)) r.len listed a (Region.free_spec ho h2) hLZ (by simpa using h1) hy
      (splan_ok hm0 hQ hns r late F _ _ tm' m K _ (by simp [hsz]) h4 hK hG h' hg hads hle hst hlt' hq)
  | .q i r, late, F, G, listed, tm, m, K, a, hsz, hp, hs, hG, h, hg, hads, hle, hst, hlt, hq => by
    simp only [planOK, Bool.and_eq_true, Bool.not_eq_true'] at hp
    obtain ⟨⟨⟨⟨h1, h2⟩, h3⟩, h56⟩, h4⟩ := hp
    generalize reach ops i ops.size listed = Z at h56
    unfold reachOK at h56
    obtain ⟨h5, h6⟩ := Bool.and_eq_true_iff.1 h56
    simp only [splanG] at hs
    split at hs <;> try (first | contradiction | exact False.elim hs)
    rename_i o ho
    obtain ⟨v, tm', m', hy, hK, h', hiff, hg', hle', hads'⟩ := stepL_ok (S := S) (w0 := w0) hg hs h
    rw [fTm1_eq] at hK
    have hlt' : if late then F = [] ∧ ∃ f ∈ L, (listed.setIfInBounds i true).getD f false = true else F = F0 := by
      cases late with
      | false => exact hlt
      | true => exact ⟨hlt.1, hlt.2.elim fun f hf => ⟨f, hf.1, getD_set_le hf.2⟩⟩
    have hnext := splan_ok (S := S) (w0 := w0) hm0 hQ hns r late F _ _ tm' m' K _ (by simp [hsz]) h4 hK GsOK.nil h' hg' (fun k hk => (hads k hk).trans (hads' k (by omega)).1) (by omega) (fun c hc => ⟨(hst c hc).1, (hads' c (by have := (hst c hc).1; omega)).2.trans (hst c hc).2⟩) hlt' hq
    rw [← memEq hiff] at hnext
    refine Hy_first_Q ho (Region.noSelect_spec hns) h3 Z ?_ r.len listed a (Region.free_spec ho h2) ?_ ?_ (by simpa using h1) hy hnext
    · intro j oj hoj hji hz
      have hj : j < ops.size := (Array.getElem?_eq_some_iff.1 hoj).1
      have := allIx_ok h5 j hj
      simp only [hoj, hz, Bool.or_false, Option.map_some, Option.getD_some, Bool.or_eq_true] at this
      rcases this with this | this
      · exact absurd (Nat.eq_of_beq_eq_true this) hji
      · obtain ⟨e, he, hb⟩ := Array.any_eq_true'.1 this
        simp only [Bool.and_eq_true, Bool.not_eq_true'] at hb
        exact ⟨e, he, hb.1, hb.2⟩
    · intro j hj
      have hjl : j < ops.size := by
        rcases Nat.lt_or_ge j ops.size with h' | h'
        · exact h'
        · simp [Array.getElem?_eq_none (by omega : listed.size ≤ j)] at hj
      have := (Bool.and_eq_true_iff.1 (allIx_ok h6 j hjl)).1
      rw [hj] at this
      simpa using this
    · intro j hj hz
      have hjl : j < ops.size := by
        rcases Nat.lt_or_ge j ops.size with h' | h'
        · exact h'
        · simp [Array.getElem?_eq_none (by omega : listed.size ≤ j)] at hj
      have := (Bool.and_eq_true_iff.1 (allIx_ok h6 j hjl)).2
      rw [hj, hz] at this
      simpa using this
  | .e i r, late, F, G, listed, tm, m, K, a, hsz, hp, hs, hG, h, hg, hads, hle, hst, hlt, hq => by
    simp only [planOK, Bool.and_eq_true] at hp
    obtain ⟨⟨h1, h2⟩, h4⟩ := hp
    have hr : Region.ready .any ops listed = [i] := by
      split at h1
      · rename_i j hj; rw [hj, Nat.eq_of_beq_eq_true h1]
      · cases h1
    simp only [splanG] at hs
    split at hs <;> try (first | contradiction | exact False.elim hs)
    rename_i o ho
    have hlt' : if late then F = [] ∧ ∃ f ∈ L, (listed.setIfInBounds i true).getD f false = true else F = F0 := by
      cases late with
      | false => exact hlt
      | true => exact ⟨hlt.1, hlt.2.elim fun f hf => ⟨f, hf.1, getD_set_le hf.2⟩⟩
    refine ⟨fun h0 => (by rw [hr] at h0; cases h0), fun j hj => ?_⟩
    rw [hr] at hj
    have hji : j = i := by simpa using hj
    subst hji
    rw [if_pos h2]
    intro w hm
    obtain ⟨g1, g2⟩ := stepP_ok (Q := Q) (next := wpAT P ops (TT L F0 m0) Q r.len (listed.setIfInBounds j true)) hs h hm
      (fun tm' m' a' w' hk h' hm' hads' => by
        simp only [fTm1_eq, fM_eq] at hk
        obtain ⟨hk', hst'⟩ := stays_ok hk
        have hads2 : ∀ k, k < m0.length → ads m0 k = ads m' k := fun k hkl => (hads k hkl).trans (hads'.2 k (by omega))
        refine Hy_sound _ _ _ _ ?_ (splan_ok hm0 hQ hns r late F _ _ tm' m' K a' (by simp [hsz]) h4 hk' GsOK.nil h' hm'.glob hads2 (Nat.le_trans hle hads'.1) (fun c hc => ⟨(hst c hc).1, hst' c hc⟩) hlt' hq) hm'
        intro l w hl hm
        cases late with
        | true =>
          obtain ⟨_, f, hf, hff⟩ := hlt'
          exact ⟨.inl ⟨f, hf, hl f hff⟩, Stay.none hm⟩
        | false =>
          simp only [Bool.false_eq_true, if_false] at hlt
          subst hlt
          exact ⟨.inr (Stay.of hm hm0 hst' hads2), Stay.none hm⟩)
    unfold wpOp
    simp only [ho]
    split
    · rename_i hw; exact .inl (g1 hw)
    · rename_i hw; exact g2 (by simpa using hw)
  | .f i r, late, F, G, listed, tm, m, K, a, hsz, hp, hs, hG, h, hg, hads, hle, hst, hlt, hq => by
    simp only [planOK, Bool.and_eq_true] at hp
    obtain ⟨⟨⟨h1, h2⟩, h3⟩, h4⟩ := hp
    have hr : Region.ready .any ops listed = [i] := by
      split at h1
      · rename_i j hj; rw [hj, Nat.eq_of_beq_eq_true h1]
      · cases h1
    simp only [splanG] at hs
    split at hs <;> try (first | contradiction | exact False.elim hs)
    rename_i o ho
    have hil : i < listed.size := by rw [hsz]; exact (Array.getElem?_eq_some_iff.1 ho).1
    have hlt' : ∃ f ∈ L, (listed.setIfInBounds i true).getD f false = true := ⟨i, by simpa using h3, by simp [hil]⟩
    refine ⟨fun h0 => (by rw [hr] at h0; cases h0), fun j hj => ?_⟩
    rw [hr] at hj
    have hji : j = i := by simpa using hj
    subst hji
    rw [if_pos h2]
    intro w hm
    obtain ⟨g1, g2⟩ := stepP_ok (Q := Q) (next := wpAT P ops (TT L F0 m0) Q r.len (listed.setIfInBounds j true)) hs h hm
      (fun tm' m' a' w' hk h' hm' hads' => by
        simp only [fTm1_eq, fM_eq] at hk
        have hads2 : ∀ k, k < m0.length → ads m0 k = ads m' k := fun k hkl => (hads k hkl).trans (hads'.2 k (by omega))
        refine Hy_sound _ _ _ _ ?_ (splan_ok hm0 hQ hns r true [] _ _ tm' m' K a' (by simp [hsz]) h4 hk GsOK.nil h' hm'.glob hads2 (Nat.le_trans hle hads'.1) (fun c hc => by simp [inL] at hc) ⟨rfl, hlt'⟩ hq) hm'
        intro l w hl hm
        obtain ⟨f, hf, hff⟩ := hlt'
        exact ⟨.inl ⟨f, hf, hl f hff⟩, Stay.none hm⟩)
    unfold wpOp
    simp only [ho]
    split
    · rename_i hw; exact .inl (g1 hw)
    · rename_i hw; exact g2 (by simpa using hw)
  | .two i a' j b', late, F, G, listed, tm, m, K, a, hsz, hp, hs, hG, h, hg, hads, hle, hst, hlt, hq => by
    simp only [planOK, Bool.and_eq_true] at hp
    obtain ⟨⟨⟨⟨⟨h1, h2⟩, h2'⟩, h5⟩, h4⟩, h4'⟩ := hp
    have h5 := Nat.eq_of_beq_eq_true h5
    have hr : Region.ready .any ops listed = [i, j] := by
      split at h1
      · rename_i x y hj
        simp only [Bool.and_eq_true] at h1
        rw [hj, Nat.eq_of_beq_eq_true h1.1, Nat.eq_of_beq_eq_true h1.2]
      · cases h1
    simp only [splanG] at hs
    split at hs <;> try (first | contradiction | exact False.elim hs)
    rename_i o o' ho ho'
    have one : ∀ (k : Nat) (ok : Oper) (t : PTree), ops[k]? = some ok → planOK ops W L late t (listed.setIfInBounds k true) = true →
        (stepP E ops ok tm m fun tm' m' => fTm1 tm' fun tm' => fM m' fun m' => stays m0 m' F (splanG E ops F m0 [] t tm' m' K)).holds →
        (∀ (tm' : Tm) (m' : List (Ck C)) (a2 : Act), (splanG E ops F m0 [] t tm' m' K).holds → ActOK (ads m') E.n tm' a2 → GlOK m' → (∀ k, k < m0.length → ads m0 k = ads m' k) → m0.length ≤ m'.length → (∀ c, inL c F = true → c < m0.length ∧ nth m' c = nth m0 c) →
          (if late then F = [] ∧ ∃ f ∈ L, (listed.setIfInBounds k true).getD f false = true else F = F0) → Hy P ops (kW W) (TT L F0 m0) (fun w => MemOK S w0 w m') Q t.len (listed.setIfInBounds k true) a2) →
        ∀ w, MemOK S w0 w m → wpOp P ops Q k (wpAT P ops (TT L F0 m0) Q t.len (listed.setIfInBounds k true)) a w := by
      intro k ok t ho hp4 hs ih w hm
      have hlt' : if late then F = [] ∧ ∃ f ∈ L, (listed.setIfInBounds k true).getD f false = true else F = F0 := by
        cases late with
        | false => exact hlt
        | true => exact ⟨hlt.1, hlt.2.elim fun f hf => ⟨f, hf.1, getD_set_le hf.2⟩⟩
      obtain ⟨g1, g2⟩ := stepP_ok (Q := Q) (next := wpAT P ops (TT L F0 m0) Q t.len (listed.setIfInBounds k true)) hs h hm
        (fun tm' m' a' w' hk h' hm' hads' => by
          simp only [fTm1_eq, fM_eq] at hk
          obtain ⟨hk', hst'⟩ := stays_ok hk
          have hads2 : ∀ k, k < m0.length → ads m0 k = ads m' k := fun k hkl => (hads k hkl).trans (hads'.2 k (by omega))
          refine Hy_sound _ _ _ _ ?_ (ih tm' m' a' hk' h' hm'.glob hads2 (Nat.le_trans hle hads'.1) (fun c hc => ⟨(hst c hc).1, hst' c hc⟩) hlt') hm'
          intro l w hl hm
          cases late with
          | true =>
            obtain ⟨_, f, hf, hff⟩ := hlt'
            exact ⟨.inl ⟨f, hf, hl f hff⟩, Stay.none hm⟩
          | false =>
            simp only [Bool.false_eq_true, if_false] at hlt
            subst hlt
            exact ⟨.inr (Stay.of hm hm0 hst' hads2), Stay.none hm⟩)
      unfold wpOp
      simp only [ho]
      split
      · rename_i hw; exact .inl (g1 hw)
      · rename_i hw; exact g2 (by simpa using hw)
    refine ⟨fun h0 => (by rw [hr] at h0; cases h0), fun k hk => ?_⟩
    rw [hr] at hk
    simp only [List.mem_cons, List.not_mem_nil, or_false] at hk
    rcases hk with rfl | rfl
    · rw [if_pos h2]
      exact one k o a' ho h4 hs.1 fun tm' m' a2 g1 g2 g3 g4 g5 g6 g7 => splan_ok hm0 hQ hns a' late F _ _ tm' m' K a2 (by simp [hsz]) h4 g1 GsOK.nil g2 g3 g4 g5 g6 g7 hq
    · rw [if_pos h2']
      have e : a'.len = b'.len := h5
      show ∀ w, MemOK S w0 w m → wpOp P ops Q k (wpAT P ops (TT L F0 m0) Q a'.len (listed.setIfInBounds k true)) a w
      rw [e]
      exact one k o' b' ho' h4' hs.2 fun tm' m' a2 g1 g2 g3 g4 g5 g6 g7 => splan_ok hm0 hQ hns b' late F _ _ tm' m' K a2 (by simp [hsz]) h4' g1 GsOK.nil g2 g3 g4 g5 g6 g7 hq

theorem inMem_ok {F : List Nat} {m : List (Ck C)} (h : inMem F m) : memLt m.length m = true ∧ ∀ c, inL c F = true → c < m.length := by
  unfold inMem at h
  split at h
  · rename_i hc
    obtain ⟨h1, h2⟩ := Bool.and_eq_true_iff.1 hc
    refine ⟨h1, fun c hc => ?_⟩
    rw [List.all_eq_true] at h2
    have inl : ∀ (F : List Nat), inL c F = true → c ∈ F := by
      intro F
      induction F with
      | nil => intro h; cases h
      | cons x r ih =>
        intro h
        simp only [inL, Bool.or_eq_true] at h
        rcases h with h | h
        · rw [Nat.eq_of_beq_eq_true h]; simp
        · exact List.mem_cons_of_mem _ (ih h)
    have hmem := inl F hc
    simpa using h2 c hmem
  · exact h.elim
/-- A region that draws. -/
theorem draw_ok {P : Program} (hmix : P.follows .mixedOrders = true) {S : Sx} {w0 w : World} {E : Env P C} {ops : Array Oper} {id : Nat} {Q : Exit → Act → World → Prop} {tm : Tm} {m : List (Ck C)} {K : Tm → List (Ck C) → Tr} {a : Act}
    {F : List Nat} {pl : PTree} (hp : planned ops pl = true) (hin : inMem F m) (hs : splan E ops F m pl tm m K) (h : ActOK (ads m) E.n tm a) (hm : MemOK S w0 w m)
    (hq : ∀ tm' m' a' w', K tm' m' → ActOK (ads m') E.n tm' a' → MemOK S w0 w' m' → Q .normal a' w') : (Code.region id ops true).wp P Q a w := by
  unfold planned at hp
  simp only [Bool.and_eq_true] at hp
  obtain ⟨⟨h1, h2⟩, h3⟩ := hp
  have h3 := Nat.eq_of_beq_eq_true h3
  obtain ⟨hm0, hF⟩ := inMem_ok hin
  have key : (Code.region id ops true).wp P (fun e a w => match e with | .normal => Q .normal a w | _ => False) a w := by
    refine wp_region_any hmix ?_
    have := splan_ok (S := S) (w0 := w0) hm0 (Q := fun e a w => match e with | .normal => Q .normal a w | _ => False) (fun c a w hc => hc) (L := lates pl) (F0 := F) h1 pl false F [] _ tm m K a (by simp) h2 hs GsOK.nil h hm.glob (fun _ _ => rfl) (Nat.le_refl _) (fun c hc => ⟨hF c hc, rfl⟩) rfl (fun tm' m' a' w' hk h' hm' _ => hq _ _ _ _ hk h' hm')
    rw [h3] at this
    exact wpAT_any _ _ _ _ (Hy_sound _ _ _ _ (fun l w _ hm => ⟨.inr (Stay.of hm hm0 (fun _ _ => rfl) (fun _ _ => rfl)), Stay.none hm⟩) this hm.drew)
  refine wp_mono key fun e a w he => ?_
  cases e <;> first | exact he | exact he.elim

end Go.Vx
namespace Go.Vx
open Go
variable {C : Nat → Codec}

theorem sops_ok {P : Program} {S : Sx} {w0 : World} {E : Env P C} {ops : Array Oper} {Q : Exit → Act → World → Prop} : ∀ {l : List Oper} {tm : Tm} {m : List (Ck C)} {K : Tm → List (Ck C) → Tr} {a : Act} {w : World},
    sops E ops l tm m K → ActOK (ads m) E.n tm a → MemOK S w0 w m → (∀ tm' m' a' w', K tm' m' → ActOK (ads m') E.n tm' a' → MemOK S w0 w' m' → Q .normal a' w') → wpList P ops Q l a w
  | [], tm, m, K, a, w, hs, h, hm, hq => hq _ _ _ _ hs h hm
  | o :: r, tm, m, K, a, w, hs, h, hm, hq => by
    obtain ⟨h1, h2⟩ := stepP_ok (Q := Q) (next := wpList P ops Q r) hs h hm (fun tm' m' a' w' hk h' hm' _ => by simp only [fTm1_eq, fM_eq] at hk; exact sops_ok hk h' hm' hq)
    unfold wpList
    split
    · rename_i hw; exact .inl (h1 hw)
    · rename_i hw; exact h2 (by simpa using hw)

/-- A region all of whose operations only compute or read. -/
def stepQ {P : Program} (E : Env P C) (ops : Array Oper) (o : Oper) (tm : Tm) (m : List (Ck C)) (K : Tm → List (Ck C) → Tr) : Tr :=
  match gd ops tm o.guard with
  | .lost => .no
  | .skip => match put? E.n tm o.dst [] .undef with
    | some tm' => K tm' m
    | none => .no
  | .run cs => match pureP E tm m (alOf cs) o with
    | some (ps, v) => match put? E.n tm o.dst cs v with
      | some tm' => asks cs ps (K tm' m)
      | none => .no
    | none => match famOf P E.fams tm m (alOf cs) o.op with
      | some _ => famQ E ops o 8 tm m K
      | none => match pureQ E tm m (alOf cs) o.op with
        | some (ps, v) => match put? E.n tm o.dst cs v with
          | some tm' => asks cs ps (K tm' m)
          | none => .no
        | none => match cs with
          | [] => .no
          | _ :: _ => match put? E.n tm o.dst [] .undef with
            | some tm' => asks cs [False] (K tm' m)
            | none => .no

def sopsQ {P : Program} (E : Env P C) (ops : Array Oper) : List Oper → Tm → List (Ck C) → (Tm → List (Ck C) → Tr) → Tr
  | [], tm, m, K => K tm m
  | o :: r, tm, m, K => stepQ E ops o tm m fun tm' m' => fTm1 tm' fun tm' => sopsQ E ops r tm' m' K

theorem sopsQ_ok {P : Program} {S : Sx} {w0 : World} {E : Env P C} {ops : Array Oper} {Q : Act → Prop} : ∀ {l : List Oper} {tm : Tm} {m : List (Ck C)} {K : Tm → List (Ck C) → Tr} {a : Act}, GlOK m →
    sopsQ E ops l tm m K → ActOK (ads m) E.n tm a → (∀ tm' m' a', K tm' m' → ActOK (ads m') E.n tm' a' → (∀ w, MemOK S w0 w m ↔ MemOK S w0 w m') → (m.length ≤ m'.length ∧ ∀ k, k < m.length → ads m k = ads m' k) → Q a') → wpQuiet P ops (fun w => MemOK S w0 w m) Q l a
  | [], tm, m, K, a, hg, hs, h, hq => hq _ _ _ hs h (fun _ => Iff.rfl) ⟨Nat.le_refl _, fun _ _ => rfl⟩
  | o :: r, tm, m, K, a, hg, hs, h, hq => by
    unfold wpQuiet
    simp only [sopsQ] at hs
    unfold stepQ at hs
    split at hs <;> try (first | contradiction | exact False.elim hs)
    · rename_i hgd
      have hw := gd_skip h hgd
      split at hs <;> try (first | contradiction | exact False.elim hs)
      rename_i tm' hp
      rw [if_neg (by simp [hw])]
      dsimp only at hs
      rw [fTm1_eq] at hs
      exact sopsQ_ok hg hs (put_ok h hp (by simp) _ rfl) hq
    · rename_i cs hgd
      obtain ⟨hw, hcs⟩ := gd_run h hgd
      have fin : ∀ (ps : List Prop) (v : SV) (tm' : Tm), put? E.n tm o.dst cs v = some tm' → asks cs ps (fTm1 tm' fun tm' => sopsQ E ops r tm' m K) →
          (holds cs = true → allOf ps → ∀ w, MemOK S w0 w m → o.quietAt P a (fun w => MemOK S w0 w m) w (v.va (ads m))) →
          (if Region.wanted o (yielded ops a.tmps) then o.quiet P a (fun w => MemOK S w0 w m) (wpQuiet P ops (fun w => MemOK S w0 w m) Q r) else wpQuiet P ops (fun w => MemOK S w0 w m) Q r (a.put o.dst Go.undef)) := by
        intro ps v tm' hp hs hr
        obtain ⟨hK, hps⟩ := asks_ok hs
        rw [fTm1_eq] at hK
        cases e : holds cs with
        | true =>
          rw [if_pos (by rw [hw, e])]
          refine ⟨v.va (ads m), hr e (hps e), sopsQ_ok hg hK (put_ok h hp hcs _ ?_) hq⟩
          cases cs with
          | nil => rfl
          | cons c r => simp [mkc, SV.va, e]
        | false =>
          rw [if_neg (by rw [hw, e]; simp)]
          refine sopsQ_ok hg hK (put_ok h hp hcs _ ?_) hq
          cases cs with
          | nil => cases e
          | cons c r => simp [mkc, SV.va, e]
      split at hs
      · rename_i ps v hpu
        split at hs <;> try (first | contradiction | exact False.elim hs)
        rename_i tm' hp
        refine fin ps v tm' hp hs fun e hps w hm => ?_
        have hr := pureP_ok h hg (alOf_ok hcs e) hpu hps w
        unfold Oper.quietAt; rw [hr]; exact ⟨rfl, rfl⟩
      split at hs
      · obtain ⟨v, tm', m', hr, hK, h', hiff, hg', hle, hads⟩ := famQ_ok (S := S) (w0 := w0) hg 8 tm hs h
        rw [fTm1_eq] at hK
        have hnext := sopsQ_ok (S := S) (w0 := w0) (Q := Q) hg' hK h' (fun tm2 m2 a2 k1 k2 k3 k4 => hq tm2 m2 a2 k1 k2 (fun w => (hiff w).trans (k3 w)) ⟨Nat.le_trans hle k4.1, fun k hk => (hads k hk).1.trans (k4.2 k (by omega))⟩)
        rw [← memEq hiff] at hnext
        rcases hr with ⟨hw', hr⟩ | ⟨hw', rfl⟩
        · rw [if_pos hw']
          refine ⟨v, fun w hm => ?_, hnext⟩
          unfold Oper.quietAt; rw [hr w hm]; exact ⟨rfl, rfl⟩
        · rw [if_neg (by simp [hw'])]
          exact hnext
      · split at hs
        rotate_left
        · cases cs with
          | nil => exact False.elim hs
          | cons c1 c2 =>
            dsimp only at hs
            split at hs <;> try (first | contradiction | exact False.elim hs)
            rename_i tm' hp
            obtain ⟨hK, hno⟩ := asks_ok hs
            rw [fTm1_eq] at hK
            cases e : holds (c1 :: c2) with
            | true => exact (hno e).1.elim
            | false =>
              rw [if_neg (by rw [hw, e]; simp)]
              exact sopsQ_ok hg hK (put_ok h hp (by simp) _ rfl) hq
        rename_i ps v hpu
        split at hs <;> try (first | contradiction | exact False.elim hs)
        rename_i tm' hp
        refine fin ps v tm' hp hs fun e hps w hm => ?_
        rcases pureQ_ok (S := S) (w0 := w0) h (alOf_ok hcs e) hpu hps w hm with hr | ⟨f, vals, hr, hc⟩
        · unfold Oper.quietAt; rw [hr]; exact ⟨rfl, rfl⟩
        · unfold Oper.quietAt; rw [hr]; exact ⟨rfl, hc⟩

/-- How a piece of code is left. -/
inductive Ex where
  | nor
  | exit (id : Nat)
  | ret

def Ex.of : Ex → Exit
  | .nor => .normal
  | .exit i => .exit i
  | .ret => .ret

/-- The first region of a piece of code: a loop's name. -/
def firstId : Code → Nat
  | .region id _ _ => id
  | .seq a b => match firstId a with
    | 0 => firstId b
    | n => n
  | .block _ c => firstId c
  | .loop c => firstId c
  | .scope c => firstId c
  | _ => 0

/-- The slots that a piece of code writes. -/
def writes : Code → List Nat
  | .region _ ops _ => ops.toList.filterMap (·.dst)
  | .seq a b => writes a ++ writes b
  | .cond _ a b => writes a ++ writes b
  | .block _ c => writes c
  | .loop c => writes c
  | .scope c => writes c
  | _ => []

def inList (k : Nat) : List Nat → Bool
  | [] => false
  | x :: r => Nat.beq x k || inList k r
/-- Only what is not written, each slot once. -/
def keepTm (ws : List Nat) : Tm → Tm
  | [] => []
  | (k, v) :: r => match inList k ws with
    | true => keepTm ws r
    | false => match v with
      | .cnd _ _ => keepTm (k :: ws) r
      | v => (k, v) :: keepTm (k :: ws) r

/-- What is said of a loop: by variables X, the slots that its rounds turn, the chunks, what holds of them, a measure. -/
structure Inv' (C : Nat → Codec) where
  id : Nat
  X : Type
  tm : X → Tm
  mem : X → List (Ck C) → List (Ck C)
  inv : X → Prop
  meas : X → Nat

/-- All that is said of that loop: its rounds stand in one or another of these states. -/
def findInvs (id : Nat) : List (Inv' C) → List (Inv' C)
  | [] => []
  | x :: r => if Nat.beq x.id id then x :: findInvs id r else findInvs id r
def allI : List (Inv' C) → (Inv' C → Tr) → Tr
  | [], _ => .yes
  | I :: r, f => .and (f I) (allI r f)
theorem allI_ok : ∀ {l : List (Inv' C)} {f : Inv' C → Tr}, (allI l f).holds → ∀ I ∈ l, (f I).holds
  | [], _, _, I, hI => by cases hI
  | J :: r, f, h, I, hI => by
    rcases List.mem_cons.1 hI with rfl | hI
    · exact h.1
    · exact allI_ok h.2 I hI
/-- One of the states stands. -/
def Stands (l : List (Inv' C)) (f : (I : Inv' C) → I.X → Prop) : Prop := ∃ I ∈ l, ∃ x, f I x
theorem Stands.one {I : Inv' C} {r : List (Inv' C)} {f : (I : Inv' C) → I.X → Prop} (x : I.X) (h : f I x) : Stands (I :: r) f := ⟨I, List.mem_cons_self .., x, h⟩
theorem Stands.next {I : Inv' C} {r : List (Inv' C)} {f : (I : Inv' C) → I.X → Prop} (h : Stands r f) : Stands (I :: r) f := by
  obtain ⟨J, hJ, x, h⟩ := h
  exact ⟨J, List.mem_cons_of_mem _ hJ, x, h⟩

mutual
/-- Which of the caller's names stand for which (200: none of them). -/
def unif : SV → SV → List (Nat × Nat)
  | .ptr c _ _, .ptr c' _ _ => [(c, c')]
  | .sl c _ _ _, .sl c' _ _ _ => [(c, c')]
  | .sl c _ _ _, .nils => [(c, 200)]
  | .mp c, .mp c' => [(c, c')]
  | .agg a, .agg b => unifs a b
  | .tup a, .tup b => unifs a b
  | .ifc _ v, .ifc _ v' => unif v v'
  | .fn _ a b, .fn _ a' b' => unifs a a' ++ unifs b b'
  | _, _ => []
def unifs : List SV → List SV → List (Nat × Nat)
  | a :: r, b :: s => unif a b ++ unifs r s
  | _, _ => []
end
def look : List (Nat × Nat) → Nat → Nat
  | [], k => k
  | (a, b) :: r, k => if Nat.beq a k then b else look r k
def unifTm (tm : Tm) : Tm → List (Nat × Nat)
  | [] => []
  | (k, v) :: r => unif v (get tm k) ++ unifTm tm r
def unifMem (m : List (Ck C)) : Nat → List (Ck C) → List (Nat × Nat) → List (Nat × Nat)
  | _, [], acc => acc
  | k, a :: r, acc => unifMem m (k + 1) r (match a.cells, (nth m (look acc k)).cells with
    | .one vs, .one vs' => acc ++ unifs vs vs'
    | .it c _ _, .it c' _ _ => acc ++ [(c, c')]
    | _, _ => acc)
def namesOf (acc : List (Nat × Nat)) : Nat → List (Ck C) → List Nat
  | _, [] => []
  | k, _ :: r => look acc k :: namesOf acc (k + 1) r

/-- Slots tm are told by tm' under the names ρ. -/
def tmSub (N : Nat) (ρ : List Nat) (tm : Tm) : Tm → Option (List Prop)
  | [] => some []
  | (k, v) :: r => match isJunk v with
    | true => tmSub N ρ tm r
    | false => match eqv N (get tm k) (v.ren ρ), tmSub N ρ tm r with
      | some p, some q => some (p ++ q)
      | _, _ => none

/-- No slot twice. -/
def once : List Nat → Tm → Bool
  | _, [] => true
  | ks, (k, _) :: r => !(inList k ks) && once (k :: ks) r

def fP : List (Nat × Nat) → (List (Nat × Nat) → Tr) → Tr
  | [], K => K []
  | (a, b) :: r, K => fP r fun r => K ((a, b) :: r)
theorem fP_eq : ∀ (l : List (Nat × Nat)) (K : List (Nat × Nat) → Tr), fP l K = K l
  | [], _ => rfl
  | (a, b) :: r, K => by simp only [fP, fP_eq r]
def fNat (n : Nat) : (Nat → Tr) → Tr :=
  Nat.rec (motive := fun _ => (Nat → Tr) → Tr) (fun K => K 0) (fun _ ih K => ih fun n => K (n + 1)) n
theorem fNat_eq : ∀ (n : Nat) (K : Nat → Tr), fNat n K = K n
  | 0, _ => rfl
  | n + 1, K => by
    show fNat n (fun n => K (n + 1)) = K (n + 1)
    rw [fNat_eq n]
def fNames : List Nat → (List Nat → Tr) → Tr
  | [], K => K []
  | x :: r, K => fNat x fun x => fNames r fun r => K (x :: r)
theorem fNames_eq : ∀ (l : List Nat) (K : List Nat → Tr), fNames l K = K l
  | [], _ => rfl
  | x :: r, K => by simp only [fNames, fNat_eq, fNames_eq r]
/-- The same az 'unifMem', each step worked out before the next one. -/
def unifMemK (m : List (Ck C)) : Nat → List (Ck C) → List (Nat × Nat) → (List (Nat × Nat) → Tr) → Tr
  | _, [], acc, K => K acc
  | k, a :: r, acc, K => fP (match a.cells, (nth m (look acc k)).cells with
    | .one vs, .one vs' => acc ++ unifs vs vs'
    | .it c _ _, .it c' _ _ => acc ++ [(c, c')]
    | _, _ => acc) fun acc' => unifMemK m (k + 1) r acc' K
theorem unifMemK_eq (m : List (Ck C)) : ∀ (r : List (Ck C)) (k : Nat) (acc : List (Nat × Nat)) (K : List (Nat × Nat) → Tr), unifMemK m k r acc K = K (unifMem m k r acc)
  | [], _, _, _ => rfl
  | a :: r, k, acc, K => by simp only [unifMemK, unifMem, fP_eq, unifMemK_eq m r]
def subR (tm : Tm) (m : List (Ck C)) (tm' : Tm) (m' : List (Ck C)) (ρ : List Nat) : Tr :=
  match memLt m.length m && tmLt m.length tm && memLt m'.length m' && tmLt m'.length tm' && once [] tm' with
  | false => .no
  | true => withOffs m ρ m' fun ρ M => match apartB ρ m' with
    | false => .no
    | true => match cksEq m.length ρ M ρ m', tmSub m.length ρ tm tm' with
      | some ps, some qs => allLf (ps ++ qs)
      | _, _ => .no
def subP (tm : Tm) (m : List (Ck C)) (tm' : Tm) (m' : List (Ck C)) (acc : List (Nat × Nat)) : Tr :=
  fP acc fun acc => unifMemK m 0 m' acc fun A => fNames (namesOf A 0 m') fun ρ => subR tm m tm' m' ρ
theorem subP_eq (tm : Tm) (m : List (Ck C)) (tm' : Tm) (m' : List (Ck C)) (acc : List (Nat × Nat)) : subP tm m tm' m' acc = subR tm m tm' m' (namesOf (unifMem m 0 m' acc) 0 m') := by
  simp only [subP, fP_eq, unifMemK_eq, fNames_eq]

theorem MemOK.sub {S : Sx} {w0 w : World} {M : List (Ck C)} (h : MemOK S w0 w M) {N : Nat} (hN : ∀ c, N ≤ c → (ads M c).on = false) {ρ : List Nat} {m : List (Ck C)} (hlt : memLt m.length m = true)
    (hk : ∀ k, k < m.length → rn ρ k < M.length ∧ CkEq N ρ (nth m k) (nth M (rn ρ k))) (hap : ∀ i j, i < m.length → j < m.length → i ≠ j → (nth m i).wr = true → rn ρ i ≠ rn ρ j) :
    MemOK S w0 w m ∧ ∀ c, c < m.length → ads m c = ads M (rn ρ c) := by
  obtain ⟨⟨p1, p2, p3, p4⟩, hads⟩ := h.enterP hN hlt hk hap
  have hmore : More S w0 w m := by
    refine h.more.mono h.inS (fun _ _ _ => rfl) (fun x hx hxl => ?_) h.size (Nat.le_refl _) (fun x hx t y hy => ?_)
    · obtain ⟨j, hjl, rfl⟩ := mem_nth hx
      obtain ⟨h1, h2⟩ := hk j hjl
      exact .inl ⟨_, nth_mem h1, h2.live hxl, h2.block.symm, h2.wr⟩
    · obtain ⟨j, hjl, rfl⟩ := mem_nth hx
      obtain ⟨h1, h2⟩ := hk j hjl
      exact .inl ⟨_, nth_mem h1, h2.has hy, fun _ => h2.wr⟩
  refine ⟨⟨h.os, h.tape, h.output, h.size, h.keep, ?_, p1, p2, p3, p4, hmore⟩, hads⟩
  intro c hc hw ho hb
  obtain ⟨k, hkl, rfl⟩ := mem_nth hc
  obtain ⟨h1, h2⟩ := hk k hkl
  rw [h2.block] at hb ⊢
  exact h.inS _ (nth_mem h1) (h2.wr hw) (by rw [← h2.on]; exact ho) hb

theorem get_once {v : SV} : ∀ {tm : Tm} {ks : List Nat}, once ks tm = true → ∀ k, (k, v) ∈ tm → get tm k = v
  | [], _, _, k, hk => by cases hk
  | (j, u) :: r, ks, h, k, hk => by
    simp only [once, Bool.and_eq_true] at h
    rw [get_put]
    rcases List.mem_cons.1 hk with e | hk
    · simp only [Prod.mk.injEq] at e; rw [if_pos e.1.symm, e.2]
    · have hne : j ≠ k := by
        rintro rfl
        have inl : ∀ (l : Tm) (ks : List Nat), once ks l = true → ∀ p ∈ l, inList p.1 ks = false := by
          intro l
          induction l with
          | nil => intro ks _ p hp; cases hp
          | cons y l ih =>
            intro ks hl p hp
            obtain ⟨y1, y2⟩ := y
            simp only [once, Bool.and_eq_true, Bool.not_eq_true'] at hl
            rcases List.mem_cons.1 hp with rfl | hp
            · exact hl.1
            · have := ih _ hl.2 p hp
              simp only [inList, Bool.or_eq_false_iff] at this
              exact this.2
        have := inl r (j :: ks) h.2 _ hk
        simp [inList] at this
      rw [if_neg hne]
      exact get_once h.2 k hk
theorem get_mem : ∀ (tm : Tm) (k : Nat), get tm k = .junk ∨ (k, get tm k) ∈ tm
  | [], k => .inl rfl
  | (j, u) :: r, k => by
    rw [get_put]
    split
    · rename_i e; subst e; exact .inr (by simp)
    · rcases get_mem r k with h | h
      · exact .inl h
      · exact .inr (by simp [h])

theorem tmSub_ok {N : Nat} {ρ : List Nat} {tm : Tm} : ∀ {tm' : Tm} {ps : List Prop}, tmSub N ρ tm tm' = some ps → allOf ps → ∀ k v, (k, v) ∈ tm' → v ≠ .junk → ∃ qs, eqv N (get tm k) (v.ren ρ) = some qs ∧ allOf qs
  | [], _, _, _, k, v, hk, _ => by cases hk
  | (j, u) :: r, ps, h, hp, k, v, hk, hv => by
    simp only [tmSub] at h
    split at h
    · rename_i hj
      rcases List.mem_cons.1 hk with e | hk
      · simp only [Prod.mk.injEq] at e
        obtain ⟨rfl, rfl⟩ := e
        cases v <;> simp [isJunk] at hj; exact absurd rfl hv
      · exact tmSub_ok h hp k v hk hv
    · split at h <;> try (first | contradiction | exact False.elim h)
      rename_i p q hp' hq'
      simp only [Option.some.injEq] at h; subst h
      have hpq := (allOf_append p q).1 hp
      rcases List.mem_cons.1 hk with e | hk
      · simp only [Prod.mk.injEq] at e
        obtain ⟨rfl, rfl⟩ := e
        exact ⟨p, hp', hpq.1⟩
      · exact tmSub_ok hq' hpq.2 k v hk hv

theorem subR_ok {S : Sx} {w0 w : World} {n : Nat} {tm tm' : Tm} {m m' : List (Ck C)} {ρ0 : List Nat} (h : subR tm m tm' m' ρ0) {a : Act} (ha : ActOK (ads m) n tm a) (hm : MemOK S w0 w m) :
    (ActOK (ads m') n tm' a ∧ MemOK S w0 w m') ∧ (allLt m.length ρ0 = true → ∀ c, c < m'.length → ads m' c = ads m (rn ρ0 c)) := by
  unfold subR at h
  split at h <;> try (first | contradiction | exact False.elim h)
  rename_i hc
  simp only [Bool.and_eq_true] at hc
  obtain ⟨⟨⟨⟨c0, c0'⟩, c1⟩, c2⟩, c4⟩ := hc
  obtain ⟨ρ, o, h, ho, hlM, hsame⟩ := withOffs_ok h c0
  obtain ⟨M, hMe⟩ : ∃ M, M = m ++ o := ⟨_, rfl⟩
  have hmM := hm.withO c0 ho
  obtain ⟨hadsP, hN⟩ := ads_offs (m := m) (o := o) (fun x hx => (ho x hx).1)
  rw [← hMe] at h hlM hmM hadsP hN
  have haM : ActOK (ads M) n tm a := ha.ads hadsP c0'
  split at h <;> try (first | contradiction | exact False.elim h)
  rename_i c3
  split at h <;> try (first | contradiction | exact False.elim h)
  rename_i ps qs hps hqs
  obtain ⟨hps', hqs'⟩ := (allOf_append _ _).1 (allLf_ok h)
  obtain ⟨hlen, hk⟩ := cksEq_ok hps hps'
  have hk' : ∀ k, k < m'.length → rn ρ k < M.length ∧ CkEq m.length ρ (nth m' k) (nth M (rn ρ k)) := fun k hkl => by
    obtain ⟨h1, qs, h2, h3⟩ := hk k hkl
    exact ⟨h1, ckEq_ok h2 h3⟩
  obtain ⟨hm', hads⟩ := hmM.sub hN c1 hk' (apartB_ok c3 hlen)
  refine ⟨⟨⟨ha.defers, ha.size, fun t => ?_, ?_⟩, hm'⟩, fun hall c hc => ?_⟩
  · by_cases hj : get tm' t = .junk
    · exact .inl hj
    · right
      rcases get_mem tm' t with h1 | h1
      · exact absurd h1 hj
      · obtain ⟨rs, hr1, hr2⟩ := tmSub_ok hqs hqs' t _ h1 hj
        have e := eqv_ok hN _ _ rs hr1 hr2
        rcases haM.tmps t with h2 | h2
        · rw [h2] at hr1
          simp [eqv] at hr1
        · rw [h2, e, SV.va_ren hads _ (tmLt_get c2 t)]
  · intro t cs v hg c hc b hb
    exfalso
    have hj : get tm' t ≠ .junk := by rw [hg]; simp
    rcases get_mem tm' t with h1 | h1
    · exact hj h1
    · obtain ⟨rs, hr1, _⟩ := tmSub_ok hqs hqs' t _ h1 hj
      rw [hg] at hr1
      simp only [SV.ren] at hr1
      unfold eqv at hr1
      split at hr1 <;> simp_all
  · obtain ⟨e1, e2⟩ := hsame hall
    subst e1 e2
    rw [hads c hc, hMe, List.append_nil]
theorem subP_ok {S : Sx} {w0 w : World} {n : Nat} {tm tm' : Tm} {m m' : List (Ck C)} {acc : List (Nat × Nat)} (h : subP tm m tm' m' acc) {a : Act} (ha : ActOK (ads m) n tm a) (hm : MemOK S w0 w m) :
    ActOK (ads m') n tm' a ∧ MemOK S w0 w m' := by
  rw [subP_eq] at h
  obtain ⟨ρ, hρ⟩ : ∃ ρ, ρ = namesOf (unifMem m 0 m' acc) 0 m' := ⟨_, rfl⟩
  rw [← hρ] at h
  exact (subR_ok h ha hm).1

theorem wp_loop' {P : Program} {Q : Exit → Act → World → Prop} {a : Act} {w : World} {c : Code} (I : Nat → Act → World → Prop) (n : Nat) (h₀ : I n a w)
    (round : ∀ n a w, I n a w → c.wp P (Exit.then (fun a' w' => ∃ n', n' < n ∧ I n' a' w') Q) a w) : (Code.loop c).wp P Q a w := by
  intro b k cs
  have key : ∀ n a w, I n a w → ∃ e a' w', Q e a' w' ∧ Arrives P (lone (b.at a (.code c :: .inLoop c :: k)) cs w) b k cs e a' w' := by
    intro n
    induction n using Nat.strongRecOn with
    | _ n ih =>
      intro a w hI
      obtain ⟨e, a₁, w₁, hq, harr⟩ := round n a w hI b (.inLoop c :: k) cs
      cases e with
      | normal =>
        obtain ⟨n', hlt, hI₁⟩ := hq
        obtain ⟨e₂, a₂, w₂, hq₂, harr₂⟩ := ih n' hlt a₁ w₁ hI₁
        exact ⟨e₂, a₂, w₂, hq₂, .of_steps (Steps.trans harr (.one step_inLoop)) harr₂⟩
      | exit id => exact ⟨_, a₁, w₁, hq, .pass (x := .inLoop c) rfl (fun _ _ => .inl (by simp)) harr⟩
      | goto l => exact ⟨_, a₁, w₁, hq, .pass (x := .inLoop c) rfl (fun _ _ => .inl (by simp)) harr⟩
      | ret => exact ⟨_, a₁, w₁, hq, .pass (x := .inLoop c) rfl (fun _ _ => .inl (by simp)) harr⟩
      | panic ch => exact ⟨_, a₁, w₁, hq, .pass (x := .inLoop c) rfl (fun _ _ => .inl (by simp)) harr⟩
      | outgrown => exact ⟨_, a₁, w₁, hq, .pass (x := .inLoop c) rfl (fun _ _ => .inl (by simp)) harr⟩
  obtain ⟨e, a', w', hq, harr⟩ := key n a w h₀
  exact ⟨e, a', w', hq, .of_steps (.one step_loop) harr⟩

def keysOf : Tm → List Nat
  | [] => []
  | (k, _) :: r => k :: keysOf r

/-- A region: in its order, or, where it draws, all quiet. -/
def sreg {P : Program} (E : Env P C) (id : Nat) (ops : Array Oper) (draw : Bool) (tm : Tm) (m : List (Ck C)) (K : Tm → List (Ck C) → Tr) : Tr :=
  match draw with
  | false => sops E ops ops.toList tm m K
  | true => match findPlan id E.plans with
    | none => .and (.lf (Region.lexB .any ops = true)) (sopsQ E ops ops.toList tm m K)
    | some (F, pl) => .and (.lf (planned ops pl = true)) (.and (inMem (frozen tm F) m) (splan E ops (frozen tm F) m pl tm m K))

/-- Two values that cannot be one, by their shapes. -/
def unlike : SV → SV → Bool
  | .nils, .sl _ _ _ _ => true
  | .sl _ _ _ _, .nils => true
  | .nilp, .ptr _ _ _ => true
  | .ptr _ _ _, .nilp => true
  | .nili, .ifc _ _ => true
  | .ifc _ _, .nili => true
  | _, _ => false
/-- Numbers that a loop's states name in slots that it never writes: they are what they were ahead of it; so are the shapes of values. -/
def linkP (ws : List Nat) (tm : Tm) : Tm → List Prop
  | [] => []
  | (k, v) :: r => match inList k ws with
    | true => linkP ws tm r
    | false => match unlike (get tm k) v with
      | true => False :: linkP ws tm r
      | false => match get tm k with
        | .int _ a => match v with
          | .int _ b => (a = b) :: linkP ws tm r
          | _ => linkP ws tm r
        | _ => linkP ws tm r
/-- The state cannot be met there. -/
def linkNo (ws : List Nat) (tm : Tm) : Tm → Bool
  | [] => false
  | (k, v) :: r => match inList k ws with
    | true => linkNo ws tm r
    | false => match unlike (get tm k) v with
      | true => true
      | false => linkNo ws tm r
theorem linkNo_ok {ws : List Nat} {tm : Tm} : ∀ {l : Tm}, linkNo ws tm l = true → ¬ allOf (linkP ws tm l)
  | [], h, _ => by cases h
  | (k, v) :: r, h, ha => by
    simp only [linkNo] at h
    simp only [linkP] at ha
    cases hk : inList k ws with
    | true => rw [hk] at h ha; exact linkNo_ok h ha
    | false =>
      rw [hk] at h ha
      simp only at h ha
      cases hu : unlike (get tm k) v with
      | true => rw [hu] at ha; exact ha.1
      | false =>
        rw [hu] at h ha
        simp only at h ha
        split at ha
        · split at ha
          · exact linkNo_ok h ha.2
          · exact linkNo_ok h ha
        · exact linkNo_ok h ha
def ifNo (b : Bool) (X : Tr) : Tr := match b with
  | true => .yes
  | false => X
theorem ifNo_h {b : Bool} {X : Tr} (h : (ifNo b X).holds) : b = true ∨ X.holds := by
  cases b with
  | true => exact .inl rfl
  | false => exact .inr h
/-- A state that holds of no chunk, where there are some, does not stand there. -/
def notApp : List (Ck C) → List (Ck C) → Bool
  | _ :: _, _ => false
  | [], [] => false
  | [], _ :: _ => true
def noP (a m : List (Ck C)) : List Prop := match notApp a m with
  | true => [False]
  | false => []
theorem noP_ok {a m : List (Ck C)} {l : List Prop} (h : allOf (noP a m ++ l)) : notApp a m = false ∧ allOf l := by
  unfold noP at h
  split at h
  · exact h.1.elim
  · rename_i e; exact ⟨e, h⟩
def linked : List Prop → Tr → Tr
  | [], X => X
  | p :: r, X => .and (.lf p) (linked r X)
def linkT : List Prop → Tr → Tr
  | [], X => X
  | p :: r, X => .imp p (linkT r X)
theorem linked_ok : ∀ {l : List Prop} {X : Tr}, (linked l X).holds → allOf l ∧ X.holds
  | [], _, h => ⟨trivial, h⟩
  | _ :: _, _, h => ⟨⟨h.1, (linked_ok h.2).1⟩, (linked_ok h.2).2⟩
theorem linkT_ok : ∀ {l : List Prop} {X : Tr}, (linkT l X).holds → allOf l → X.holds
  | [], _, h, _ => h
  | _ :: _, _, h, hl => linkT_ok (h hl.1) hl.2

/-- Where ways come together: states of number 1000000 + n, ahead of the code whose first region is n. -/
def hasJ : List (Inv' C) → Bool
  | [] => false
  | x :: r => match Nat.blt 999999 x.id with
    | true => true
    | false => hasJ r
def findJ (b : Code) (L : List (Inv' C)) : List (Inv' C) := match hasJ L with
  | false => []
  | true => findInvs (1000000 + firstId b) L
/-- A piece of code. -/
def sexec {P : Program} (E : Env P C) (L : List (Inv' C)) : Code → Tm → List (Ck C) → (Ex → Tm → List (Ck C) → Tr) → Tr
  | .skip, tm, m, K => K .nor tm m
  | .region id ops draw, tm, m, K => sreg E id ops draw tm m fun tm' m' => K .nor tm' m'
  | .seq a b, tm, m, K => match findJ b L with
    | [] => sexec E L a tm m fun e tm' m' => match e with
      | .nor => sexec E L b tm' m' K
      | e => K e tm' m'
    | I0 :: Ir => fL (I0 :: Ir) fun Is => fLN (writes a) fun ws =>
      .and (sexec E L a tm m fun e tm' m' => match e with
          | .nor => Tr.lf (Stands Is fun I' x' => I'.inv x' ∧ (linked (noP (I'.mem x' m) m ++ linkP ws tm (I'.tm x')) (subP tm' m' (I'.tm x' ++ keepTm (keysOf (I'.tm x') ++ ws) tm) (I'.mem x' m) (unifTm tm' (I'.tm x')))).holds)
          | e => K e tm' m')
        (allI Is fun I => .all fun x => ifNo (linkNo ws tm (I.tm x)) (ifNo (notApp (I.mem x m) m) (.imp (I.inv x) (linkT (linkP ws tm (I.tm x)) (fTm (I.tm x ++ keepTm (keysOf (I.tm x) ++ ws) tm) fun tmL => fM (I.mem x m) fun mL => sexec E L b tmL mL K)))))
  | .cond c x y, tm, m, K => match ev tm m [] c with
    | some (.bool .t) => sexec E L x tm m K
    | some (.bool .f) => sexec E L y tm m K
    | some (.bool (.tm b)) => .and (.imp (b = true) (sexec E L x tm m K)) (.imp (b = false) (sexec E L y tm m K))
    | _ => .no
  | .block id c, tm, m, K => sexec E L c tm m fun e tm' m' => match e with
    | .exit i => match Nat.beq i id with
      | true => K .nor tm' m'
      | false => K (.exit i) tm' m'
    | e => K e tm' m'
  | .loop c, tm, m, K => fL (findInvs (firstId c) L) fun Is => fLN (writes c) fun ws =>
      .and (.lf (Stands Is fun I x0 => I.inv x0 ∧ (linked (noP (I.mem x0 m) m ++ linkP ws tm (I.tm x0)) (subP tm m (I.tm x0 ++ keepTm (keysOf (I.tm x0) ++ ws) tm) (I.mem x0 m) (unifTm tm (I.tm x0)))).holds))
        (allI Is fun I => .all fun x => ifNo (linkNo ws tm (I.tm x)) (ifNo (notApp (I.mem x m) m) (.imp (I.inv x) (linkT (linkP ws tm (I.tm x)) (fTm (I.tm x ++ keepTm (keysOf (I.tm x) ++ ws) tm) fun tmL => fM (I.mem x m) fun mL => sexec E L c tmL mL fun e tm' m' => match e with
          | .nor => Tr.lf (Stands Is fun I' x' => I'.inv x' ∧ I'.meas x' < I.meas x ∧ (linked (noP (I'.mem x' m) m ++ linkP ws tm (I'.tm x')) (subP tm' m' (I'.tm x' ++ keepTm (keysOf (I'.tm x') ++ ws) tm) (I'.mem x' m) (unifTm tm' (I'.tm x')))).holds)
          | e => K e tm' m')))))
  | .exit id, tm, m, K => K (.exit id) tm m
  | .ret, tm, m, K => K .ret tm m
  | _, _, _, _ => .no

theorem sexec_ok {P : Program} (hmix : P.follows .mixedOrders = true) {S : Sx} {w0 : World} {E : Env P C} {L : List (Inv' C)} : ∀ {c : Code} {tm : Tm} {m : List (Ck C)} {K : Ex → Tm → List (Ck C) → Tr} {a : Act} {w : World} {Q : Exit → Act → World → Prop},
    sexec E L c tm m K → ActOK (ads m) E.n tm a → MemOK S w0 w m → (∀ e tm' m' a' w', K e tm' m' → ActOK (ads m') E.n tm' a' → MemOK S w0 w' m' → Q e.of a' w') → c.wp P Q a w := by
  intro c
  induction c with
  | skip => intro tm m K a w Q hs h hm hq; exact wp_skip (hq _ _ _ _ _ hs h hm)
  | region id ops draw =>
    intro tm m K a w Q hs h hm hq
    simp only [sexec, sreg] at hs
    cases draw with
    | false => exact wp_region_list (sops_ok hs h hm (fun tm' m' a' w' hk h' hm' => hq _ _ _ _ _ hk h' hm'))
    | true =>
      simp only at hs
      split at hs
      rotate_left
      · exact draw_ok hmix hs.1 hs.2.1 hs.2.2 h hm (fun tm' m' a' w' hk h' hm' => hq _ _ _ _ _ hk h' hm')
      obtain ⟨hB, hs⟩ := hs
      exact wp_region_quiet (C := fun w => MemOK S w0 w m) hmix hB hm.drew (sopsQ_ok hm.glob hs h (fun tm' m' a' hk h' hiff _ w' hm' => hq _ _ _ _ _ hk h' ((hiff w').1 hm')))
  | seq x y ihx ihy =>
    intro tm m K a w Q hs h hm hq
    simp only [sexec] at hs
    split at hs
    · refine wp_seq (ihx hs h hm fun e tm' m' a' w' hk h' hm' => ?_)
      cases e with
      | nor => exact ihy hk h' hm' hq
      | exit i => exact hq _ _ _ _ _ hk h' hm'
      | ret => exact hq _ _ _ _ _ hk h' hm'
    · rename_i I0 Ir _
      simp only [fL_eq, fLN_eq] at hs
      obtain ⟨hs, hround⟩ := hs
      have hround := allI_ok hround
      refine wp_seq (ihx hs h hm fun e tm' m' a' w' hk h' hm' => ?_)
      cases e with
      | nor =>
        obtain ⟨I, hI, x, hix, hs'⟩ := hk
        obtain ⟨hlx, hs'⟩ := linked_ok hs'
        obtain ⟨hna, hlx⟩ := noP_ok hlx
        obtain ⟨ha', hm''⟩ := subP_ok hs' h' hm'
        have hro := (ifNo_h (hround I hI x)).resolve_left (fun hno => linkNo_ok hno hlx)
        have hro := (ifNo_h hro).resolve_left (fun hno => by rw [hna] at hno; cases hno)
        have hro := linkT_ok (hro hix) hlx
        simp only [fTm_eq, fM_eq] at hro
        exact ihy hro ha' hm'' hq
      | exit i => exact hq _ _ _ _ _ hk h' hm'
      | ret => exact hq _ _ _ _ _ hk h' hm'
  | cond c x y ihx ihy =>
    intro tm m K a w Q hs h hm hq
    have hnil : AlOK tm [] := by intro p hp; cases hp
    simp only [sexec] at hs
    split at hs <;> try (first | contradiction | exact False.elim hs)
    · rename_i hc
      exact wp_cond (t := true) (ev_ok h hm.glob hnil _ _ hc) (ihx hs h hm hq)
    · rename_i hc
      exact wp_cond (t := false) (ev_ok h hm.glob hnil _ _ hc) (ihy hs h hm hq)
    · rename_i b hc
      cases b with
      | true => exact wp_cond (t := true) (ev_ok h hm.glob hnil _ _ hc) (ihx (hs.1 rfl) h hm hq)
      | false => exact wp_cond (t := false) (ev_ok h hm.glob hnil _ _ hc) (ihy (hs.2 rfl) h hm hq)
  | block id c ih =>
    intro tm m K a w Q hs h hm hq
    refine wp_block (ih hs h hm fun e tm' m' a' w' hk h' hm' => ?_)
    cases e with
    | nor => exact hq _ _ _ _ _ hk h' hm'
    | exit i =>
      simp only [Ex.of, Exit.inBlock]
      simp only at hk
      split at hk
      · rename_i hb
        rw [if_pos (Nat.eq_of_beq_eq_true hb)]
        exact hq _ _ _ _ _ hk h' hm'
      · rename_i hb
        rw [if_neg (Nat.ne_of_beq_eq_false hb)]
        exact hq _ _ _ _ _ hk h' hm'
    | ret => exact hq _ _ _ _ _ hk h' hm'
  | loop c ih =>
    intro tm m K a w Q hs h hm hq
    simp only [sexec, fL_eq, fLN_eq] at hs
    obtain ⟨⟨I0, hI0, x0, hi0, hs0⟩, hround⟩ := hs
    have hround := allI_ok hround
    obtain ⟨hl0, hs0⟩ := linked_ok hs0
    obtain ⟨hn0, hl0⟩ := noP_ok hl0
    obtain ⟨ha0, hm0⟩ := subP_ok hs0 h hm
    refine wp_loop' (fun n a w => ∃ I ∈ findInvs (firstId c) L, ∃ x, (I.inv x ∧ notApp (I.mem x m) m = false ∧ allOf (linkP (writes c) tm (I.tm x))) ∧ I.meas x = n ∧ ActOK (ads (I.mem x m)) E.n (I.tm x ++ keepTm (keysOf (I.tm x) ++ writes c) tm) a ∧ MemOK S w0 w (I.mem x m)) (I0.meas x0) ⟨I0, hI0, x0, ⟨hi0, hn0, hl0⟩, rfl, ha0, hm0⟩ ?_
    rintro n a1 w1 ⟨I, hI, x, ⟨hix, hna, hlx⟩, rfl, hax, hmx⟩
    have hro := (ifNo_h (hround I hI x)).resolve_left (fun hno => linkNo_ok hno hlx)
    have hro := (ifNo_h hro).resolve_left (fun hno => by rw [hna] at hno; cases hno)
    have hro := linkT_ok (hro hix) hlx
    simp only [fTm_eq, fM_eq] at hro
    refine ih hro hax hmx fun e tm' m' a' w' hk h' hm' => ?_
    cases e with
    | nor =>
      obtain ⟨I', hI', x', hi', hlt, hs'⟩ := hk
      obtain ⟨hl', hs'⟩ := linked_ok hs'
      obtain ⟨hn', hl'⟩ := noP_ok hl'
      obtain ⟨ha', hm''⟩ := subP_ok hs' h' hm'
      exact ⟨I'.meas x', hlt, I', hI', x', ⟨hi', hn', hl'⟩, rfl, ha', hm''⟩
    | exit i => exact hq _ _ _ _ _ hk h' hm'
    | ret => exact hq _ _ _ _ _ hk h' hm'
  | exit id => intro tm m K a w Q hs h hm hq; exact wp_exit (hq _ _ _ _ _ hs h hm)
  | ret => intro tm m K a w Q hs h hm hq; exact wp_ret (hq _ _ _ _ _ hs h hm)
  | rangeFunc _ _ _ _ => intro tm m K a w Q hs; exact False.elim hs
  | scope _ _ => intro tm m K a w Q hs; exact False.elim hs
  | label _ => intro tm m K a w Q hs; exact False.elim hs
  | goto _ => intro tm m K a w Q hs; exact False.elim hs
  | refuse _ => intro tm m K a w Q hs; exact False.elim hs

end Go.Vx
namespace Go.Vx
open Go
variable {C : Nat → Codec}

def initTm : Nat → List SV → Tm
  | _, [] => []
  | k, v :: r => (k, v) :: initTm (k + 1) r

def retOne (P : Program) (tm : Tm) (m : List (Ck C)) : ResultVar → Ans
  | .tmp t => match get tm t with
    | .junk => none
    | .cnd _ _ => none
    | v => some ([], v)
  | .cell a t => match get tm a with
    | .ptr c i f => loadSV P m t c i f
    | _ => none
def retAll (P : Program) (tm : Tm) (m : List (Ck C)) : List ResultVar → Option (List Prop × List SV)
  | [] => some ([], [])
  | x :: r => match retOne P tm m x, retAll P tm m r with
    | some (p, v), some (q, vs) => some (p ++ q, v :: vs)
    | _, _ => none
def retSV (P : Program) (fn : Func) (tm : Tm) (m : List (Ck C)) : Ans :=
  match fn.results.toList with
  | [x] => retOne P tm m x
  | l => (retAll P tm m l).map fun (p, vs) => (p, .tup vs)

def readRes (tmps : Array Value) : ResultVar → Sem Value
  | .tmp t => pure (tmps.getD t Go.undef)
  | .cell b t => do loadVar t (← asAddr (tmps.getD b Go.undef))

theorem retOne_ok {P : Program} {S : Sx} {w0 w : World} {n : Nat} {tm : Tm} {m : List (Ck C)} {a : Act} (h : ActOK (ads m) n tm a) (hm : MemOK S w0 w m) {x : ResultVar} {ps : List Prop} {r : SV}
    (hr : retOne P tm m x = some (ps, r)) (hp : allOf ps) :
    (readRes a.tmps x).run P w = .ok (r.va (ads m)) w := by
  cases x with
  | tmp t =>
    simp only [retOne] at hr
    have key : ∀ v, get tm t = v → v ≠ .junk → (a.tmps.getD t Go.undef) = v.va (ads m) := by
      intro v hv hj
      rcases h.tmps t with h1 | h1
      · exact absurd (hv.symm.trans h1) hj
      · simp [h1, hv]
    split at hr <;> try (first | contradiction | exact False.elim hr)
    rename_i h1 h2
    simp only [Option.some.injEq, Prod.mk.injEq] at hr
    obtain ⟨rfl, rfl⟩ := hr
    simp only [readRes, Sem.run_pure]
    rw [key _ rfl h1]
  | cell b t =>
    simp only [retOne] at hr
    split at hr <;> try (first | contradiction | exact False.elim hr)
    rename_i c i f hg
    have hl := loadSV_ok hm hr hp
    rcases h.tmps b with h1 | h1
    · rw [hg] at h1; cases h1
    · rw [hg] at h1
      simp [readRes, h1, SV.va, asAddr, hl]

theorem retSV_ok {P : Program} {S : Sx} {w0 w : World} {n : Nat} {tm : Tm} {m : List (Ck C)} {a : Act} (h : ActOK (ads m) n tm a) (hm : MemOK S w0 w m) {fn : Func} {ps : List Prop} {r : SV}
    (hr : retSV P fn tm m = some (ps, r)) (hp : allOf ps) : (results fn a.tmps).run P w = .ok (r.va (ads m)) w := by
  have hall : ∀ (l : List ResultVar) (ps : List Prop) (vs : List SV), retAll P tm m l = some (ps, vs) → allOf ps →
      (l.mapM (readRes a.tmps)).run P w = .ok (SV.vas (ads m) vs) w := by
    intro l
    induction l with
    | nil => intro ps vs hr _; simp [retAll] at hr; obtain ⟨rfl, rfl⟩ := hr; rfl
    | cons x l ih =>
      intro ps vs hr hp
      simp only [retAll] at hr
      split at hr <;> try (first | contradiction | exact False.elim hr)
      rename_i p v q vs' h1 h2
      simp only [Option.some.injEq, Prod.mk.injEq] at hr
      obtain ⟨rfl, rfl⟩ := hr
      have hpq := (allOf_append p q).1 hp
      have e1 := retOne_ok h hm h1 hpq.1
      have e2 := ih _ _ h2 hpq.2
      simp only [List.mapM_cons, Sem.run_bind, e1, Result.andThen_ok, e2, Sem.run_pure, SV.vas]
  have hres : results fn a.tmps = (do
      let vs ← fn.results.mapM (readRes a.tmps)
      pure (if h : vs.size = 1 then vs[0] else .tuple vs)) := by
    unfold results
    congr 1
  have hmap : ∀ vs, (fn.results.toList.mapM (readRes a.tmps)).run P w = .ok vs w →
      (fn.results.mapM (readRes a.tmps)).run P w = .ok vs.toArray w := by
    intro vs hvs
    rw [← Array.toArray_toList (xs := fn.results), List.mapM_toArray]
    simp only [Sem.run_map, hvs, Result.andThen_ok]
  rw [hres]
  unfold retSV at hr
  split at hr
  · rename_i x hx
    have e1 := retOne_ok h hm hr hp
    have := hmap [r.va (ads m)] (by rw [hx]; simp only [List.mapM_cons, List.mapM_nil, Sem.run_bind, e1, Result.andThen_ok, Sem.run_pure])
    simp only [Sem.run_bind, this, Result.andThen_ok, Sem.run_pure]
    simp
  · rename_i hne
    cases hra : retAll P tm m fn.results.toList with
    | none => simp [hra] at hr
    | some q =>
      obtain ⟨p, vs⟩ := q
      simp only [hra, Option.map_some, Option.some.injEq, Prod.mk.injEq] at hr
      obtain ⟨rfl, rfl⟩ := hr
      have := hmap _ (hall _ _ _ hra hp)
      have hlen : ∀ (l : List ResultVar) (ps : List Prop) (vs : List SV), retAll P tm m l = some (ps, vs) → vs.length = l.length := by
        intro l
        induction l with
        | nil => intro ps vs hr; simp [retAll] at hr; obtain ⟨rfl, rfl⟩ := hr; rfl
        | cons x l ih =>
          intro ps vs hr
          simp only [retAll] at hr
          split at hr <;> try (first | contradiction | exact False.elim hr)
          rename_i p v q vs' h1 h2
          simp only [Option.some.injEq, Prod.mk.injEq] at hr
          obtain ⟨rfl, rfl⟩ := hr
          simp [ih _ _ h2]
      have hl := hlen _ _ _ hra
      have h1 : vs.length ≠ 1 := by
        intro e
        rw [hl] at e
        obtain ⟨x, hx⟩ := List.length_eq_one_iff.1 e
        exact hne x hx
      simp only [Sem.run_bind, this, Result.andThen_ok, Sem.run_pure, SV.va]
      rw [dif_neg (by simp [SV.vas_eq, h1])]

/-- A function's body, from its arguments and the chunks that it finds. -/
def fexec {P : Program} (E : Env P C) (L : List (Inv' C)) (fn : Func) (c : Code) (args : List SV) (mem : List (Ck C)) (G : SV → List (Ck C) → Tr) : Tr :=
  fTm (initTm 0 args) fun tm0 => fM mem fun mem0 => sexec E L c tm0 mem0 fun e tm m => match e with
    | .exit _ => .no
    | _ => match retSV P fn tm m with
      | some (ps, r) => conj ps (fSV r fun r => fM m fun m => G r m)
      | none => .no

theorem get_init : ∀ (args : List SV) (k t : Nat), get (initTm k args) t = .junk ∨ (k ≤ t ∧ ∃ v, args[t - k]? = some v ∧ get (initTm k args) t = v)
  | [], _, _ => .inl rfl
  | v :: r, k, t => by
    simp only [initTm]
    rw [get_put]
    split
    · rename_i e; subst e; exact .inr ⟨Nat.le_refl _, v, by simp, rfl⟩
    · rename_i e
      rcases get_init r (k + 1) t with h | ⟨h1, u, h2, h3⟩
      · exact .inl h
      · exact .inr ⟨by omega, u, by rw [show t - k = (t - (k + 1)) + 1 by omega]; simpa using h2, h3⟩

def noCnds : List SV → Bool
  | [] => true
  | v :: r => notCnd v && noCnds r
theorem noCnds_ok : ∀ {l : List SV}, noCnds l = true → ∀ v ∈ l, notCnd v = true
  | [], _, v, h => by cases h
  | x :: r, h, v, hv => by
    simp only [noCnds, Bool.and_eq_true] at h
    rcases List.mem_cons.1 hv with rfl | hv
    · exact h.1
    · exact noCnds_ok h.2 v hv

theorem fexec_ok {P : Program} (hmix : P.follows .mixedOrders = true) {E : Env P C} {L : List (Inv' C)} {f : FuncId} {fn : Func} {c : Code} {args : List SV} {mem : List (Ck C)} {G : SV → List (Ck C) → Tr}
    (hf : P.funcs[f]? = some fn) (hb : fn.body = some c) (hn : fn.ntmps = E.n) (hlen : Nat.ble args.length E.n = true) (hnc : noCnds args = true) (h : fexec E L fn c args mem G) (w : World) (hm : MemOK (wrS mem) w w mem) :
    Calls P f (SV.vas (ads mem) args).toArray w fun e w' => ∃ r m', e = .returned (r.va (ads m')) ∧ MemOK (wrS mem) w w' m' ∧ G r m' := by
  have hlen : args.length ≤ E.n := Nat.le_of_ble_eq_true hlen
  refine calls_of_wp hf hb ?_
  have hsz : (SV.vas (ads mem) args).toArray.size = args.length := by simp [SV.vas_eq]
  have hact : ActOK (ads mem) E.n (initTm 0 args) { tmps := (SV.vas (ads mem) args).toArray ++ Array.replicate (fn.ntmps - (SV.vas (ads mem) args).toArray.size) Go.undef, defers := [] } := by
    refine ⟨rfl, by simp [hn, SV.vas_eq]; omega, fun t => ?_, ?_⟩
    · rcases get_init args 0 t with h1 | ⟨_, v, h2, h3⟩
      · exact .inl h1
      · right
        simp only [Nat.sub_zero] at h2
        have hlt : t < args.length := (List.getElem?_eq_some_iff.1 h2).1
        rw [h3, Array.getElem?_append_left (by rw [hsz]; exact hlt)]
        simp [SV.vas_eq, h2]
    · intro t cs v hg
      exfalso
      rcases get_init args 0 t with h1 | ⟨_, u, h2, h3⟩
      · rw [h1] at hg; cases hg
      · rw [h3] at hg
        exact notCnd_ok (noCnds_ok hnc u (List.mem_of_getElem? h2)) cs v hg
  unfold fexec at h
  simp only [fTm_eq, fM_eq, fSV_eq] at h
  refine sexec_ok hmix (w0 := w) (S := wrS mem) h hact hm fun e tm m a w' hk ha hm' => ?_
  have fin : (match retSV P fn tm m with | some (ps, r) => conj ps (G r m) | none => .no : Tr).holds → a.defers = [] ∧ ∃ v, (results fn a.tmps).run P w' = .ok v w' ∧ ∃ r m', Ending.returned v = .returned (r.va (ads m')) ∧ MemOK (wrS mem) w w' m' ∧ G r m' := by
    intro hk
    split at hk <;> try (first | contradiction | exact False.elim hk)
    rename_i ps r hr
    obtain ⟨hp, hG⟩ := (conj_iff _ _).1 hk
    exact ⟨ha.defers, _, retSV_ok ha hm' hr hp, r, m, rfl, hm', hG⟩
  cases e with
  | nor => exact fin hk
  | exit i => exact False.elim hk
  | ret => exact fin hk

def idNames : Nat → List (Ck C) → List (Nat × Nat)
  | _, [] => []
  | k, _ :: r => (k, k) :: idNames (k + 1) r
/-- The chunks that were there lie where they lay. -/
def placeEq : List (Ck C) → List (Ck C) → Option (List Prop)
  | [], out => if extB [] out then some [] else none
  | a :: s, o :: out => if Nat.beq o.sz a.sz && beqB o.wr a.wr then (placeEq s out).map fun ps => onEq o.gl a.gl ++ (o.block = a.block) :: (o.base = a.base) :: ps else none
  | _ :: _, [] => none

/-- The end of a function is told by its contract. -/
def finR (mem : List (Ck C)) (r : SV) (m : List (Ck C)) (res : SV) (out : List (Ck C)) (ρ : List Nat) : Tr :=
  match memLt m.length m && SV.lt m.length r && memLt out.length out && SV.lt out.length res with
  | false => .no
  | true => withOffs m ρ out fun ρ M => match apartB ρ out with
    | false => .no
    | true => match cksEq m.length ρ M ρ out, eqv m.length r (res.ren ρ), placeEq mem out with
      | some ps, some qs, some rs => allLf (ps ++ qs ++ rs)
      | _, _, _ => .no
/-- Chunks that are written off keep their places. -/
def deads : List (Ck C) → List (Ck C)
  | [] => []
  | ⟨b, ba, sz, w, g, _⟩ :: r => ⟨b, ba, sz, w, g, .dead⟩ :: deads r
def someDead : List (Ck C) → List (Ck C) → Bool
  | _ :: s, o :: out => !o.alive || someDead s out
  | _, _ => false
def idNamesD (n : Nat) : Nat → List (Ck C) → List (Ck C) → List (Nat × Nat)
  | k, _ :: s, o :: out => (match o.alive with
    | true => (k, k)
    | false => (k, n + k)) :: idNamesD n (k + 1) s out
  | _, _, _ => []
def finP (mem : List (Ck C)) (r : SV) (m : List (Ck C)) (res : SV) (out : List (Ck C)) : Tr :=
  match memLt m.length m && SV.lt m.length r with
  | false => .no
  | true => match someDead mem out with
  | false => fP (idNames 0 mem ++ unif res r) fun acc => unifMemK m 0 out acc fun A => fNames (namesOf A 0 out) fun ρ => finR mem r m res out ρ
  | true => fM (m ++ deads mem) fun M => fP (idNamesD m.length 0 mem out ++ unif res r) fun acc => unifMemK M 0 out acc fun A => fNames (namesOf A 0 out) fun ρ => finR mem r M res out ρ

theorem placeEq_ok : ∀ {mem out : List (Ck C)} {ps : List Prop}, placeEq mem out = some ps → allOf ps → Ext mem out
  | [], out, ps, h, _ => by
    simp only [placeEq] at h
    split at h <;> try (first | contradiction | exact False.elim h)
    rename_i he
    refine ⟨by simp, fun k hk => by simp at hk, fun k _ hk hl => ?_⟩
    have := List.all_eq_true.1 he _ (nth_mem hk)
    simpa [hl] using this
  | a :: s, [], ps, h, _ => by simp [placeEq] at h
  | a :: s, o :: out, ps, h, hp => by
    simp only [placeEq] at h
    split at h <;> try (first | contradiction | exact False.elim h)
    rename_i hc
    simp only [Bool.and_eq_true] at hc
    cases hs : placeEq s out with
    | none => simp [hs] at h
    | some qs =>
      simp only [hs, Option.map_some, Option.some.injEq] at h; subst h
      obtain ⟨h0, h1, h2, h3⟩ := (allOf_append _ _).1 hp
      have ih := placeEq_ok hs h3
      refine ⟨by simpa using ih.len, fun k hk => ?_, fun k hk hk' hl => ?_⟩
      · cases k with
        | zero =>
          refine ⟨h1, h2, Nat.eq_of_beq_eq_true hc.1, ?_, onEq_ok h0⟩
          have := hc.2
          show o.wr = a.wr
          revert this
          cases o.wr <;> cases a.wr <;> simp [beqB]
        | succ k => exact ih.same k (by simpa using hk)
      · cases k with
        | zero => simp at hk
        | succ k => exact ih.new k (by simpa using hk) (by simpa using hk') hl

theorem finR_ok {S : Sx} {w0 w : World} {mem m out : List (Ck C)} {r res : SV} {ρ0 : List Nat} (h0 : finR mem r m res out ρ0) (hm : MemOK S w0 w m) : MemOK S w0 w out ∧ r.va (ads m) = res.va (ads out) ∧ Ext mem out ∧ SV.lt m.length r = true := by
  have h := h0
  unfold finR at h
  split at h <;> try (first | contradiction | exact False.elim h)
  rename_i hc
  simp only [Bool.and_eq_true] at hc
  obtain ⟨⟨⟨c0, c0'⟩, c1⟩, c2⟩ := hc
  obtain ⟨ρ', o, h, ho, hlM, _⟩ := withOffs_ok h c0
  clear h0
  revert h
  generalize ρ' = ρ
  intro h
  obtain ⟨M, hMe⟩ : ∃ M, M = m ++ o := ⟨_, rfl⟩
  have hmM := hm.withO c0 ho
  obtain ⟨hadsP, hN⟩ := ads_offs (m := m) (o := o) (fun x hx => (ho x hx).1)
  rw [← hMe] at h hlM hmM hadsP hN
  split at h <;> try (first | contradiction | exact False.elim h)
  rename_i c3
  split at h <;> try (first | contradiction | exact False.elim h)
  rename_i ps qs rs hps hqs hrs
  obtain ⟨hpq, hrs'⟩ := (allOf_append _ _).1 (allLf_ok h)
  obtain ⟨hps', hqs'⟩ := (allOf_append _ _).1 hpq
  obtain ⟨hlen, hk⟩ := cksEq_ok hps hps'
  have hk' : ∀ k, k < out.length → rn ρ k < M.length ∧ CkEq m.length ρ (nth out k) (nth M (rn ρ k)) := fun k hkl => by
    obtain ⟨h1, qs, h2, h3⟩ := hk k hkl
    exact ⟨h1, ckEq_ok h2 h3⟩
  obtain ⟨hm', hads⟩ := hmM.sub hN c1 hk' (apartB_ok c3 hlen)
  exact ⟨hm', by rw [SV.va_congr hadsP _ c0', eqv_ok hN _ _ qs hqs hqs', SV.va_ren hads _ c2], placeEq_ok hrs hrs', c0'⟩

theorem length_deads : ∀ (l : List (Ck C)), (deads l).length = l.length
  | [] => rfl
  | ⟨_, _, _, _, _, _⟩ :: r => by simp [deads, length_deads r]
theorem MemOK.dead1 {S : Sx} {w0 w : World} {m : List (Ck C)} (h : MemOK S w0 w m) (hl : memLt m.length m = true) {x : Ck C} (hx : x.cells = .dead) (hS : x.wr = true → x.on = true → x.block < w0.heap.size → S.set x.block) (hb : x.on = true → x.block < w.heap.size) : MemOK S w0 w (m ++ [x]) := by
  have hm : ∀ y, y ∈ m ++ [x] → y ∈ m ∨ y = x := by intro y hy; simpa using hy
  have no : ∀ {p : Prop}, x.live = true → p := fun h => by simp [Ck.live, Ck.alive, hx] at h
  refine ⟨h.os, h.tape, h.output, h.size, h.keep, ?_, ?_, ?_, ?_, ?_, ?_⟩
  · intro y hy hw ho hb0
    rcases hm y hy with hy | rfl
    · exact h.inS y hy hw ho hb0
    · exact hS hw ho hb0
  · intro y hy ho
    rcases hm y hy with hy | rfl
    · exact Ck.ok_ads (ads_append m _) (memLt_mem hl hy) (h.ok y hy ho)
    · unfold Ck.ok; rw [hx]; trivial
  · intro y hy hw hlv a ha
    rcases hm y hy with hy | rfl
    · exact h.wrok y hy hw hlv a ha
    · exact no hlv
  · intro i j hi hj hij hiw hil hjl
    simp only [List.length_append, List.length_singleton] at hi hj
    rw [nth_append] at hiw hil ⊢
    rw [nth_append] at hjl ⊢
    by_cases h1 : i < m.length
    · by_cases h2 : j < m.length
      · rw [if_pos h1] at hiw hil ⊢
        rw [if_pos h2] at hjl ⊢
        exact h.apart i j h1 h2 hij hiw hil hjl
      · rw [if_neg h2, if_pos (by omega)] at hjl
        exact no hjl
    · rw [if_neg h1, if_pos (by omega)] at hil
      exact no hil
  · intro y hy ho
    rcases hm y hy with hy | rfl
    · exact h.lt y hy ho
    · exact hb ho
  · refine h.more.mono h.inS (fun _ _ _ => rfl) (fun y hy hyl => ?_) h.size (Nat.le_refl _) (fun y hy => ?_)
    · rcases hm y hy with hy | rfl
      · exact .inl ⟨y, hy, hyl, rfl, id⟩
      · exact no hyl
    · rcases hm y hy with hy | rfl
      · exact CsIn.self hy
      · rw [hx]; exact CsIn.other (fun _ _ e => by cases e) (fun _ _ _ _ e => by cases e)
theorem MemOK.withD {S : Sx} {w0 w : World} : ∀ {mem m : List (Ck C)}, MemOK S w0 w m → memLt m.length m = true → (∀ a ∈ mem, (a.wr = true → a.on = true → a.block < w0.heap.size → S.set a.block) ∧ (a.on = true → a.block < w.heap.size)) →
    MemOK S w0 w (m ++ deads mem) ∧ memLt (m ++ deads mem).length (m ++ deads mem) = true
  | [], m, h, hl, _ => by simpa [deads] using ⟨h, hl⟩
  | ⟨b, ba, sz, wr, g, cs⟩ :: r, m, h, hl, hS => by
    obtain ⟨h1, h2⟩ := hS _ (List.mem_cons_self ..)
    have hm := h.dead1 hl (x := ⟨b, ba, sz, wr, g, .dead⟩) rfl h1 h2
    have hl' : memLt (m ++ [(⟨b, ba, sz, wr, g, .dead⟩ : Ck C)]).length (m ++ [⟨b, ba, sz, wr, g, .dead⟩]) = true := memLt_app (memLt_mono (by simp) hl) (by simp [memLt, Ck.lt])
    have := MemOK.withD hm hl' (fun a ha => hS a (List.mem_cons_of_mem _ ha))
    simpa [deads] using this
theorem memLt_drop {n : Nat} : ∀ {a b : List (Ck C)}, memLt n (a ++ b) = true → memLt n a = true
  | [], _, _ => rfl
  | x :: a, b, h => by
    simp only [List.cons_append, memLt, Bool.and_eq_true] at h ⊢
    exact ⟨h.1, memLt_drop h.2⟩
theorem finP_ok {w w' : World} {mem m out : List (Ck C)} {r res : SV} (h : finP mem r m res out) (hm : MemOK (wrS mem) w w' m) (hmem : MemOK (wrS mem) w w mem) :
    MemOK (wrS mem) w w' out ∧ r.va (ads m) = res.va (ads out) ∧ Ext mem out := by
  unfold finP at h
  split at h
  · exact h.elim
  rename_i hc
  obtain ⟨hml, hrl⟩ := Bool.and_eq_true_iff.1 hc
  split at h
  · rw [fP_eq, unifMemK_eq, fNames_eq] at h
    obtain ⟨h1, h2, h3, _⟩ := finR_ok h hm
    exact ⟨h1, h2, h3⟩
  · rw [fM_eq, fP_eq, unifMemK_eq, fNames_eq] at h
    have hD := hm.withD (mem := mem) hml (fun a ha => ⟨fun hw ho _ => ⟨a, ha, hw, ho, rfl⟩, fun ho => Nat.lt_of_lt_of_le (hmem.lt a ha ho) hm.size⟩)
    obtain ⟨h1, h2, h3, _⟩ := finR_ok h hD.1
    refine ⟨h1, ?_, h3⟩
    rw [← h2]
    refine SV.va_congr (fun c hc => ?_) r hrl
    simp [ads, nth_app, hc]

theorem run_callFunc {P : Program} {f : FuncId} {fn : Func} {c : Code} (hf : P.funcs[f]? = some fn) (hb : fn.body = some c) (hname : (fn.name == "runtime.NumGoroutine") = false) (vals : Array Value) (w : World) :
    (callFunc f vals).run P w = .ok (.enter f vals) w := by
  have hname : ¬ fn.name = "runtime.NumGoroutine" := by simpa using hname
  simp [callFunc, hf, hname, hb]

/-- From the body to the contract. -/
theorem loc_fn {P : Program} (hmix : P.follows .mixedOrders = true) {E : Env P C} {L : List (Inv' C)} {f : FuncId} {fn : Func} {c : Code} {args : List SV} {mem : List (Ck C)} {alts : List (Alt C)}
    (hf : P.funcs[f]? = some fn) (hb : fn.body = some c) (hname : (fn.name == "runtime.NumGoroutine") = false) (hn : fn.ntmps = E.n) (hlen : Nat.ble args.length E.n = true) (hnc : noCnds args = true)
    (h : fexec E L fn c args mem fun r m => .lf (Ends alts fun A y => (finP mem r m (A.res y) (A.out y)).holds)) :
    LocG P (.fn f) mem args fun r m' => Ends alts fun A y => r = A.res y ∧ m' = A.out y := by
  intro w hm
  refine ⟨f, _, run_callFunc hf hb hname _ w, (fexec_ok hmix hf hb hn hlen hnc h w hm).mono ?_⟩
  rintro e w' ⟨r, m', rfl, hm', A, hA, y, hy, hfin⟩
  obtain ⟨hm'', hv, hx⟩ := finP_ok hfin hm' hm
  exact ⟨A.res y, A.out y, by rw [hv], hm'', hx, A, hA, y, hy, rfl, rfl⟩

theorem loc_pc {P : Program} (hmix : P.follows .mixedOrders = true) {E : Env P C} {L : List (Inv' C)} {f : FuncId} {fn : Func} {c : Code} {args : List SV} {mem : List (Ck C)} {res : SV}
    (hf : P.funcs[f]? = some fn) (hb : fn.body = some c) (hname : (fn.name == "runtime.NumGoroutine") = false) (hn : fn.ntmps = E.n) (hlen : Nat.ble args.length E.n = true) (hnc : noCnds args = true)
    (h : fexec E L fn c args mem fun r m => finP mem r m res mem) :
    LocG P (.fn f) mem args fun r m' => r = res ∧ m' = mem := by
  intro w hm
  refine ⟨f, _, run_callFunc hf hb hname _ w, (fexec_ok hmix hf hb hn hlen hnc h w hm).mono ?_⟩
  rintro e w' ⟨r, m', rfl, hm', hfin⟩
  obtain ⟨hm'', hv, hx⟩ := finP_ok hfin hm' hm
  exact ⟨res, mem, by rw [hv], hm'', hx, rfl, rfl⟩

/-- A method of an interface value. -/
theorem loc_inv {P : Program} {f : FuncId} {fn : Func} {c : Code} {t : Nat} {name : String} {mem : List (Ck C)} {v recv : SV} {args : List SV} {post : SV → List (Ck C) → Prop}
    (hf : P.funcs[f]? = some fn) (hb : fn.body = some c) (hname : (fn.name == "runtime.NumGoroutine") = false)
    (hmeth : ∀ w, MemOK (wrS mem) w w mem → (method (P.types.size + Made.depth) t (v.va (ads mem)) name).run P w = .ok (f, recv.va (ads mem)) w)
    (h : LocG P (.fn f) mem (recv :: args) post) : LocG P (.inv t name) mem (v :: args) post := by
  intro w hm
  obtain ⟨f', vals, hr, hc⟩ := h w hm
  rw [show tgSem (.fn f) (SV.vas (ads mem) (recv :: args)).toArray = callFunc f (SV.vas (ads mem) (recv :: args)).toArray from rfl, run_callFunc hf hb hname] at hr
  simp only [Result.ok.injEq, Next.enter.injEq, and_true] at hr
  obtain ⟨rfl, rfl⟩ := hr
  refine ⟨f, _, ?_, hc⟩
  have e1 : (SV.vas (ads mem) (v :: args)).toArray.getD 0 Go.undef = v.va (ads mem) := by simp [SV.vas]
  have e2 : (SV.vas (ads mem) (v :: args)).toArray.extract 1 (SV.vas (ads mem) (v :: args)).toArray.size = (SV.vas (ads mem) args).toArray := by
    apply Array.ext'; simp [SV.vas]
  simp only [tgSem, e1, e2, callMethod, Sem.run_bind, run_program, Result.andThen_ok, hmeth w hm]
  rw [run_callFunc hf hb hname]
  simp [SV.vas]

end Go.Vx
namespace Go.Vx
open Go
variable {C : Nat → Codec}

theorem method_ptr {P : Program} {t elem : TypeId} {i : TypeInfo} {name : String} {f : FuncId} {k : Nat} {mm} (hi : P.info? t = some i) (hm : i.methods.find? (·.name == name) = some mm) (hp : mm.path = #[]) (hf : mm.func = some (f, true))
    (hu : P.underlying t = some (.pointer elem)) (v : Value) (w : World) : (method (k + 1) t v name).run P w = .ok (f, v) w := by
  simp [method, typeInfo, hi, hm, hp, hf, follow, receiverAt, run_underlying hu, Place.get]

theorem wrapNil (ts : Array TypeId) (t : TypeId) (a : Addr) (x y : String) : Builtin.ssaWrapNilChk_ ts t #[.pointer (some a), strVal x, strVal y] = pure (.pointer (some a)) := rfl
theorem method_val {P : Program} {t elem : TypeId} {i : TypeInfo} {name : String} {f : FuncId} {k : Nat} {mm} (hi : P.info? t = some i) (hm : i.methods.find? (·.name == name) = some mm) (hp : mm.path = #[]) (hf : mm.func = some (f, false))
    (hu : P.underlying t = some (.pointer elem)) {a : Addr} {w : World} {r : Value} (hl : (loadVar elem a).run P w = .ok r w) : (method (k + 1) t (.pointer (some a)) name).run P w = .ok (f, r) w := by
  simp [method, typeInfo, hi, hm, hp, hf, follow, receiverAt, run_underlying hu, Place.get, wrapNil, asAddr, hl]

end Go.Vx
namespace Go.Vx
open Go Go.RowKit
variable {C : Nat → Codec}

/-- Where no variable of a package is known. -/
theorem More.bare {w : World} {mem : List (Ck C)} (h1 : ∀ g, (C g).gv = none) (h2 : ∀ g, (C g).gpins = []) (h3 : ∀ c ∈ mem, ∀ t x, c.cells.Has t x → (C t).good w x ∧ ∀ b ∈ (C t).blks x, Blk (wrS mem) w w mem ((C t).own && c.wr) b) : More (wrS mem) w w mem where
  deep := h3
  gv g v h := by rw [h1] at h; cases h
  gp g p h := by rw [h2] at h; cases h
  pin p h := by cases h
  nod := List.nodup_nil
/-- Chunks that are only read. -/
theorem memRo {w : World} {mem : List (Ck C)} (hnw : noWr mem = true) (hok : ∀ c ∈ mem, c.on = true → Ck.ok (ads mem) w c) (hlt : ∀ c ∈ mem, c.on = true → c.block < w.heap.size) (hmore : More (wrS mem) w w mem) : MemOK (wrS mem) w w mem where
  more := hmore
  os := rfl
  tape := ⟨rfl, Nat.le_refl _⟩
  output := rfl
  size := Nat.le_refl _
  keep _ _ _ := rfl
  inS c hc hw ho _ := ⟨c, hc, hw, ho, rfl⟩
  ok := hok
  wrok c hc hw := by rw [noWr_ok hnw c hc] at hw; cases hw
  apart i j hi _ _ hw := by rw [noWr_ok hnw _ (nth_mem hi)] at hw; cases hw
  lt := hlt

/-- A function that only tells something, called with chunks that are only read: it turns nothing that was there. -/
theorem Tells.calls {P : Program} {f : FuncId} {fn : Func} {c : Code} (hf : P.funcs[f]? = some fn) (hb : fn.body = some c) (hname : (fn.name == "runtime.NumGoroutine") = false) {mem : List (Ck C)} {args : List SV} {res : SV}
    (h : Tells P (.fn f) mem args res) (hnw : noWr mem = true) {w : World} (hm : MemOK (wrS mem) w w mem) :
    Calls P f (SV.vas (ads mem) args).toArray w fun e w' => e = .returned (res.va (ads mem)) ∧ Below w.heap.size w w' := by
  obtain ⟨f', vals, hr, hc⟩ := h w hm
  rw [show tgSem (.fn f) (SV.vas (ads mem) args).toArray = callFunc f (SV.vas (ads mem) args).toArray from rfl, run_callFunc hf hb hname] at hr
  simp only [Result.ok.injEq, Next.enter.injEq, and_true] at hr
  obtain ⟨rfl, rfl⟩ := hr
  refine hc.mono ?_
  rintro e w' ⟨r, m', rfl, hm', _, rfl, rfl⟩
  refine ⟨rfl, hm'.os, hm'.tape.1, hm'.output, hm'.size, fun k hk => hm'.keep k hk ?_⟩
  rintro ⟨c, hc, hw, _⟩
  rw [noWr_ok hnw c hc] at hw; cases hw

/-- What is known of an address of a slice that came in. -/
theorem okWide_at {P : Program} {w : World} {r : Reach} {base : Nat} {t e : TypeId} {a : Addr} {len cap : Nat} (ht : P.underlying t = some (.slice e)) (h : Value.okWide P w r base t (.slice (some a) len cap)) : a.spot = none ∧ a.block < w.heap.size := by
  simp only [Value.okWide, ht, Cell.okWide, Cell.ok, World.has] at h
  obtain ⟨_, _, _, h1, row, cells, h2, _⟩ := h
  refine ⟨h1, ?_⟩
  unfold World.shape? at h2
  cases hb : w.heap[a.block]? with
  | none => simp [hb] at h2
  | some o => exact (Array.getElem?_eq_some_iff.1 hb).1

/-- Integers in a row. -/
theorem intRow_ok {ad : Nat → Ad} {w : World} {t : Nat} {k : IntKind} {x : Addr} {l : List Int} {wr : Bool} {gl : Option Bool} (hx : x.spot = none) (hc : ∀ i, i < l.length → w.cell? (x.add i) = some (.int k (l.getD i 0)))
    (C : Nat → Codec) (hsz : (C t).sz = 1) (rows : List (C t).α) (hlen : rows.length = l.length) (henc : ∀ i, i < l.length → ((C t).enc (rows.getD i (C t).dflt)).getD 0 .junk = .int k (l.getD i 0)) :
    Ck.ok ad w (⟨x.block, x.off, 1, wr, gl, .rows t rows⟩ : Ck C) := by
  unfold Ck.ok
  refine ⟨hsz.symm, fun i hi f hf => ?_⟩
  have hf : f = 0 := by omega
  subst hf
  rw [henc i (by omega)]
  have e : (⟨x.block, x.off + (i * 1 + 0), none⟩ : Addr) = x.add i := by
    unfold Addr.add
    split
    · rename_i h; subst h
      obtain ⟨b, o, s⟩ := x
      simp only at hx; subst hx; rfl
    · simp
  show w.cell? ⟨x.block, x.off + (i * 1 + 0), none⟩ = _
  rw [e, hc i (by omega)]
  rfl

end Go.Vx
namespace Go.Vx
open Go Go.RowKit Go.ChangeShapes

/-- A list of sentinels, with the numbers of their variables. -/
def SentL (P : Program) (nm : String) (ti : TypeId) : List (String × DataW Unit) → List Nat → Prop
  | [], [] => True
  | x :: r, g :: s => (∃ text, x.2 = .iface nm (.ptr (.agg [.lit (.string text)]))) ∧ P.globalNamed x.1 = some g ∧ (P.globals[g]?).map (·.type) = some ti ∧ SentL P nm ti r s
  | _, _ => False
/-- Where they lie: no two at one place, each in a row of its own that nobody writes. -/
def SentAt (W : World) (tp : TypeId) : List Nat → List Addr → Prop
  | [], [] => True
  | g :: s, a :: t => W.cell? ⟨g, 0, none⟩ = some (.iface tp (.pointer (some a))) ∧ (∃ c ty, W.heap[a.block]? = some (.cells c ty (0, 0))) ∧ a ∉ t ∧ SentAt W tp s t
  | _, _ => False

theorem laid_all {P : Program} {W : World} {nm : String} {ti tp te ts : TypeId} {ms : Array (String × TypeId)} {f : Field}
    (hi : P.underlying ti = some (.interface ms)) (hrow : ∀ u, P.typeName? 3 u = some nm → u = tp) (hp : P.underlying tp = some (.pointer te)) (he : P.underlying te = some (.struct #[f]))
    (hft : f.type = ts) (hfo : f.offset = 0) (hs : P.underlying ts = some .string) (hc : P.cellsOf te = 1) (hcs : P.cellsOf ts = 1) :
    ∀ (L : List (String × DataW Unit)) (G : List Nat) (ps : List MemPlace), SentL P nm ti L G → DataW.LaidVars P W L ps → ps.Nodup →
      (∀ b off, MemPlace.cell b off ∈ ps → (∃ c t, W.heap[b]? = some (.cells c t (0, 0))) ∧ ∀ u v, W.cell? ⟨b, off, none⟩ = some (.iface u v) → Value.okWide P W .any 0 u v) →
      ∃ az, SentAt W tp G az ∧ ∀ a ∈ az, MemPlace.cell a.block a.off ∈ ps
  | [], [], ps, _, _, _, _ => ⟨[], trivial, fun a h => by cases h⟩
  | [], _ :: _, _, h, _, _, _ => h.elim
  | _ :: _, [], _, h, _, _, _ => h.elim
  | (n, d) :: r, g :: s, ps, hL, hv, hnd, hrows => by
    obtain ⟨⟨text, rfl⟩, hg, ht, hL⟩ := hL
    obtain ⟨g', t', cs, fu, p, q, hg', ht', hv0, hd, hq, rfl⟩ := hv
    obtain rfl := Option.some.inj (hg.symm.trans hg')
    obtain rfl := Option.some.inj (ht.symm.trans ht')
    obtain ⟨l⟩ := cs
    have ok0 : ∀ u v, l = [.iface u v] → Value.okWide P W .any 0 u v := fun u v e => by
      subst e
      exact (hrows g 0 (by simp [MemPlace.row])).2 u v (by simpa using World.var?_cell hg' hv0 0)
    obtain ⟨a, str, rfl, hca, hsa, hza, rfl⟩ := errorString_of_trod hi hrow hp he hft hfo hs hc hcs hd ok0
    have hsub : q.Sublist (MemPlace.row ⟨g, 0, none⟩ (#[Value.iface tp (.pointer (some a))]).size ++ MemPlace.row a 1 ++ q) := List.sublist_append_right _ _
    obtain ⟨az, h1, h2⟩ := laid_all hi hrow hp he hft hfo hs hc hcs r s q hL hq (hnd.sublist hsub) (fun b off hm => hrows b off (hsub.subset hm))
    refine ⟨a :: az, ⟨by simpa using World.var?_cell hg' hv0 0, (hrows a.block a.off (by simp [MemPlace.row])).1, fun hm => ?_, h1⟩, fun x hx => ?_⟩
    · have := h2 a hm
      have hd2 := (List.nodup_append.1 hnd).2.2 (.cell a.block a.off) (by simp [MemPlace.row]) _ this
      exact hd2 rfl
    · rcases List.mem_cons.1 hx with rfl | hx
      · simp [MemPlace.row]
      · exact hsub.subset (h2 x hx)

theorem SentAt.get {W : World} {tp : TypeId} : ∀ {G : List Nat} {az : List Addr}, SentAt W tp G az → ∀ i, i < G.length →
    W.cell? ⟨G.getD i 0, 0, none⟩ = some (.iface tp (.pointer (some (az.getD i default)))) ∧ ∃ c ty, W.heap[(az.getD i default).block]? = some (.cells c ty (0, 0))
  | [], _, _, i, h => by simp at h
  | g :: s, [], h, _, _ => h.elim
  | g :: s, a :: t, h, 0, _ => ⟨h.1, h.2.1⟩
  | g :: s, a :: t, h, i + 1, hi => by simpa using SentAt.get h.2.2.2 i (by simpa using hi)
theorem SentAt.apart {W : World} {tp : TypeId} : ∀ {G : List Nat} {az : List Addr}, SentAt W tp G az → az.length = G.length ∧ az.Nodup
  | [], [], _ => ⟨rfl, List.nodup_nil⟩
  | [], _ :: _, h => h.elim
  | _ :: _, [], h => h.elim
  | g :: s, a :: t, h => by
    obtain ⟨h1, h2⟩ := SentAt.apart h.2.2.2
    exact ⟨by simp [h1], List.nodup_cons.2 ⟨h.2.2.1, h2⟩⟩
theorem SentAt.one {W : World} {tp : TypeId} {G : List Nat} {az : List Addr} (h : SentAt W tp G az) {i j : Nat} (hi : i < G.length) (hj : j < G.length) (he : az.getD i default = az.getD j default) : i = j := by
  obtain ⟨h1, h2⟩ := h.apart
  have hi' : i < az.length := by omega
  have hj' : j < az.length := by omega
  rw [List.getD_eq_getElem?_getD, List.getD_eq_getElem?_getD, List.getElem?_eq_getElem hi', List.getElem?_eq_getElem hj'] at he
  exact (List.getElem_inj h2).1 he
end Go.Vx
namespace Go.Vx
open Go Go.ChangeShapes Go.WideShapes Go.Deep Go.RowKit
variable {C : Nat → Codec}
/-- A thing's cell. -/
def cellV (c : Codec) (b : c.α) (f : Nat) : Value := (((c.enc b).getD f .junk)).va noAd
/-- What the walk is told of a slice that came in. -/
def IsRows (c : Codec) (w : World) (a : Option Addr) (len cap : Nat) (zs : List c.α) : Prop :=
  (a = none ∧ len = 0 ∧ cap = 0 ∧ zs = []) ∨
  ∃ x, a = some x ∧ x.spot = none ∧ x.block < w.heap.size ∧ len ≤ cap ∧ zs.length = cap ∧ ∀ i, i < cap → ∀ f, f < c.sz → w.cell? (x.add (i * c.sz + f)) = some (cellV c (zs.getD i c.dflt) f)
theorem rows_ok {ad : Nat → Ad} {w : World} {x : Addr} {t : Nat} {l : List (C t).α} {wr : Bool} {gl : Option Bool} (hx : x.spot = none) (hc : ∀ i, i < l.length → ∀ f, f < (C t).sz → w.cell? (x.add (i * (C t).sz + f)) = some (cellV (C t) (l.getD i (C t).dflt) f)) :
    Ck.ok ad w (⟨x.block, x.off, (C t).sz, wr, gl, .rows t l⟩ : Ck C) := by
  unfold Ck.ok
  refine ⟨rfl, fun i hi f hf => ?_⟩
  have e : (⟨x.block, x.off + (i * (C t).sz + f), none⟩ : Addr) = x.add (i * (C t).sz + f) := by
    unfold Addr.add
    split
    · rename_i h; rw [h]
      obtain ⟨b, o, s⟩ := x
      simp only at hx; subst hx; rfl
    · simp
  show w.cell? ⟨x.block, x.off + (i * (C t).sz + f), none⟩ = _
  rw [e, hc i hi f hf]
  have hl := (C t).len (l.getD i (C t).dflt)
  have e2 := congrArg (fun L => L[f]?) ((C t).flat (l.getD i (C t).dflt) noAd ad)
  simp only [List.getElem?_map, List.getElem?_eq_getElem (show f < ((C t).enc (l.getD i (C t).dflt)).length by omega), Option.map_some, Option.some.injEq] at e2
  unfold cellV
  rw [List.getD_eq_getElem?_getD (l := (C t).enc (l.getD i (C t).dflt)), List.getElem?_eq_getElem (show f < ((C t).enc (l.getD i (C t).dflt)).length by omega)]
  exact congrArg some e2
theorem one_at {cs : List Value} {i : Nat} {v : Value} (h : (cs.drop i).take 1 = [v]) : cs[i]? = some v := by
  cases hd : cs.drop i with
  | nil => rw [hd] at h; simp at h
  | cons y r =>
    rw [hd] at h
    simp at h
    have := List.getElem?_drop (xs := cs) (i := i) (j := 0)
    rw [hd] at this
    simpa [h] using this.symm
/-- A part's part. -/
theorem part_at {cs : List Value} {i n j : Nat} {v : Value} (h : ((cs.drop i).take n)[j]? = some v) : cs[i + j]? = some v := by
  rw [List.getElem?_take] at h
  split at h
  · rw [List.getElem?_drop] at h; exact h
  · cases h
theorem rows_open {P : Program} {H : Type} {enc : TypeId × Value → H} {W : World} {base b0 : Nat} {r : Reach} {a : Option Addr} {len cap : Nat} {d : DataW H} {p : List MemPlace} {ts te : TypeId} (c : Codec) (hu : P.underlying ts = some (.slice te)) (hsz : P.cellsOf te = c.sz)
    (hop : ∀ (fuel : Nat) (cs : List Value) (y : DataW H × List MemPlace), DataW.trod enc P W base (fun _ => true) true fuel te cs = some y → ∃ b : c.α, ∀ f, f < c.sz → cs[f]? = some (cellV c b f))
    (hv : Value.okWide P W r b0 ts (.slice a len cap)) (h : DataW.Trod enc P W base (fun _ => true) true ts (.slice a len cap) d p) : ∃ zs, IsRows c W a len cap zs := by
  obtain ⟨fuel, hf⟩ := h
  rcases open_slice hu hf with ⟨hcs, _⟩ | ⟨x, l, c', m, n, D, Pl, hcs, _, hl, hm, hmc, _, hall⟩
  · simp [Value.cells] at hcs
    obtain ⟨rfl, rfl, rfl⟩ := hcs
    exact ⟨[], .inl ⟨rfl, rfl, rfl, rfl⟩⟩
  · simp [Value.cells] at hcs
    obtain ⟨rfl, rfl, rfl⟩ := hcs
    simp at hmc
    subst hmc
    obtain ⟨hs, hb⟩ := okWide_at hu hv
    have hex : ∀ i, i < m → ∃ b : c.α, ∀ f, f < c.sz → W.cell? (x.add (i * c.sz + f)) = some (cellV c b f) := fun i hi => by
      obtain ⟨cs', h1, h2⟩ := hall i hi
      rw [hsz] at h1
      obtain ⟨b, hb⟩ := hop _ _ _ h2
      obtain ⟨_, _, h3⟩ := World.cells?_some h1
      exact ⟨b, fun f hf => by rw [← add_add, h3 f hf, hb f hf]⟩
    haveI : Inhabited c.α := ⟨c.dflt⟩
    obtain ⟨g, hg⟩ := choose_lt hex
    refine ⟨(List.range m).map g, .inr ⟨x, rfl, hs, hb, hl, by simp, fun i hi f hf => ?_⟩⟩
    rw [hg i hi f hf]
    congr 2
    simp [List.getD_eq_getElem?_getD, hi]
end Go.Vx
namespace Go.Vx
open Go Go.ChangeShapes Go.WideShapes Go.Deep Go.RowKit
variable {C : Nat → Codec}

/-- Each cell of a block of the input is well. -/
def Blocks (P : Program) (W : World) (base : Nat) : Prop := ∀ (k : Nat) (o : Obj), base ≤ k → W.heap[k]? = some o → ∃ cs t, o = .cells cs t ∧ Row.ok P W .any base t cs
theorem okWide_addr {P : Program} {w : World} {r : Reach} {base : Nat} {u : TypeId} {a : Addr} {len cap : Nat} (h : Cell.okWide P w r base u (.slice (some a) len cap)) : a.spot = none ∧ a.block < w.heap.size := by
  have h : Cell.ok P w r base u (.slice (some a) len cap) := by
    unfold Cell.okWide at h
    split at h <;> first | exact h | (rename_i h1; cases h1) | (rename_i _ h1; cases h1)
  unfold Cell.ok at h
  split at h <;> try contradiction
  all_goals rename_i h2
  · simp at h2
  simp only [Value.slice.injEq] at h2
  obtain ⟨h2, rfl, rfl⟩ := h2
  obtain rfl := Option.some.inj h2
  obtain ⟨_, _, _, h1, row, cells, h2, _⟩ := h
  refine ⟨h1, ?_⟩
  unfold World.shape? at h2
  cases hb : w.heap[a.block]? with
  | none => simp [hb] at h2
  | some o => exact (Array.getElem?_eq_some_iff.1 hb).1
theorem Blocks.at {P : Program} {W : World} {base : Nat} (h : Blocks P W base) {x a : Addr} {len cap : Nat} (hb : base ≤ x.block) (hc : W.cell? x = some (.slice (some a) len cap)) : a.spot = none ∧ a.block < W.heap.size := by
  unfold World.cell? at hc
  split at hc <;> try contradiction
  rename_i c ty fz ho
  obtain ⟨cs, t, he, ts, _, _, hall⟩ := h x.block _ hb ho
  cases he
  split at hc <;> try contradiction
  obtain ⟨u, _, hu⟩ := hall _ _ hc
  refine okWide_addr (P := P) (w := W) (r := .any) (base := base) (u := u) (len := len) (cap := cap) ?_
  unfold Cell.okWide
  split <;> first | exact hu | trivial | (rename_i h1; cases h1) | (rename_i _ h1; cases h1)
theorem arg_at {P : Program} {W : World} {r : Reach} {base : Nat} {t : TypeId} {fs : Array Field} {cs : Array Value} (ht : P.underlying t = some (.struct fs)) (h : Value.okWide P W r base t (.agg cs)) {i : Nat} {a : Addr} {len cap : Nat}
    (hc : cs[i]? = some (.slice (some a) len cap)) : a.spot = none ∧ a.block < W.heap.size := by
  unfold Value.okWide at h
  rw [ht] at h
  obtain ⟨cs', he, _, ts, _, _, hall⟩ := h
  cases he
  obtain ⟨u, _, hu⟩ := hall _ _ hc
  exact okWide_addr hu

/-- As the kit's frame; it also tells what the input's blocks hold. -/
theorem handed_blocks {H : Type} {enc : TypeId × Value → H} {a : Assume} {C : Checked} {os : Os} {f : FuncId} {fn : Func} {s : ChangeSpec} {conds : List PathCond} {apart fresh handsOn again : Bool} {X : World → Array Value → Prop}
    (hX : ∀ (w w' : World) (args : Array Value), w.heap = w'.heap → X w args → X w' args)
    (own : ownKnob C.prog.godebug = none) (started : os.Started) (noInit : C.prog.inits.idxOf? f = none) (hfn : C.prog.funcs[f]? = some fn)
    (witness : ∃ (w : World) (tape : Tape) (i : Input), w.os = os ∧ (w.forCall tape i).Shaped C.prog ∧ i.vars = [] ∧ Input.okWide C.prog (w.forCall tape i) .any w.heap.size f i ∧
      ((s.pre enc C.prog fn conds apart (w.forCall tape i).memory i.args ∧ X (w.forCall tape i).memory i.args) ∧ sizedMet enc C.prog fn (OpenSpec.ofChange s) apart (w.forCall tape i).memory i.args) ∧ a.holds C.prog (lone (Frame.enter C.prog f i.args .normal) [] (w.forCall tape i)))
    (contract : ∀ (W : World) (base : Nat) (args : Array Value) (ds gs : List (DataW H)) (before : List MemPlace),
      (∀ (j : Nat) t v, fn.params[j]? = some t → args[j]? = some v → Value.okWide C.prog W .any base t v) →
      DataW.Whole enc C.prog fn.params.toList s.vars apart W args.toList ds gs before →
      Blocks C.prog W base → X W args →
      Calls C.prog f args W fun e W' => ∃ v, e = .returned v ∧ s.post enc C.prog fn apart fresh handsOn again W args v W') :
    ReturnsInHanded a C os f .any (fun w args => (s.pre enc C.prog fn conds apart w args ∧ X w args) ∧ sizedMet enc C.prog fn (OpenSpec.ofChange s) apart w args) (s.post enc C.prog fn apart fresh handsOn again) := by
  refine returnsInHanded_of_calls own started noInit witness ?_
  intro w tape i _ _ hv hok hpre hholds
  obtain ⟨hblk, _, _, fn', hfn', _, _, _, _, hval⟩ := hok
  have e : fn' = fn := Option.some.inj (hfn'.symm.trans hfn)
  subst e
  obtain ⟨⟨⟨ds, gs, before, hw, hc⟩, hx⟩, hz⟩ := hpre
  have hw' := DataW.Whole.of_heap (w' := w.forCall tape i) (by rfl) hw
  have hB : Blocks C.prog (w.forCall tape i) w.heap.size := by
    intro k o hk ho
    have he : (w.forCall tape i).heap = w.heap ++ i.blocks := Input.heap_fresh hv w.heap
    rw [he, Array.getElem?_append_right hk] at ho
    obtain ⟨cs, t, h1, _, h2⟩ := hblk o (Array.mem_of_getElem? ho)
    exact ⟨cs, t, h1, h2⟩
  refine (contract (w.forCall tape i) w.heap.size i.args ds gs before hval hw' hB (hX _ _ _ (by rfl) hx)).mono fun e W' ⟨v, he, hp⟩ => ?_
  subst he
  exact ChangeSpec.post_blind hp

/-- A slice of things that have no slices of their own. -/
theorem rows_open2 {P : Program} {H : Type} {enc : TypeId × Value → H} {W : World} {base : Nat} {a : Option Addr} {len cap : Nat} {fuel : Nat} {y : DataW H × List MemPlace} {ts te : TypeId} (c : Codec) (hu : P.underlying ts = some (.slice te)) (hsz : P.cellsOf te = c.sz)
    (hop : ∀ (fuel : Nat) (cs : List Value) (y : DataW H × List MemPlace), DataW.trod enc P W base (fun _ => true) true fuel te cs = some y → ∃ b : c.α, ∀ f, f < c.sz → cs[f]? = some (cellV c b f))
    (hv : ∀ x, a = some x → x.spot = none ∧ x.block < W.heap.size) (hf : DataW.trod enc P W base (fun _ => true) true fuel ts [.slice a len cap] = some y) : ∃ zs, IsRows c W a len cap zs := by
  rcases open_slice hu hf with ⟨hcs, _⟩ | ⟨x, l, c', m, n, D, Pl, hcs, _, hl, hm, hmc, _, hall⟩
  · simp at hcs
    obtain ⟨rfl, rfl, rfl⟩ := hcs
    exact ⟨[], .inl ⟨rfl, rfl, rfl, rfl⟩⟩
  · simp at hcs
    obtain ⟨rfl, rfl, rfl⟩ := hcs
    simp at hmc
    subst hmc
    obtain ⟨hs, hb⟩ := hv _ rfl
    have hex : ∀ i, i < m → ∃ b : c.α, ∀ f, f < c.sz → W.cell? (x.add (i * c.sz + f)) = some (cellV c b f) := fun i hi => by
      obtain ⟨cs', h1, h2⟩ := hall i hi
      rw [hsz] at h1
      obtain ⟨b, hb⟩ := hop _ _ _ h2
      obtain ⟨_, _, h3⟩ := World.cells?_some h1
      exact ⟨b, fun f hf => by rw [← add_add, h3 f hf, hb f hf]⟩
    haveI : Inhabited c.α := ⟨c.dflt⟩
    obtain ⟨g, hg⟩ := choose_lt hex
    refine ⟨(List.range m).map g, .inr ⟨x, rfl, hs, hb, hl, by simp, fun i hi f hf => ?_⟩⟩
    rw [hg i hi f hf]
    congr 2
    simp [List.getD_eq_getElem?_getD, hi]
/-- What is known of a row that is a slice of numbers. -/
structure RwIn (c : Codec) (W : World) (r : Rw c.α) : Prop where
  good : Rw.ok c W r
  lt : ∀ b ∈ r.blks, b < W.heap.size
  nil : r.on = false → r.l.length = 0 ∧ r.m = 0
  cap : r.l.length ≤ r.m
abbrev cNum (k : IntKind) : Codec where
  α := Int
  dflt := 0
  sz := 1
  enc n := [.int k n]
  upd _ f v := match f, v with
    | 0, .int k' n => if sameKind k k' then some n else none
    | _, _ => none
  len _ := rfl
  cell _ v h := by simp at h; subst h; rfl
  flat _ _ _ := rfl
  upd_ok ad x f v y h := by
    split at h <;> try contradiction
    split at h <;> try contradiction
    rename_i hk
    simp at h; subst h
    simp [SV.va, sameKind_eq hk]
  beq a b := decide (a = b)
/-- A slice az it lies, whatever it points to. -/
abbrev Raw := Option Addr × Nat × Nat
abbrev cRaw : Codec where
  α := Raw
  dflt := (none, 0, 0)
  sz := 1
  enc x := [.val (.slice x.1 x.2.1 x.2.2)]
  upd _ _ _ := none
  len _ := rfl
  cell _ v h := by simp at h; subst h; rfl
  flat _ _ _ := rfl
  upd_ok _ _ _ _ _ h := by cases h
/-- What is known of the rows ahead of k, of a slice that came in. -/
def IsPart (c : Codec) (w : World) (a : Option Addr) (len cap : Nat) (zs : List c.α) : Prop :=
  (a = none ∧ len = 0 ∧ cap = 0 ∧ zs = []) ∨
  ∃ x, a = some x ∧ x.spot = none ∧ x.block < w.heap.size ∧ len ≤ cap ∧ len ≤ zs.length ∧ ∀ i, i < zs.length → ∀ f, f < c.sz → w.cell? (x.add (i * c.sz + f)) = some (cellV c (zs.getD i c.dflt) f)
theorem IsRows.part {c : Codec} {w : World} {a : Option Addr} {len cap : Nat} {zs : List c.α} (h : IsRows c w a len cap zs) : IsPart c w a len cap zs := by
  rcases h with h | ⟨x, h1, h2, h3, h4, h5, h6⟩
  · exact .inl h
  · exact .inr ⟨x, h1, h2, h3, h4, by omega, fun i hi => h6 i (by omega)⟩
theorem IsRows.cap {c : Codec} {w : World} {a : Option Addr} {len cap : Nat} {zs : List c.α} (h : IsRows c w a len cap zs) : cap ≤ zs.length := by
  rcases h with ⟨_, _, rfl, _⟩ | ⟨x, h1, h2, h3, h4, h5, h6⟩
  · exact Nat.zero_le _
  · omega
/-- A slice of slices of numbers: the rows that are seen, az they lie; where none is empty, what they hold. -/
theorem rws_open {P : Program} {H : Type} {enc : TypeId × Value → H} {W : World} {b0 base : Nat} {a : Option Addr} {len cap : Nat} {fuel : Nat} {y : DataW H × List MemPlace} {ts te tq : TypeId} {k : IntKind}
    (ht : P.underlying ts = some (.slice te)) (he : P.underlying te = some (.slice tq)) (hq : P.underlying tq = some (.int k)) (ce : P.cellsOf te = 1) (cq : P.cellsOf tq = 1)
    (hv : ∀ x, a = some x → x.spot = none ∧ x.block < W.heap.size) (hf : DataW.trod enc P W base (fun _ => true) true fuel ts [.slice a len cap] = some y) :
    ∃ R : List Raw, R.length = len ∧ IsPart cRaw W a len cap R ∧ ((∀ r ∈ R, 0 < r.2.1) → ∃ zs : List (Rw Int), zs.length = len ∧ (∀ i, i < len → (zs.getD i Rw.nil).l.length = (R.getD i (none, 0, 0)).2.1) ∧ IsPart (rwCodec (cNum k)) W a len cap zs ∧ ∀ r ∈ zs, RwIn (cNum k) W r ∧ ∀ n ∈ r.l, (Lit.int k n).wf = true) := by
  rcases open_int_rows ht he hq ce cq hf with ⟨hcs, _⟩ | ⟨x, l, c', A, L, Cp, Z, hcs, hb, hl, hm, _, hall⟩
  · simp at hcs
    obtain ⟨rfl, rfl, rfl⟩ := hcs
    exact ⟨[], rfl, .inl ⟨rfl, rfl, rfl, rfl⟩, fun _ => ⟨[], rfl, fun i hi => by omega, .inl ⟨rfl, rfl, rfl, rfl⟩, fun r hr => by cases hr⟩⟩
  · simp at hcs
    obtain ⟨rfl, rfl, rfl⟩ := hcs
    obtain ⟨hs, hlt⟩ := hv _ rfl
    refine ⟨(List.range len).map fun r => (A r, L r, Cp r), by simp, .inr ⟨x, rfl, hs, hlt, hl, by simp, fun i hi f hf => ?_⟩, fun hpos => ?_⟩
    · obtain rfl : f = 0 := by
        have : f < 1 := hf
        omega
      have hi : i < len := by simpa using hi
      rw [show i * 1 + 0 = i by omega, (hall i (by omega)).1]
      unfold cellV
      simp [List.getD_eq_getElem?_getD, hi, SV.va]
    let g : Nat → Rw Int := fun r => match A r with
      | none => Rw.nil
      | some a' => ⟨true, a'.block, a'.off, Cp r, (Z r).take (L r)⟩
    have hg : ∀ r, r < len → (g r).l.length = L r ∧ (W.cell? (x.add r) = some (g r).val) ∧ RwIn (cNum k) W (g r) ∧ ∀ n ∈ (g r).l, (Lit.int k n).wf = true := by
      intro r hr
      have hL : 0 < L r := hpos (A r, L r, Cp r) (List.mem_map.2 ⟨r, List.mem_range.2 hr, rfl⟩)
      obtain ⟨k1, k2, k3, k4, k5, k6, k7⟩ := hall r (by omega)
      cases hA : A r with
      | none =>
        have hC := k6 hA
        omega
      | some a' =>
        have e : g r = ⟨true, a'.block, a'.off, Cp r, (Z r).take (L r)⟩ := by simp [g, hA]
        rw [hA] at k1
        have h0 := (k7 a' hA).2 0 (by omega)
        have hsp : a'.spot = none ∧ a'.block < W.heap.size := by
          simp only [Addr.add, if_true] at h0
          unfold World.cell? at h0
          split at h0 <;> try contradiction
          rename_i ho
          split at h0 <;> try contradiction
          rename_i hs'
          exact ⟨by simpa using hs', (Array.getElem?_eq_some_iff.1 ho).1⟩
        obtain ⟨hsp, hlt'⟩ := hsp
        have hlen : ((Z r).take (L r)).length = L r := by rw [List.length_take, k4]; omega
        have haddr : (⟨a'.block, a'.off, none⟩ : Addr) = a' := by
          obtain ⟨b, o, s⟩ := a'
          simp only at hsp; subst hsp; rfl
        rw [e]
        refine ⟨hlen, by rw [k1]; simp [Rw.val, hlen, haddr], ⟨?_, ?_, (fun h => by cases h), by rw [hlen]; exact k2⟩, fun n hn => k5 n (List.mem_of_mem_take hn)⟩
        · unfold Rw.ok
          simp only
          intro i hi f hf
          rw [hlen] at hi
          obtain rfl : f = 0 := by omega
          have := (k7 a' hA).2 i (by omega)
          have e2 : (⟨a'.block, a'.off + (i * 1 + 0), none⟩ : Addr) = a'.add i := by
            unfold Addr.add
            split
            · rename_i h; rw [h]; exact haddr
            · rw [Nat.mul_one, Nat.add_zero]
          rw [e2, this]
          show _ = some (Value.int k (((Z r).take (L r)).getD i 0))
          rw [List.getD_eq_getElem?_getD (l := (Z r).take (L r)), List.getElem?_take_of_lt hi, ← List.getD_eq_getElem?_getD]
        · intro b hb'
          simp [Rw.blks] at hb'
          rw [hb']; exact hlt'
    refine ⟨(List.range len).map g, by simp, fun i hi => ?_, .inr ⟨x, rfl, hs, hlt, hl, by simp, fun i hi f hf => ?_⟩, fun r hr => ?_⟩
    · simp only [List.getD_eq_getElem?_getD, List.getElem?_map, List.getElem?_range hi, Option.map_some, Option.getD_some]
      exact (hg i hi).1
    · obtain rfl : f = 0 := by
        have : f < 1 := hf
        omega
      have hi : i < len := by simpa using hi
      have := (hg i hi).2.1
      rw [show i * 1 + 0 = i by omega, this]
      unfold cellV
      simp [List.getD_eq_getElem?_getD, hi, Rw.sv_va]
    · obtain ⟨i, hi, rfl⟩ := List.mem_map.1 hr
      exact (hg i (List.mem_range.1 hi)).2.2
/-- Chunks that are only read: their rows' own slices. -/
theorem deep_ro {W : World} {mem : List (Ck C)} (hnw : noWr mem = true) (h : ∀ c ∈ mem, ∀ t x, c.cells.Has t x → (C t).good W x ∧ ∀ b ∈ (C t).blks x, b < W.heap.size) :
    ∀ c ∈ mem, ∀ t x, c.cells.Has t x → (C t).good W x ∧ ∀ b ∈ (C t).blks x, Blk (wrS mem) W W mem ((C t).own && c.wr) b := by
  intro c hc t x hx
  obtain ⟨h1, h2⟩ := h c hc t x hx
  refine ⟨h1, fun b hb => ⟨h2 b hb, fun _ => .inr ⟨by rw [noWr_ok hnw c hc, Bool.and_false], c, hc, t, x, hx, hb⟩, fun c' hc' hw => ?_, fun p hp => by cases hp⟩⟩
  rw [noWr_ok hnw c' hc'] at hw; cases hw
def inB (a : Option Addr) : Nat := match a with
  | none => 0
  | some x => x.block
def inQ (a : Option Addr) : Nat := match a with
  | none => 0
  | some x => x.off
/-- The chunk of a slice that came in. -/
abbrev inCk (t : Nat) (a : Option Addr) (l : List (C t).α) : Ck C := ⟨inB a, inQ a, (C t).sz, false, some a.isSome, .rows t l⟩
theorem IsPart.ok {W : World} {t : Nat} {a : Option Addr} {n c : Nat} {l : List (C t).α} (h : IsPart (C t) W a n c l) (ad : Nat → Ad) (ho : (inCk t a l : Ck C).on = true) : Ck.ok ad W (inCk t a l : Ck C) := by
  rcases h with ⟨rfl, _⟩ | ⟨x, rfl, hx, hb, hl, hz, hc⟩
  · cases ho
  · exact rows_ok hx hc
theorem IsPart.lt {W : World} {t : Nat} {a : Option Addr} {n c : Nat} {l : List (C t).α} (h : IsPart (C t) W a n c l) (ho : (inCk t a l : Ck C).on = true) : (inCk t a l : Ck C).block < W.heap.size := by
  rcases h with ⟨rfl, _⟩ | ⟨x, rfl, hx, hb, hl, hz, hc⟩
  · cases ho
  · exact hb
theorem IsPart.sq {c' : Codec} {W : World} {a : Option Addr} {n c : Nat} {l : List c'.α} (h : IsPart c' W a n c l) : n ≤ c ∧ n ≤ l.length ∧ (a.isSome = false → n = 0 ∧ c = 0) := by
  rcases h with ⟨rfl, rfl, rfl, rfl⟩ | ⟨x, rfl, hx, hb, hl, hz, hc⟩
  · exact ⟨Nat.le_refl _, Nat.le_refl _, fun _ => ⟨rfl, rfl⟩⟩
  · exact ⟨hl, hz, fun h => by cases h⟩
theorem IsPart.va {W : World} {t : Nat} {a : Option Addr} {n c : Nat} {l : List (C t).α} (h : IsPart (C t) W a n c l) {ad : Nat → Ad} {i : Nat} (hi : ad i = (inCk t a l : Ck C).ad) : SV.va ad (.sl i 0 n c) = .slice a n c := by
  rcases h with ⟨rfl, rfl, rfl, rfl⟩ | ⟨x, rfl, hx, hb, hl, hz, hc⟩
  · simp only [SV.va, hi]; rfl
  · simp only [SV.va, hi]
    obtain ⟨b, o, s⟩ := x
    simp only at hx; subst hx
    simp [Ck.ad, Ck.on, Ad.at, inB, inQ]
end Go.Vx
set_option maxRecDepth 100000
namespace Go.Vx
open Go Go.Proofs

abbrev cInt (k : IntKind) : Codec where
  α := Int
  dflt := 0
  sz := 1
  enc n := [.int k n]
  upd _ f v := match f, v with
    | 0, .int k' n => if sameKind k k' then some n else none
    | _, _ => none
  len _ := rfl
  cell _ v h := by simp at h; subst h; rfl
  flat _ _ _ := rfl
  upd_ok ad x f v y h := by
    split at h <;> try contradiction
    split at h <;> try contradiction
    rename_i hk
    simp at h; subst h
    simp [SV.va, sameKind_eq hk]
  beq a b := decide (a = b)
/-- Two numbers: a place. -/
abbrev Pl := Int × Int
abbrev cPl : Codec where
  α := Pl
  dflt := (0, 0)
  sz := 2
  enc x := [.int .i64 x.1, .int .i64 x.2]
  upd x f v := match f, v with
    | 0, .int .i64 n => some (n, x.2)
    | 1, .int .i64 n => some (x.1, n)
    | _, _ => none
  whole vs := match vs with
    | [.int .i64 a, .int .i64 b] => some (a, b)
    | _ => none
  whole_ok ad vs y h := by
    split at h <;> try contradiction
    simp only [Option.some.injEq] at h; subst h; rfl
  len _ := rfl
  cell _ v h := by simp at h; rcases h with rfl | rfl <;> rfl
  flat _ _ _ := rfl
  upd_ok ad x f v y h := by
    split at h <;> try contradiction
    all_goals simp at h; subst h; rfl
  agg := true
  beq a b := decide (a.1 = b.1) && decide (a.2 = b.2)
/-- What is said of a page. -/
structure Me where
  kind : Int
  key : Int
  seq : Int
  stamp : Int
  batch : Int
  floor : Int
deriving DecidableEq
structure Slot where
  key : Int
  pl : Pl
  me : Me
deriving DecidableEq
/-- A page: where, of what class, what is said of it. -/
structure Pg where
  pl : Pl
  cl : Int
  me : Me
deriving DecidableEq
abbrev me0 : Me := ⟨0, 0, 0, 0, 0, 0⟩
abbrev slot0 : Slot := ⟨0, (0, 0), me0⟩
abbrev pg0 : Pg := ⟨(0, 0), 0, me0⟩
abbrev meE (m : Me) : List SV := [.int .i64 m.kind, .int .i64 m.key, .int .i64 m.seq, .int .i64 m.stamp, .int .i64 m.batch, .int .i64 m.floor]
abbrev plE (p : Pl) : List SV := [.int .i64 p.1, .int .i64 p.2]
abbrev slotE (x : Slot) : List SV := [.int .i64 x.key, .int .i64 x.pl.1, .int .i64 x.pl.2, .int .i64 x.me.kind, .int .i64 x.me.key, .int .i64 x.me.seq, .int .i64 x.me.stamp, .int .i64 x.me.batch, .int .i64 x.me.floor]
abbrev cSlot : Codec where
  α := Slot
  dflt := slot0
  sz := 9
  enc x := slotE x
  upd x f v := none
  whole vs := match vs with
    | [.int .i64 k, .int .i64 a, .int .i64 b, .int .i64 m1, .int .i64 m2, .int .i64 m3, .int .i64 m4, .int .i64 m5, .int .i64 m6] => some ⟨k, (a, b), ⟨m1, m2, m3, m4, m5, m6⟩⟩
    | _ => none
  whole_ok ad vs y h := by
    split at h <;> try contradiction
    simp only [Option.some.injEq] at h; subst h; rfl
  len _ := rfl
  cell _ v h := by simp [slotE] at h; rcases h with rfl | rfl | rfl | rfl | rfl | rfl | rfl | rfl | rfl <;> rfl
  flat _ _ _ := rfl
  upd_ok ad x f v y h := by cases h
  agg := true
abbrev pgE (x : Pg) : List SV := [.int .i64 x.pl.1, .int .i64 x.pl.2, .int .i64 x.cl, .int .i64 x.me.kind, .int .i64 x.me.key, .int .i64 x.me.seq, .int .i64 x.me.stamp, .int .i64 x.me.batch, .int .i64 x.me.floor]
abbrev cPg : Codec where
  α := Pg
  dflt := pg0
  sz := 9
  enc x := pgE x
  upd x f v := none
  whole vs := match vs with
    | [.int .i64 a, .int .i64 b, .int .i64 k, .int .i64 m1, .int .i64 m2, .int .i64 m3, .int .i64 m4, .int .i64 m5, .int .i64 m6] => some ⟨(a, b), k, ⟨m1, m2, m3, m4, m5, m6⟩⟩
    | _ => none
  whole_ok ad vs y h := by
    split at h <;> try contradiction
    simp only [Option.some.injEq] at h; subst h; rfl
  len _ := rfl
  cell _ v h := by simp [pgE] at h; rcases h with rfl | rfl | rfl | rfl | rfl | rfl | rfl | rfl | rfl <;> rfl
  flat _ _ _ := rfl
  upd_ok ad x f v y h := by cases h
  agg := true
abbrev cBool : Codec where
  α := Bool
  dflt := false
  sz := 1
  enc b := [.bool (.tm b)]
  upd _ f v := match f, v with
    | 0, .bool s => some s.val
    | _, _ => none
  len _ := rfl
  cell _ v h := by simp at h; subst h; rfl
  flat _ _ _ := rfl
  upd_ok ad x f v y h := by
    split at h <;> try contradiction
    simp at h; subst h
    simp [SV.va, SB.val]
/-- Where the errors lie, and what lies there: by the number of the package's variable. -/
class Gl where
  A : Nat → Addr
  c : Nat → Array Value
  t : Nat → TypeId
def errV : Option Addr → Value
  | none => .nilIface
  | some a => .iface 142 (.pointer (some a))
abbrev cErr : Codec where
  α := Option Addr
  dflt := none
  sz := 1
  enc e := [.val (errV e)]
  upd _ f v := match f, v with
    | 0, .nili => some none
    | 0, .ifc 142 (.val (.pointer (some a))) => some (some a)
    | _, _ => none
  len _ := rfl
  cell e v h := by simp at h; subst h; cases e <;> rfl
  flat _ _ _ := rfl
  upd_ok ad x f v y h := by
    split at h <;> try contradiction
    all_goals
      simp at h; subst h
      simp [SV.va, errV]
/-- Is it laid. -/
abbrev glB (g : Nat) : Bool := Nat.blt g 2
abbrev glV [Gl] (g : Nat) : Option SV := match glB g with
  | true => some (.ifc 142 (.val (.pointer (some (Gl.A g)))))
  | false => none
abbrev glP [Gl] (g : Nat) : List (Nat × Obj) := match glB g with
  | true => [((Gl.A g).block, .cells (Gl.c g) (Gl.t g) (0, 0))]
  | false => []
theorem glV_flat [Gl] (g : Nat) : ∀ v, glV g = some v → ∀ ad ad', SV.va ad v = SV.va ad' v := by
  intro v h ad ad'
  unfold glV at h
  split at h
  · simp only [Option.some.injEq] at h; subst h; rfl
  · cases h
abbrev cG [Gl] (g : Nat) (c : Codec) : Codec := { c with gv := glV g, gpins := glP g, gflat := glV_flat g }
abbrev C0 [Gl] : Nat → Codec := fun t => match t with
  | 36 => cG 36 cPl
  | 40 => cG 40 cSlot
  | 59 => cG 59 cSlot
  | 55 => cG 55 cPg
  | 42 => cG 42 cPg
  | 33 => cG 33 (gwCodec cPg)
  | 4 => cG 4 cBool
  | 30 => cG 30 cErr
  | t => cG t (cInt .i64)
theorem mix : Tryd.prog.follows .mixedOrders = true := by kernel_rfl
theorem inR64 {n : Int} (h1 : -9223372036854775808 ≤ n) (h2 : n ≤ 9223372036854775807) : inR .i64 n := by
  unfold inR IntKind.wrap
  simp [IntKind.bits, IntKind.signed]
  omega
def onOf : Option Bool → Bool
  | none => true
  | some b => b
section
variable [Gl]
/-- [][]scan.Page, map[int][]scan.Page: read, and grown. -/
def fG : Fam C0 where
  te := 33
  off := 0
  t := 55
  get x := x
  enc x := rfl
  good w x h := h.1
  blk x b hb := hb
  flat := rfl
  hoff := Nat.zero_lt_one
  put := some fun x => x
  gro p hp := by
    simp only [Option.some.injEq] at hp
    subst hp
    exact ⟨fun _ => rfl, rfl, fun _ => rfl, rfl, rfl, fun _ => rfl, fun _ _ h => h, fun _ _ h => h⟩
end
end Go.Vx
set_option maxRecDepth 100000
namespace Go.Vx
open Go Go.Proofs
variable [Gl]

theorem on_of {o : Bool} {n c : Nat} (ho : o = false → n = 0 ∧ c = 0) (h : 0 < n) : o = true := by
  cases o with
  | true => rfl
  | false => have := (ho rfl).1; omega
theorem take_snoc {α : Type} {A : List α} {i : Nat} {d : α} (h : i < A.length) : A.take (i + 1) = A.take i ++ [A.getD i d] := by
  rw [List.take_add_one]
  simp [List.getD, h]
theorem tk_len {α : Type} {l : List α} {n : Nat} (h : n ≤ l.length) : (l.take n).length = n := by
  rw [List.length_take]; omega
theorem tk_get {α : Type} {l : List α} {n i : Nat} {d : α} (h : i < n) : (l.take n).getD i d = l.getD i d := by
  simp only [List.getD_eq_getElem?_getD, List.getElem?_take, if_pos h]
theorem getD_mem {α : Type} {l : List α} {i : Nat} {d : α} (h : i < l.length) : l.getD i d ∈ l := by
  rw [List.getD_eq_getElem?_getD, List.getElem?_eq_getElem h]; exact List.getElem_mem h
/-- A slice: is it there, where, what lies there, how many, how many can be. -/
abbrev Sq (α : Type) := Bool × Nat × Nat × List α × Nat × Nat
def Sq.ok {α : Type} (s : Sq α) : Prop := s.2.2.2.2.1 ≤ s.2.2.2.2.2 ∧ s.2.2.2.2.1 ≤ s.2.2.2.1.length ∧ (s.1 = false → s.2.2.2.2.1 = 0 ∧ s.2.2.2.2.2 = 0)
def Sq.li {α : Type} (s : Sq α) : List α := s.2.2.2.1.take s.2.2.2.2.1

theorem isNaN_ok (n : Int) : Tells (C := C0) Tryd.prog (.fn 51) [] [.int .i64 n] (.bool .f) := by
  refine loc_pc (P := Tryd.prog) (E := ⟨[], [], 6, [], [], []⟩) (L := []) mix Tryd.func51 rfl (by kernel_rfl) (by kernel_rfl) rfl rfl ?_
  ((conv => (arg 1; reduce)); with_reducible repeat' (first | exact Tr.yes_h | refine Tr.and_h ?_ ?_ | refine Tr.imp_h fun _ => ?_ | refine Tr.all_h fun _ => ?_ | refine Tr.lf_h ?_))
  all_goals try (first | first | (show Region.lexB _ _ = true; kernel_rfl) | (show planned _ _ = true; kernel_rfl) | exact rfl | exact True.intro | (first | exact key3 | exact zeroB | exact zeroR | exact zeroS | exact ⟨key3, zeroB⟩ | exact ⟨key3, zeroR⟩ | exact ⟨key3, zeroS⟩) | ((try dsimp only [imp, C0, cG, cInt, cPl, cSlot, cPg, gwCodec] at *); (try refine inR64 ?_ ?_) <;> (try simp only [List.length_set, List.length_append, List.length_take, List.length_drop]) <;> omega))
  all_goals simp [SB.val]
def pcNaN : Pc Tryd.prog C0 where
  tg := .fn 51
  X := Int
  args x := [.int .i64 x]
  mem _ := []
  pre _ := True
  res x := .bool .f
  mat vs _ := match vs with
    | [.int _ a] => some (a, [])
    | _ => none
  ok x _ := isNaN_ok x
/-- Two numbers, compared. -/
@[irreducible] def cmpI (a b : Int) : Int := if a < b then -1 else if b < a then 1 else 0
theorem cmpI_lt {a b : Int} (h : a < b) : cmpI a b = -1 := by unfold cmpI; rw [if_pos h]
theorem cmpI_gt {a b : Int} (h : b < a) : cmpI a b = 1 := by unfold cmpI; rw [if_neg (by omega), if_pos h]
theorem cmpI_eq {a b : Int} (h : ¬ a < b) (h' : ¬ b < a) : cmpI a b = 0 := by unfold cmpI; rw [if_neg h, if_neg h']
theorem compare_ok (a b : Int) : Tells (C := C0) Tryd.prog (.fn 31) [] [.int .i64 a, .int .i64 b] (.int .i64 (cmpI a b)) := by
  refine loc_pc (P := Tryd.prog) (E := ⟨[], [pcNaN], 20, [], [], []⟩) (L := []) mix Tryd.func31 rfl (by kernel_rfl) (by kernel_rfl) rfl rfl ?_
  ((conv => (arg 1; reduce)); with_reducible repeat' (first | exact Tr.yes_h | refine Tr.and_h ?_ ?_ | refine Tr.imp_h fun _ => ?_ | refine Tr.all_h fun _ => ?_ | refine Tr.lf_h ?_))
  all_goals try (first | first | (show Region.lexB _ _ = true; kernel_rfl) | (show planned _ _ = true; kernel_rfl) | exact rfl | exact True.intro | (first | exact key3 | exact zeroB | exact zeroR | exact zeroS | exact ⟨key3, zeroB⟩ | exact ⟨key3, zeroR⟩ | exact ⟨key3, zeroS⟩) | ((try dsimp only [imp, C0, cG, cInt, cPl, cSlot, cPg, gwCodec] at *); (try refine inR64 ?_ ?_) <;> (try simp only [List.length_set, List.length_append, List.length_take, List.length_drop]) <;> omega))
  · rename_i h1
    exact (cmpI_lt (of_decide_eq_true h1)).symm
  · rename_i h1 h2
    exact (cmpI_gt (of_decide_eq_true h2)).symm
  · rename_i h1 h2
    exact (cmpI_eq (of_decide_eq_false h1) (of_decide_eq_false h2)).symm
def pcCompare : Pc Tryd.prog C0 where
  tg := .fn 31
  X := Int × Int
  args x := [.int .i64 x.1, .int .i64 x.2]
  mem _ := []
  pre _ := True
  res x := .int .i64 (cmpI x.1 x.2)
  mat vs _ := match vs with
    | [.int _ a, .int _ b] => some ((a, b), [])
    | _ => none
  ok x _ := compare_ok x.1 x.2
def eqMe (a b : Me) : Bool := decide (a.kind = b.kind) && decide (a.key = b.key) && decide (a.seq = b.seq) && decide (a.stamp = b.stamp) && decide (a.batch = b.batch) && decide (a.floor = b.floor)
def newer (a b : Me) : Bool := decide (b.seq < a.seq) || (decide (a.seq = b.seq) && decide (a.stamp < b.stamp))
def alive (m : Me) (f : Int) : Bool := decide (m.batch = 0) || decide (m.batch ≤ f)
theorem newer_ok (a b : Me) : Tells (C := C0) Tryd.prog (.fn 34) [] [.agg (meE a), .agg (meE b)] (.bool (.tm (newer a b))) := by
  refine loc_pc (P := Tryd.prog) (E := ⟨[], [], 24, [], [], []⟩) (L := []) mix Tryd.func34 rfl (by kernel_rfl) (by kernel_rfl) rfl rfl ?_
  ((conv => (arg 1; reduce)); with_reducible repeat' (first | exact Tr.yes_h | refine Tr.and_h ?_ ?_ | refine Tr.imp_h fun _ => ?_ | refine Tr.all_h fun _ => ?_ | refine Tr.lf_h ?_))
  all_goals (first | first | (show Region.lexB _ _ = true; kernel_rfl) | (show planned _ _ = true; kernel_rfl) | exact rfl | exact True.intro | (first | exact key3 | exact zeroB | exact zeroR | exact zeroS | exact ⟨key3, zeroB⟩ | exact ⟨key3, zeroR⟩ | exact ⟨key3, zeroS⟩) | ((try dsimp only [imp, C0, cG, cInt, cPl, cSlot, cPg, gwCodec] at *); (try refine inR64 ?_ ?_) <;> (try simp only [List.length_set, List.length_append, List.length_take, List.length_drop]) <;> omega))
def pcNewer : Pc Tryd.prog C0 where
  tg := .fn 34
  X := Me × Me
  args x := [.agg (meE x.1), .agg (meE x.2)]
  mem _ := []
  pre _ := True
  res x := .bool (.tm (newer x.1 x.2))
  mat vs _ := match vs with
    | [.agg [.int _ a1, .int _ a2, .int _ a3, .int _ a4, .int _ a5, .int _ a6], .agg [.int _ b1, .int _ b2, .int _ b3, .int _ b4, .int _ b5, .int _ b6]] => some ((⟨a1, a2, a3, a4, a5, a6⟩, ⟨b1, b2, b3, b4, b5, b6⟩), [])
    | _ => none
  ok x _ := newer_ok x.1 x.2
theorem alive_ok (m : Me) (f : Int) : Tells (C := C0) Tryd.prog (.fn 43) [] [.agg (meE m), .int .i64 f] (.bool (.tm (alive m f))) := by
  refine loc_pc (P := Tryd.prog) (E := ⟨[], [], 14, [], [], []⟩) (L := []) mix Tryd.func43 rfl (by kernel_rfl) (by kernel_rfl) rfl rfl ?_
  ((conv => (arg 1; reduce)); with_reducible repeat' (first | exact Tr.yes_h | refine Tr.and_h ?_ ?_ | refine Tr.imp_h fun _ => ?_ | refine Tr.all_h fun _ => ?_ | refine Tr.lf_h ?_))
  all_goals (first | first | (show Region.lexB _ _ = true; kernel_rfl) | (show planned _ _ = true; kernel_rfl) | exact rfl | exact True.intro | (first | exact key3 | exact zeroB | exact zeroR | exact zeroS | exact ⟨key3, zeroB⟩ | exact ⟨key3, zeroR⟩ | exact ⟨key3, zeroS⟩) | ((try dsimp only [imp, C0, cG, cInt, cPl, cSlot, cPg, gwCodec] at *); (try refine inR64 ?_ ?_) <;> (try simp only [List.length_set, List.length_append, List.length_take, List.length_drop]) <;> omega))
def pcAlive : Pc Tryd.prog C0 where
  tg := .fn 43
  X := Me × Int
  args x := [.agg (meE x.1), .int .i64 x.2]
  mem _ := []
  pre _ := True
  res x := .bool (.tm (alive x.1 x.2))
  mat vs _ := match vs with
    | [.agg [.int _ a1, .int _ a2, .int _ a3, .int _ a4, .int _ a5, .int _ a6], .int _ f] => some ((⟨a1, a2, a3, a4, a5, a6⟩, f), [])
    | _ => none
  ok x _ := alive_ok x.1 x.2
theorem pnewer_ok (a b : Pg) : Tells (C := C0) Tryd.prog (.fn 61) [] [.agg (pgE a), .agg (pgE b)] (.bool (.tm (newer a.me b.me))) := by
  refine loc_pc (P := Tryd.prog) (E := ⟨[], [pcNewer], 10, [], [], []⟩) (L := []) mix Tryd.func61 rfl (by kernel_rfl) (by kernel_rfl) rfl rfl ?_
  ((conv => (arg 1; reduce)); with_reducible repeat' (first | exact Tr.yes_h | refine Tr.and_h ?_ ?_ | refine Tr.imp_h fun _ => ?_ | refine Tr.all_h fun _ => ?_ | refine Tr.lf_h ?_))
  all_goals (first | first | (show Region.lexB _ _ = true; kernel_rfl) | (show planned _ _ = true; kernel_rfl) | exact rfl | exact True.intro | (first | exact key3 | exact zeroB | exact zeroR | exact zeroS | exact ⟨key3, zeroB⟩ | exact ⟨key3, zeroR⟩ | exact ⟨key3, zeroS⟩) | ((try dsimp only [imp, C0, cG, cInt, cPl, cSlot, cPg, gwCodec] at *); (try refine inR64 ?_ ?_) <;> (try simp only [List.length_set, List.length_append, List.length_take, List.length_drop]) <;> omega))
def pcPnewer : Pc Tryd.prog C0 where
  tg := .fn 61
  X := Pg × Pg
  args x := [.agg (pgE x.1), .agg (pgE x.2)]
  mem _ := []
  pre _ := True
  res x := .bool (.tm (newer x.1.me x.2.me))
  mat vs _ := match vs with
    | [.agg [.int _ a, .int _ b, .int _ k, .int _ a1, .int _ a2, .int _ a3, .int _ a4, .int _ a5, .int _ a6], .agg [.int _ c, .int _ d, .int _ e, .int _ b1, .int _ b2, .int _ b3, .int _ b4, .int _ b5, .int _ b6]] =>
      some ((⟨(a, b), k, ⟨a1, a2, a3, a4, a5, a6⟩⟩, ⟨(c, d), e, ⟨b1, b2, b3, b4, b5, b6⟩⟩), [])
    | _ => none
  ok x _ := pnewer_ok x.1 x.2
/-- The first of some numbers that is not 0. -/
@[irreducible] def orL : List Int → Int
  | [] => 0
  | a :: r => if a ≠ 0 then a else orL r
theorem orL_cons (a : Int) (r : List Int) : orL (a :: r) = if a ≠ 0 then a else orL r := by rw [orL]
theorem orL_nil : orL [] = 0 := by rw [orL]
theorem orL_at : ∀ {A : List Int} {i : Nat}, i < A.length → (∀ x ∈ A.take i, x = 0) → A.getD i 0 ≠ 0 → orL A = A.getD i 0
  | a :: r, 0, _, _, h => by rw [orL_cons, if_pos (by simpa using h)]; rfl
  | a :: r, i + 1, hi, h0, h => by
    have ha : a = 0 := h0 a (by simp)
    rw [orL_cons, if_neg (by simp [ha]), orL_at (i := i) (by simpa using hi) (fun x hx => h0 x (by simp [hx])) (by simpa using h)]
    simp
theorem orL_no : ∀ {A : List Int}, (∀ x ∈ A, x = 0) → orL A = 0
  | [], _ => orL_nil
  | a :: r, h => by rw [orL_cons, if_neg (by simp [h a (by simp)]), orL_no fun x hx => h x (by simp [hx])]
def Or1 (A : List Int) : Inv' C0 := ⟨3, Nat, fun i => [(8, .int .i64 (i : Int))], fun _ m => m, fun i => i ≤ A.length ∧ ∀ x ∈ A.take i, x = 0, fun i => A.length - i⟩
theorem or_ok (b q : Nat) (l : List Int) (n c : Nat) (h : n ≤ l.length) (hn : n < 4611686018427387904) :
    Tells (C := C0) Tryd.prog (.fn 37) [⟨b, q, 1, false, none, .rows 3 l⟩] [.sl 0 0 n c] (.int .i64 (orL (l.take n))) := by
  have hL := tk_len h
  refine loc_pc (P := Tryd.prog) (E := ⟨[], [], 18, [], [], []⟩) (L := [Or1 (l.take n)]) mix Tryd.func37 rfl (by kernel_rfl) (by kernel_rfl) rfl rfl ?_
  ((conv => (arg 1; reduce)); with_reducible repeat' (first | exact Tr.yes_h | refine Tr.and_h ?_ ?_ | refine Tr.imp_h fun _ => ?_ | refine Tr.all_h fun _ => ?_ | refine Tr.lf_h ?_))
  all_goals try (first | (first | first | (show Region.lexB _ _ = true; kernel_rfl) | (show planned _ _ = true; kernel_rfl) | exact rfl | exact True.intro | (first | exact key3 | exact zeroB | exact zeroR | exact zeroS | exact ⟨key3, zeroB⟩ | exact ⟨key3, zeroR⟩ | exact ⟨key3, zeroS⟩) | ((try dsimp only [imp, C0, cG, cInt, cPl, cSlot, cPg, gwCodec] at *); (try refine inR64 ?_ ?_) <;> (try simp only [List.length_set, List.length_append, List.length_take, List.length_drop]) <;> omega)) | ((try dsimp only [imp, C0, cG, cInt, cPl, cSlot, cPg, gwCodec, Or1] at *); (try simp only [decide_eq_true_eq, decide_eq_false_iff_not, Bool.and_eq_true, Bool.or_eq_true, Bool.or_eq_false_iff, Bool.and_eq_false_iff, Bool.not_eq_true', Bool.not_eq_false', SB.val, List.length_append, List.length_cons, List.length_nil, List.length_take, List.length_drop] at *); (first | omega | exact inR64 (by omega) (by omega) | (refine inR64 ?_ ?_ <;> omega))))
  · refine Stands.one (0 : Nat) ⟨⟨Nat.zero_le _, by simp⟩, ?_⟩
    ((conv => (arg 1; reduce)); with_reducible repeat' (first | exact Tr.yes_h | refine Tr.and_h ?_ ?_ | refine Tr.imp_h fun _ => ?_ | refine Tr.all_h fun _ => ?_ | refine Tr.lf_h ?_))
    all_goals (first | first | (show Region.lexB _ _ = true; kernel_rfl) | (show planned _ _ = true; kernel_rfl) | exact rfl | exact True.intro | (first | exact key3 | exact zeroB | exact zeroR | exact zeroS | exact ⟨key3, zeroB⟩ | exact ⟨key3, zeroR⟩ | exact ⟨key3, zeroS⟩) | ((try dsimp only [imp, C0, cG, cInt, cPl, cSlot, cPg, gwCodec] at *); (try refine inR64 ?_ ?_) <;> (try simp only [List.length_set, List.length_append, List.length_take, List.length_drop]) <;> omega))
  · rename_i v hv h1 h2
    change Nat at v
    obtain ⟨e1, e2⟩ := hv
    have h1 : v < n := by have := of_decide_eq_true h1; omega
    have h2 : l.getD v 0 ≠ 0 := of_decide_eq_true h2
    rw [orL_at (i := v) (by rw [hL]; exact h1) e2 (by rw [tk_get h1]; exact h2), tk_get h1]
    rfl
  · rename_i v hv h1 h2
    change Nat at v
    obtain ⟨e1, e2⟩ := hv
    have h1 : v < n := by have := of_decide_eq_true h1; omega
    have h2 : ¬ l.getD v 0 ≠ 0 := of_decide_eq_false h2
    refine Stands.one (v + 1 : Nat) ⟨⟨by rw [hL]; exact h1, fun x hx => ?_⟩, ?_, ?_⟩
    · rw [take_snoc (d := 0) (by rw [hL]; exact h1), tk_get h1] at hx
      rcases List.mem_append.1 hx with hx | hx
      · exact e2 x hx
      · rw [List.mem_singleton.1 hx]; omega
    · show (l.take n).length - (v + 1) < (l.take n).length - v
      rw [hL]; omega
    ((conv => (arg 1; reduce)); with_reducible repeat' (first | exact Tr.yes_h | refine Tr.and_h ?_ ?_ | refine Tr.imp_h fun _ => ?_ | refine Tr.all_h fun _ => ?_ | refine Tr.lf_h ?_))
    all_goals (first | first | (show Region.lexB _ _ = true; kernel_rfl) | (show planned _ _ = true; kernel_rfl) | exact rfl | exact True.intro | (first | exact key3 | exact zeroB | exact zeroR | exact zeroS | exact ⟨key3, zeroB⟩ | exact ⟨key3, zeroR⟩ | exact ⟨key3, zeroS⟩) | ((try dsimp only [imp, C0, cG, cInt, cPl, cSlot, cPg, gwCodec] at *); (try refine inR64 ?_ ?_) <;> (try simp only [List.length_set, List.length_append, List.length_take, List.length_drop]) <;> omega))
  · rename_i v hv h1
    change Nat at v
    obtain ⟨e1, e2⟩ := hv
    have h1 : ¬ v < n := by have := of_decide_eq_false h1; omega
    rw [List.take_of_length_le (by rw [hL]; omega)] at e2
    exact (orL_no e2).symm
def pcOr : Pc Tryd.prog C0 where
  tg := .fn 37
  X := Nat × Nat × List Int × Nat × Nat
  args := fun (b, q, l, n, c) => [.sl 0 0 n c]
  mem := fun (b, q, l, n, c) => [⟨b, q, 1, false, none, .rows 3 l⟩]
  pre := fun (b, q, l, n, c) => n ≤ l.length ∧ n < 4611686018427387904
  res := fun (b, q, l, n, c) => .int .i64 (orL (l.take n))
  mat vs m := match vs with
    | [.sl a 0 n c] => match nth m a with
      | ⟨b, q, _, _, _, .rows 3 l⟩ => some ((b, q, l, n, c), [a])
      | _ => none
    | _ => none
  ok := fun (b, q, l, n, c) h => or_ok b q l n c h.1 h.2
/-- Two places, compared. -/
@[irreducible] def plc (a b : Pl) : Int := orL [cmpI a.1 b.1, cmpI a.2 b.2]
def plLt (a b : Pl) : Prop := a.1 < b.1 ∨ a.1 = b.1 ∧ a.2 < b.2
instance (a b : Pl) : Decidable (plLt a b) := by unfold plLt; infer_instance
theorem plc_lt {a b : Pl} : plc a b < 0 ↔ plLt a b := by
  unfold plc plLt
  rw [orL_cons, orL_cons, orL_nil]
  unfold cmpI
  repeat' split
  all_goals omega
theorem places_ok (a b : Pl) : Tells (C := C0) Tryd.prog (.fn 25) [] [.agg (plE a), .agg (plE b)] (.int .i64 (plc a b)) := by
  refine loc_pc (P := Tryd.prog) (E := ⟨[], [pcCompare, pcOr], 17, [(1, [1000002, 1000003], [.p 0, .p 1, .p 2, .p 3, .p 5, .p 6, .p 7, .p 8, .q 4, .q 9, .e 10, .q 11, .p 12])], [], []⟩) (L := []) mix Tryd.func25 rfl (by kernel_rfl) (by kernel_rfl) rfl rfl ?_
  ((conv => (arg 1; reduce)); with_reducible repeat' (first | exact Tr.yes_h | refine Tr.and_h ?_ ?_ | refine Tr.imp_h fun _ => ?_ | refine Tr.all_h fun _ => ?_ | refine Tr.lf_h ?_))
  all_goals try (first | first | (show Region.lexB _ _ = true; kernel_rfl) | (show planned _ _ = true; kernel_rfl) | exact rfl | exact True.intro | (first | exact key3 | exact zeroB | exact zeroR | exact zeroS | exact ⟨key3, zeroB⟩ | exact ⟨key3, zeroR⟩ | exact ⟨key3, zeroS⟩) | ((try dsimp only [imp, C0, cG, cInt, cPl, cSlot, cPg, gwCodec] at *); (try refine inR64 ?_ ?_) <;> (try simp only [List.length_set, List.length_append, List.length_take, List.length_drop]) <;> omega))
  · exact ⟨Nat.le_refl _, by omega⟩
  · unfold plc
    rfl
def pcPlaces : Pc Tryd.prog C0 where
  tg := .fn 25
  X := Pl × Pl
  args x := [.agg (plE x.1), .agg (plE x.2)]
  mem _ := []
  pre _ := True
  res x := .int .i64 (plc x.1 x.2)
  mat vs _ := match vs with
    | [.agg [.int _ a1, .int _ a2], .agg [.int _ b1, .int _ b2]] => some (((a1, a2), (b1, b2)), [])
    | _ => none
  ok x _ := places_ok x.1 x.2
end Go.Vx
set_option maxRecDepth 100000
namespace Go.Vx
open Go Go.Proofs
variable [Gl]
theorem und3 : Tryd.prog.underlying 3 = some (.int .i64) := by kernel_rfl
theorem check_int {P : Program} {t : TypeId} {k : IntKind} (h : P.underlying t = some (.int k)) (b : Bool) (n : Nat) (x : Int) (w : World) : (Instr.checkKey b (n + 1) t (.int k x)).run P w = .ok () w := by
  simp only [Instr.checkKey, Sem.run_bind, run_underlying' h, Result.andThen_ok, Sem.run_pure]
theorem bits_int (k : IntKind) (n : Nat) (x : Int) : Instr.sameBits n (.int k x) (.int k x) = true := by
  cases n <;> simp [Instr.sameBits]
theorem zero_of {P : Program} {t : TypeId} {z : Value} (h : (P.info? t).map (·.zero) = some (some z)) (w : World) : (zeroValue t).run P w = .ok z w := by
  cases hi : P.info? t with
  | none => rw [hi] at h; cases h
  | some i =>
    rw [hi] at h
    simp only [Option.map_some, Option.some.injEq] at h
    simp [zeroValue, typeInfo, hi, h]
theorem key3 : KeyOK Tryd.prog 3 (C0 3) where
  chk b x w := check_int und3 b 9999 x w
  find d l q w := by
    have h : ∀ (l : List (Ent' (C0 3) d)) (i : Nat), Instr.findNow (.int .i64) (packV (C0 3) q) (l.map (entryOf (C0 3) d)) i = some ((mfix (C0 3) d q l i).map fun p => (p.1, packV d p.2)) := by
      intro l
      induction l with
      | nil => intro i; rfl
      | cons e r ih =>
        intro i
        have hs : Instr.sameNow (.int .i64) (packV (C0 3) q) (entryOf (C0 3) d e).key = some ((C0 3).beq q e.1) := by
          show Instr.sameNow (.int .i64) (.int .i64 q) (.int .i64 e.1) = some (@decide (q = e.1) (Int.instDecidableEq q e.1))
          simp only [Instr.sameNow, if_true]
          exact congrArg some (Bool.eq_iff_iff.2 (by simp))
        simp only [List.map_cons, Instr.findNow, hs, mfix]
        cases (C0 3).beq q e.1
        · exact ih _
        · rfl
    simp only [Instr.findKey, Sem.run_bind, run_underlying' und3, Result.andThen_ok, h]
    rfl
  bits x y h := by
    have e : x = y := @of_decide_eq_true _ (Int.instDecidableEq x y) h
    rw [e]
    exact bits_int .i64 10000 y
theorem zeroB : ZeroIs Tryd.prog 4 (C0 4) := ⟨zero_of (show (Tryd.prog.info? 4).map (·.zero) = some (some (.bool false)) by kernel_rfl)⟩
theorem zeroR : ZeroIs Tryd.prog 33 (C0 33) := ⟨zero_of (show (Tryd.prog.info? 33).map (·.zero) = some (some (.slice none 0 0)) by kernel_rfl)⟩
theorem zeroS : ZeroIs Tryd.prog 40 (C0 40) := ⟨zero_of (show (Tryd.prog.info? 40).map (·.zero) = some (some (.agg #[.int .i64 0, .int .i64 0, .int .i64 0, .int .i64 0, .int .i64 0, .int .i64 0, .int .i64 0, .int .i64 0, .int .i64 0])) by kernel_rfl)⟩
/-- A row that is a slice, az it can be. -/
def Rok {α : Type} (r : Rw α) : Prop := (r.on = false → r.l.length = 0 ∧ r.m = 0) ∧ r.l.length ≤ r.m ∧ r.l.length < 140737488355000
/-- A map's entries: numbers told. -/
abbrev Bm := List (Int × Bool × Nat)
abbrev mgetB (M : Bm) (k : Int) : Bool := mget (C0 3) (C0 4) M k
/-- Is a page a head of the block b. -/
def hdP (b : Int) (p : Pg) : Bool := decide (p.pl.2 = 0) && decide (p.cl = 1) && decide (p.me.kind = 1) && decide (p.me.key = b)
/-- Does a block begin with its head. -/
def isHd (b : Int) (l : List Pg) : Bool := decide (0 < (l.length : Int)) && hdP b (l.getD 0 pg0)
/-- The struct of a chip's pages, az it is read. -/
abbrev chpR (b q : Nat) (n c : Nat) : Ck C0 := ⟨b, q, 15, false, none, .one [.junk, .junk, .junk, .junk, .sl 1 0 n c, .junk, .junk, .junk, .junk, .junk, .junk, .junk, .junk, .junk, .junk]⟩
abbrev chpB (b q : Nat) (n c : Nat) : Ck C0 := ⟨b, q, 15, false, none, .one [.junk, .junk, .junk, .junk, .sl 1 0 n c, .mp 2, .junk, .junk, .junk, .junk, .junk, .junk, .junk, .junk, .junk]⟩
abbrev gridR (b q : Nat) (R : List (Rw Pg)) : Ck C0 := ⟨b, q, 1, false, none, .rows 33 R⟩
theorem and_l {a b : Bool} (h : (a && b) = true) : a = true := (Bool.and_eq_true_iff.1 h).1
theorem and_r {a b : Bool} (h : (a && b) = true) : b = true := (Bool.and_eq_true_iff.1 h).2
theorem headed_ok (bc qc bg qg : Nat) (R : List (Rw Pg)) (n c : Nat) (i : Int) (h : n ≤ R.length) (hi : 0 ≤ i ∧ i < (n : Int)) (hR : ∀ r ∈ R, Rok r) :
    Tells (C := C0) Tryd.prog (.fn 39) [chpR bc qc n c, gridR bg qg R] [.ptr 0 0 0, .int .i64 i] (.bool (.tm (isHd i (R.getD i.toNat Rw.nil).l))) := by
  refine loc_pc (P := Tryd.prog) (E := ⟨[], [], 48, [], [fG], []⟩) (L := []) mix Tryd.func39 rfl (by kernel_rfl) (by kernel_rfl) rfl rfl ?_
  ((conv => (arg 1; reduce)); with_reducible repeat' (first | exact Tr.yes_h | refine Tr.and_h ?_ ?_ | refine Tr.imp_h fun _ => ?_ | refine Tr.all_h fun _ => ?_ | refine Tr.lf_h ?_))
  all_goals try (first | first | (show Region.lexB _ _ = true; kernel_rfl) | (show planned _ _ = true; kernel_rfl) | exact rfl | exact True.intro | (first | exact key3 | exact zeroB | exact zeroR | exact zeroS | exact ⟨key3, zeroB⟩ | exact ⟨key3, zeroR⟩ | exact ⟨key3, zeroS⟩) | ((try dsimp only [imp, C0, cG, cInt, cPl, cSlot, cPg, gwCodec] at *); (try refine inR64 ?_ ?_) <;> (try simp only [List.length_set, List.length_append, List.length_take, List.length_drop]) <;> omega))
  · show i.toNat + 0 < R.length
    omega
  all_goals try
    rename_i r hr h1
    change Rw Pg at r
    have hr : R.getD i.toNat Rw.nil = r := hr
    have hk : Rok r := by rw [← hr]; exact hR _ (getD_mem (by omega))
    have h0 : (0 : Int) < (r.l.length : Int) := by
      first
        | exact of_decide_eq_true h1
        | exact of_decide_eq_true (and_l h1)
        | exact of_decide_eq_true (and_l (and_l h1))
        | exact of_decide_eq_true (and_l (and_l (and_l h1)))
        | exact of_decide_eq_true (and_l (and_l (and_l (and_l h1))))
    have h0 : 0 < r.l.length := by omega
    first
      | exact on_of (o := r.on) hk.1 h0
      | (show (0 : Int) < (r.l.length : Int); omega)
      | (show Int.toNat 0 + 0 < r.l.length; exact h0)
  rename_i r hr
  change Rw Pg at r
  have hr : R.getD i.toNat Rw.nil = r := hr
  show _ = isHd i (R.getD i.toNat Rw.nil).l
  rw [hr]
  simp only [isHd, hdP, SB.val, Bool.and_assoc]
  rfl
def pcHeaded : Pc Tryd.prog C0 where
  tg := .fn 39
  X := Nat × Nat × Nat × Nat × List (Rw Pg) × Nat × Nat × Int
  args := fun (bc, qc, bg, qg, R, n, c, i) => [.ptr 0 0 0, .int .i64 i]
  mem := fun (bc, qc, bg, qg, R, n, c, i) => [chpR bc qc n c, gridR bg qg R]
  pre := fun (bc, qc, bg, qg, R, n, c, i) => n ≤ R.length ∧ (0 ≤ i ∧ i < (n : Int)) ∧ ∀ r ∈ R, Rok r
  res := fun (bc, qc, bg, qg, R, n, c, i) => .bool (.tm (isHd i (R.getD i.toNat Rw.nil).l))
  mat vs m := match vs with
    | [.ptr a _ _, .int _ i] => match nth m a with
      | ⟨bc, qc, _, _, _, .one (_ :: _ :: _ :: _ :: .sl g _ n c :: _)⟩ => match nth m g with
        | ⟨bg, qg, _, _, _, .rows 33 R⟩ => some ((bc, qc, bg, qg, R, n, c, i), [a, g])
        | _ => none
      | _ => none
    | _ => none
  ok := fun (bc, qc, bg, qg, R, n, c, i) h => headed_ok bc qc bg qg R n c i h.1 h.2.1 h.2.2
theorem counts_ok (bc qc bg qg : Nat) (R : List (Rw Pg)) (n c : Nat) (bm : Nat) (M : Bm) (clk : Nat) (i : Int) (h : n ≤ R.length) (hi : 0 ≤ i ∧ i < (n : Int)) (hR : ∀ r ∈ R, Rok r) :
    Tells (C := C0) Tryd.prog (.fn 41) [chpB bc qc n c, gridR bg qg R, ⟨bm, 0, 0, false, none, .mp 3 4 M clk⟩] [.ptr 0 0 0, .int .i64 i] (.bool (.tm (isHd i (R.getD i.toNat Rw.nil).l && !mgetB M i))) := by
  refine loc_pc (P := Tryd.prog) (E := ⟨[], [pcHeaded], 17, [], [fG], []⟩) (L := []) mix Tryd.func41 rfl (by kernel_rfl) (by kernel_rfl) rfl rfl ?_
  ((conv => (arg 1; reduce)); with_reducible repeat' (first | exact Tr.yes_h | refine Tr.and_h ?_ ?_ | refine Tr.imp_h fun _ => ?_ | refine Tr.all_h fun _ => ?_ | refine Tr.lf_h ?_))
  all_goals try (first | first | (show Region.lexB _ _ = true; kernel_rfl) | (show planned _ _ = true; kernel_rfl) | exact rfl | exact True.intro | (first | exact key3 | exact zeroB | exact zeroR | exact zeroS | exact ⟨key3, zeroB⟩ | exact ⟨key3, zeroR⟩ | exact ⟨key3, zeroS⟩) | ((try dsimp only [imp, C0, cG, cInt, cPl, cSlot, cPg, gwCodec] at *); (try refine inR64 ?_ ?_) <;> (try simp only [List.length_set, List.length_append, List.length_take, List.length_drop]) <;> omega))
  · exact ⟨h, hi, hR⟩
def pcCounts : Pc Tryd.prog C0 where
  tg := .fn 41
  X := Nat × Nat × Nat × Nat × List (Rw Pg) × Nat × Nat × Nat × Bm × Nat × Int
  args := fun (bc, qc, bg, qg, R, n, c, bm, M, clk, i) => [.ptr 0 0 0, .int .i64 i]
  mem := fun (bc, qc, bg, qg, R, n, c, bm, M, clk, i) => [chpB bc qc n c, gridR bg qg R, ⟨bm, 0, 0, false, none, .mp 3 4 M clk⟩]
  pre := fun (bc, qc, bg, qg, R, n, c, bm, M, clk, i) => n ≤ R.length ∧ (0 ≤ i ∧ i < (n : Int)) ∧ ∀ r ∈ R, Rok r
  res := fun (bc, qc, bg, qg, R, n, c, bm, M, clk, i) => .bool (.tm (isHd i (R.getD i.toNat Rw.nil).l && !mgetB M i))
  mat vs m := match vs with
    | [.ptr a _ _, .int _ i] => match nth m a with
      | ⟨bc, qc, _, _, _, .one (_ :: _ :: _ :: _ :: .sl g _ n c :: .mp p :: _)⟩ => match nth m g, nth m p with
        | ⟨bg, qg, _, _, _, .rows 33 R⟩, ⟨bm, _, _, _, _, .mp 3 4 M clk⟩ => some ((bc, qc, bg, qg, R, n, c, bm, M, clk, i), [a, g, p])
        | _, _ => none
      | _ => none
    | _ => none
  ok := fun (bc, qc, bg, qg, R, n, c, bm, M, clk, i) h => counts_ok bc qc bg qg R n c bm M clk i h.1 h.2.1 h.2.2
/-- A page's key in the table: az it is told, and whether it has one. -/
def keyN (bs ps ss : Int) (m : Me) : Int × Int := if m.kind = 2 ∨ m.kind = 3 then (0, ss) else if m.kind = 5 then (ss, bs) else if m.kind = 6 then (ss + bs, ps) else (0, 0)
@[irreducible] def keyV (bs ps ss : Int) (m : Me) : Int := if m.kind = 4 then ss + bs + ps else IntKind.wrap .i64 ((keyN bs ps ss m).1 + m.key)
@[irreducible] def keyH (bs ps ss : Int) (m : Me) : Bool := if m.kind = 4 then true else decide (0 ≤ m.key) && decide (m.key < (keyN bs ps ss m).2)
theorem key_ok (bc qc : Nat) (bs ps ss : Int) (m : Me) (h : 0 ≤ bs ∧ bs ≤ 64 ∧ 0 ≤ ps ∧ ps ≤ 64 ∧ 0 ≤ ss ∧ ss ≤ 536870912) :
    Tells (C := C0) Tryd.prog (.fn 42) [⟨bc, qc, 15, false, none, .one [.int .i64 bs, .int .i64 ps, .int .i64 ss, .junk, .junk, .junk, .junk, .junk, .junk, .junk, .junk, .junk, .junk, .junk, .junk]⟩] [.ptr 0 0 0, .agg (meE m)]
      (.tup [.int .i64 (keyV bs ps ss m), .bool (.tm (keyH bs ps ss m))]) := by
  refine loc_pc (P := Tryd.prog) (E := ⟨[], [], 71, [(2000000, [61], [])], [], []⟩) (L := []) mix Tryd.func42 rfl (by kernel_rfl) (by kernel_rfl) rfl rfl ?_
  ((conv => (arg 1; reduce)); with_reducible repeat' (first | exact Tr.yes_h | refine Tr.and_h ?_ ?_ | refine Tr.imp_h fun _ => ?_ | refine Tr.all_h fun _ => ?_ | refine Tr.lf_h ?_))
  all_goals try (first | first | (show Region.lexB _ _ = true; kernel_rfl) | (show planned _ _ = true; kernel_rfl) | exact rfl | exact True.intro | (first | exact key3 | exact zeroB | exact zeroR | exact zeroS | exact ⟨key3, zeroB⟩ | exact ⟨key3, zeroR⟩ | exact ⟨key3, zeroS⟩) | ((try dsimp only [imp, C0, cG, cInt, cPl, cSlot, cPg, gwCodec] at *); (try refine inR64 ?_ ?_) <;> (try simp only [List.length_set, List.length_append, List.length_take, List.length_drop]) <;> omega))
  all_goals simp only [decide_eq_true_eq, decide_eq_false_iff_not] at *
  all_goals first
    | contradiction
    | (show _ = keyV bs ps ss m; unfold keyV keyN; simp [*])
    | (show _ = keyH bs ps ss m; unfold keyH keyN; simp [*, SB.val])
def pcKey : Pc Tryd.prog C0 where
  tg := .fn 42
  X := Nat × Nat × Int × Int × Int × Me
  args := fun (bc, qc, bs, ps, ss, m) => [.ptr 0 0 0, .agg (meE m)]
  mem := fun (bc, qc, bs, ps, ss, m) => [⟨bc, qc, 15, false, none, .one [.int .i64 bs, .int .i64 ps, .int .i64 ss, .junk, .junk, .junk, .junk, .junk, .junk, .junk, .junk, .junk, .junk, .junk, .junk]⟩]
  pre := fun (bc, qc, bs, ps, ss, m) => 0 ≤ bs ∧ bs ≤ 64 ∧ 0 ≤ ps ∧ ps ≤ 64 ∧ 0 ≤ ss ∧ ss ≤ 536870912
  res := fun (bc, qc, bs, ps, ss, m) => .tup [.int .i64 (keyV bs ps ss m), .bool (.tm (keyH bs ps ss m))]
  mat vs m := match vs with
    | [.ptr a _ _, .agg [.int _ a1, .int _ a2, .int _ a3, .int _ a4, .int _ a5, .int _ a6]] => match nth m a with
      | ⟨bc, qc, _, _, _, .one (.int _ bs :: .int _ ps :: .int _ ss :: _)⟩ => some ((bc, qc, bs, ps, ss, ⟨a1, a2, a3, a4, a5, a6⟩), [a])
      | _ => none
    | _ => none
  ok := fun (bc, qc, bs, ps, ss, m) h => key_ok bc qc bs ps ss m h
end Go.Vx
