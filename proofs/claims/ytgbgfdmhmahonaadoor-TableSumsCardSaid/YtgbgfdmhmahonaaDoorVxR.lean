/-
  The symbolic evaluator: a region that draws its order and has effects.
  Conditions: none.
-/
import Derived.Test.YtgbgfdmhmahonaaDoorVxO
namespace Go.Vx
open Go
section
variable {P : Program} {ops : Array Oper} {T : Array Bool → World → Prop} {T0 Cl : World → Prop} {Q : Exit → Act → World → Prop} {E : Nat → Bool}

/-- As 'wpAny', with what holds of every world on the way. -/
def wpAT (P : Program) (ops : Array Oper) (T : Array Bool → World → Prop) (Q : Exit → Act → World → Prop) : Nat → Array Bool → Act → World → Prop
  | 0, listed, a, w => T listed w ∧ Region.ready .any ops listed = [] ∧ Q .normal a w
  | fuel + 1, listed, a, w =>
    T listed w ∧ (Region.ready .any ops listed = [] → Q .normal a w) ∧
    ∀ i ∈ Region.ready .any ops listed, wpOp P ops Q i (wpAT P ops T Q fuel (listed.setIfInBounds i true)) a w

theorem wpAT_any : ∀ (fuel : Nat) (listed : Array Bool) (a : Act) (w : World), wpAT P ops T Q fuel listed a w → wpAny P .any ops Q fuel listed a w
  | 0, _, _, _, h => ⟨h.2.1, h.2.2⟩
  | fuel + 1, _, _, _, h => ⟨h.2.1, fun i hi => wpOp_mono (fun a' w' hk => wpAT_any fuel _ a' w' hk) (h.2.2 i hi)⟩
theorem wpAT_T {fuel : Nat} {listed : Array Bool} {a : Act} {w : World} (h : wpAT P ops T Q fuel listed a w) : T listed w := by
  cases fuel with
  | zero => exact h.1
  | succ _ => exact h.1

/-- It gives v in every world of T0. -/
def YieldsT (P : Program) (ops : Array Oper) (T0 : World → Prop) (o : Oper) (v : Value) (a : Act) : Prop :=
  (Region.wanted o (yielded ops a.tmps) = true ∧ ∀ w, T0 w → (execOp a.eval o).run P w = .ok (.value v) w) ∨
  (Region.wanted o (yielded ops a.tmps) = false ∧ v = undef)
theorem YieldsT.of_same {o : Oper} {v : Value} {a a' : Act} (hy : YieldsT P ops T0 o v a) (he : execOp a'.eval o = execOp a.eval o)
    (hw : Region.wanted o (yielded ops a'.tmps) = Region.wanted o (yielded ops a.tmps)) : YieldsT P ops T0 o v a' := by
  unfold YieldsT at *; rw [he, hw]; exact hy
theorem YieldsT.wpOp {i : Nat} {o : Oper} {v : Value} {a : Act} (hi : ops[i]? = some o) (hy : YieldsT P ops T0 o v a) {K : Act → World → Prop} {w : World} (hw' : T0 w) (h : K (a.put o.dst v) w) : wpOp P ops Q i K a w := by
  unfold Go.wpOp
  simp only [hi]
  rcases hy with ⟨hw, hv⟩ | ⟨hw, rfl⟩
  · simp only [hw, if_true, Oper.wp, hv w hw', Oper.upon]; exact .inl h
  · simp only [hw, Bool.false_eq_true, if_false]; exact h

/-- Whatever order is picked: what is quiet comes as it will, what is not leads on. -/
def Hy (P : Program) (ops : Array Oper) (E : Nat → Bool) (T : Array Bool → World → Prop) (Cl : World → Prop) (Q : Exit → Act → World → Prop) : Nat → Array Bool → Act → Prop
  | 0, listed, a => Region.ready .any ops listed = [] ∧ ∀ w, Cl w → Q .normal a w
  | fuel + 1, listed, a =>
    (Region.ready .any ops listed = [] → ∀ w, Cl w → Q .normal a w) ∧
    ∀ i ∈ Region.ready .any ops listed, if E i = true then (∀ w, Cl w → wpOp P ops Q i (wpAT P ops T Q fuel (listed.setIfInBounds i true)) a w)
      else qOp P ops Cl i (Hy P ops E T Cl Q fuel (listed.setIfInBounds i true)) a

theorem getD_set_le {l : Array Bool} {i j : Nat} (h : l.getD j false = true) : (l.setIfInBounds i true).getD j false = true := by
  by_cases hij : i = j
  · subst hij
    rcases Nat.lt_or_ge i l.size with h' | h'
    · simp [h']
    · simp [Array.getElem?_eq_none h'] at h
  · rw [getD_set_ne false hij]; exact h

theorem Hy_sound : ∀ (fuel : Nat) (listed : Array Bool) (a : Act) (w : World), (∀ l w, (∀ j, listed.getD j false = true → l.getD j false = true) → Cl w → T l w) → Hy P ops E T Cl Q fuel listed a → Cl w → wpAT P ops T Q fuel listed a w
  | 0, _, _, _, hCT, h, hw => ⟨hCT _ _ (fun _ h => h) hw, h.1, h.2 _ hw⟩
  | fuel + 1, listed, a, w, hCT, h, hw => by
    refine ⟨hCT _ _ (fun _ h => h) hw, fun h0 => h.1 h0 _ hw, fun i hi => ?_⟩
    have := h.2 i hi
    split at this
    · exact this w hw
    · exact wpOp_of_qOp hw (fun a' w' hw' hk => Hy_sound fuel _ a' w' (fun l w hl hc => hCT l w (fun j hj => hl j (getD_set_le hj)) hc) hk hw') this

theorem wpOp_put' {j : Nat} {oi oj : Oper} {v : Value} (hj : ops[j]? = some oj) (hap : oi.apart ops oj = true) (hsj : ∀ cs b, oj.op ≠ .select cs b)
    (hQ : ∀ c a w, Q (.panic c) (a.put oi.dst v) w → Q (.panic c) a w) {Y : Act → Prop} (hY : ∀ a, Y a → ∀ u, Y (a.put oj.dst u)) (hYd : ∀ a, Y a → ∀ d, Y { a with defers := d :: a.defers }) {K : Act → World → Prop} {a : Act} {w : World}
    (hy : Y a) (h : wpOp P ops Q j K (a.put oi.dst v) w) : wpOp P ops Q j (fun a' w' => Y a' ∧ K (a'.put oi.dst v) w') a w := by
  obtain ⟨h1, h2, h3⟩ := Oper.apart_spec hap
  unfold wpOp at *
  simp only [hj] at *
  rw [wanted_put oj a oi.dst v h1] at h
  split
  · rename_i hw
    simp only [hw, if_true] at h
    rcases h with h | ⟨hasks, hlets⟩
    case inr => exact .inr ⟨by unfold Oper.asks at *; rw [execOp_put oj hsj a oi.dst v h1] at hasks; exact hasks, hlets⟩
    refine .inl ?_
    unfold Oper.wp at *
    rw [execOp_put oj hsj a oi.dst v h1] at h
    generalize (execOp a.eval oj).run P w = r at *
    cases r with
    | ok n w' =>
      cases n <;> simp only [Oper.upon] at h ⊢
      case value u => exact ⟨hY a hy u, by rw [← Act.put_comm a v u h2]; exact h⟩
      case skip => exact ⟨hY a hy _, by rw [← Act.put_comm a v undef h2]; exact h⟩
      case defer d =>
        refine ⟨hY _ (hYd a hy d) _, ?_⟩
        rw [← Act.put_comm _ v undef h2, ← Act.put_defers]
        exact h
      case enter f args =>
        refine Calls.mono h fun e w'' he => ?_
        cases e with
        | returned u => exact ⟨hY a hy u, by rw [← Act.put_comm a v u h2]; exact he⟩
        | panicked c => exact hQ _ _ _ he
        | outgrown => exact he
      case row row args => exact Rows.mono h fun u w'' he => ⟨hY a hy u, by rw [← Act.put_comm a v u h2]; exact he⟩
    | halt x w' =>
      cases x <;> simp only [Oper.upon] at h ⊢
      case panic u => exact hQ _ _ _ h
  · rename_i hw
    simp only [hw] at h
    exact ⟨hY a hy _, by rw [← Act.put_comm a v undef h2]; exact h⟩

/-- A property of the state that an apart operation does not turn goes along. -/
theorem qOp_put' {j : Nat} {oi oj : Oper} {v : Value} (hj : ops[j]? = some oj) (hap : oi.apart ops oj = true)
    (hsj : ∀ cs b, oj.op ≠ .select cs b) {Y : Act → Prop} (hY : ∀ a, Y a → ∀ u, Y (a.put oj.dst u)) {K : Act → Prop} {a : Act}
    (hy : Y a) (h : qOp P ops Cl j K (a.put oi.dst v)) :
    qOp P ops Cl j (fun a' => Y a' ∧ K (a'.put oi.dst v)) a := by
  obtain ⟨h1, h2, h3⟩ := Oper.apart_spec hap
  unfold qOp at *
  simp only [hj] at *
  rw [wanted_put oj a oi.dst v h1] at h
  split
  · rename_i hw
    simp only [hw, if_true] at h
    obtain ⟨u, hu, hn⟩ := h
    refine ⟨u, fun w hw' => ?_, hY a hy u, by rw [← Act.put_comm a v u h2]; exact hn⟩
    have := hu w hw'
    unfold Oper.quietAt at *
    rwa [execOp_put oj hsj a oi.dst v h1] at this
  · rename_i hw
    simp only [hw] at h
    exact ⟨hY a hy _, by rw [← Act.put_comm a v undef h2]; exact h⟩

theorem ready_no {i : Nat} {oj : Oper} {listed : Array Bool} (hi : listed.getD i true = false) (hall : ∀ e ∈ oj.after, Region.binds .any e = true → listed.getD e.on false = true) : ∀ e ∈ oj.after, Region.binds .any e = true → e.on ≠ i := by
  intro e he hb heq
  have h1 := hall e he hb
  rw [heq] at h1
  rcases Nat.lt_or_ge i listed.size with h' | h'
  · simp [h'] at hi h1; rw [hi] at h1; cases h1
  · simp [Array.getElem?_eq_none h'] at h1

theorem YieldsT.qOp (hCT : ∀ w, Cl w → T0 w) {i : Nat} {o : Oper} {v : Value} {a : Act} (hi : ops[i]? = some o) (hy : YieldsT P ops T0 o v a) {K : Act → Prop} (h : K (a.put o.dst v)) : qOp P ops Cl i K a := by
  unfold Go.qOp
  simp only [hi]
  rcases hy with ⟨hw, hv⟩ | ⟨hw, rfl⟩
  · simp only [hw, if_true]; exact ⟨v, fun w hw => by unfold Oper.quietAt; rw [hv w (hCT w hw)]; exact ⟨rfl, rfl⟩, h⟩
  · simp only [hw, Bool.false_eq_true, if_false]; exact h

theorem sub_step {i j : Nat} {oj : Oper} {listed Z : Array Bool} (hZ : ∀ j oj, ops[j]? = some oj → j ≠ i → Z.getD j false = false → ∃ e ∈ oj.after, Region.binds .any e = true ∧ Z.getD e.on false = false)
    (hoj : ops[j]? = some oj) (hji : j ≠ i) (hall : ∀ e ∈ oj.after, Region.binds .any e = true → listed.getD e.on false = true) (hLZ : ∀ j, listed.getD j false = true → Z.getD j false = true) :
    ∀ k, (listed.setIfInBounds j true).getD k false = true → Z.getD k false = true := by
  have hjZ : Z.getD j false = true := by
    cases hz : Z.getD j false with
    | true => rfl
    | false =>
      obtain ⟨e, he, hb, hez⟩ := hZ j oj hoj hji hz
      have := hLZ e.on (hall e he hb)
      rw [hez] at this; cases this
  intro k hk
  by_cases hjk : j = k
  · subst hjk; exact hjZ
  · rw [getD_set_ne false hjk] at hk; exact hLZ k hk

theorem wpAT_first {i : Nat} {oi : Oper} {v : Value} (Z : Array Bool) (hZ : ∀ j oj, ops[j]? = some oj → j ≠ i → Z.getD j false = false → ∃ e ∈ oj.after, Region.binds .any e = true ∧ Z.getD e.on false = false)
    (hT : ∀ l w, (∀ j, l.getD j false = true → Z.getD j false = true) → T l w → T0 w) (hTi : ∀ l w, T (l.setIfInBounds i true) w → T l w) (hi : ops[i]? = some oi) (hsel : ∀ (j : Nat) (o : Oper) cs b, ops[j]? = some o → o.op ≠ .select cs b)
    (hQ : ∀ c a w, Q (.panic c) (a.put oi.dst v) w → Q (.panic c) a w) :
    ∀ (fuel : Nat) (listed : Array Bool) (a : Act) (w : World),
      (∀ j oj, ops[j]? = some oj → j ≠ i → listed.getD j true = false → (∀ e ∈ oj.after, Region.binds .any e = true → e.on ≠ i) → oi.apart ops oj = true) →
      (∀ j, listed.getD j false = true → Z.getD j false = true) → i ∈ Region.ready .any ops listed → YieldsT P ops T0 oi v a →
      wpAT P ops T Q fuel (listed.setIfInBounds i true) (a.put oi.dst v) w → wpAT P ops T Q (fuel + 1) listed a w := by
  intro fuel
  induction fuel with
  | zero =>
    intro listed a w _ hLZ hr hy H
    refine ⟨hTi _ _ H.1, fun h => (by rw [h] at hr; cases hr), fun j hj => ?_⟩
    by_cases hji : j = i
    · subst hji; exact hy.wpOp hi (hT _ _ hLZ (hTi _ _ H.1)) H
    · have := ready_mono hj hji
      rw [H.2.1] at this
      cases this
  | succ fuel ih =>
    intro listed a w hfree hLZ hr hy H
    refine ⟨hTi _ _ H.1, fun h => (by rw [h] at hr; cases hr), fun j hj => ?_⟩
    by_cases hji : j = i
    · subst hji; exact hy.wpOp hi (hT _ _ hLZ (hTi _ _ H.1)) H
    · have h1 := H.2.2 j (ready_mono hj hji)
      obtain ⟨hjun, oj, hoj, hall⟩ := mem_ready.1 hj
      have hnot := ready_no (mem_ready.1 hr).1 hall
      have hap := hfree j oj hoj hji hjun hnot
      have hfree' : ∀ k ok, ops[k]? = some ok → k ≠ i → (listed.setIfInBounds j true).getD k true = false →
          (∀ e ∈ ok.after, Region.binds .any e = true → e.on ≠ i) → oi.apart ops ok = true := fun k ok hk hki hun hno => by
        refine hfree k ok hk hki ?_ hno
        by_cases hjk : j = k
        · subst hjk; exact hjun
        · rw [getD_set_ne true hjk] at hun; exact hun
      have h2 := wpOp_put' hoj hap (fun cs b => hsel j oj cs b hoj) hQ (Y := fun a => YieldsT P ops T0 oi v a)
        (fun a hy u => hy.of_same (execOp_put oi (fun cs b => hsel i oi cs b hi) a oj.dst u (Oper.apart_spec hap).2.2) (wanted_put oi a oj.dst u (Oper.apart_spec hap).2.2))
        (fun a hy d => hy.of_same rfl rfl) hy h1
      refine wpOp_mono (fun a' w' h3 => ih (listed.setIfInBounds j true) a' w' hfree' (sub_step hZ hoj hji hall hLZ) (ready_mono hr (Ne.symm hji)) h3.1 ?_) h2
      rw [Array.setIfInBounds_comm _ _ hji]
      exact h3.2

/-- What computes alone may be taken first. -/
theorem Hy_first_P (hCT : ∀ w, Cl w → T0 w) (Z : Array Bool) {i : Nat} {oi : Oper} {v : Value} (hZ : ∀ j oj, ops[j]? = some oj → j ≠ i → Z.getD j false = false → ∃ e ∈ oj.after, Region.binds .any e = true ∧ Z.getD e.on false = false)
    (hT : ∀ l w, (∀ j, l.getD j false = true → Z.getD j false = true) → T l w → T0 w) (hTi : ∀ l w, T (l.setIfInBounds i true) w → T l w) (hi : ops[i]? = some oi) (hsel : ∀ (j : Nat) (o : Oper) cs b, ops[j]? = some o → o.op ≠ .select cs b) (hEi : E i = false)
    (hQ : ∀ c a w, Q (.panic c) (a.put oi.dst v) w → Q (.panic c) a w) :
    ∀ (fuel : Nat) (listed : Array Bool) (a : Act),
      (∀ j oj, ops[j]? = some oj → j ≠ i → listed.getD j true = false → (∀ e ∈ oj.after, Region.binds .any e = true → e.on ≠ i) → oi.apart ops oj = true) →
      (∀ j, listed.getD j false = true → Z.getD j false = true) → i ∈ Region.ready .any ops listed → YieldsT P ops T0 oi v a →
      Hy P ops E T Cl Q fuel (listed.setIfInBounds i true) (a.put oi.dst v) → Hy P ops E T Cl Q (fuel + 1) listed a := by
  intro fuel
  induction fuel with
  | zero =>
    intro listed a _ _ hr hy H
    refine ⟨fun h => (by rw [h] at hr; cases hr), fun j hj => ?_⟩
    by_cases hji : j = i
    · subst hji; rw [if_neg (by simp [hEi])]; exact hy.qOp hCT hi H
    · have := ready_mono hj hji
      rw [H.1] at this
      cases this
  | succ fuel ih =>
    intro listed a hfree hLZ hr hy H
    refine ⟨fun h => (by rw [h] at hr; cases hr), fun j hj => ?_⟩
    by_cases hji : j = i
    · subst hji; rw [if_neg (by simp [hEi])]; exact hy.qOp hCT hi H
    · have h1 := H.2 j (ready_mono hj hji)
      obtain ⟨hjun, oj, hoj, hall⟩ := mem_ready.1 hj
      have hnot := ready_no (mem_ready.1 hr).1 hall
      have hap := hfree j oj hoj hji hjun hnot
      have hfree' : ∀ k ok, ops[k]? = some ok → k ≠ i → (listed.setIfInBounds j true).getD k true = false →
          (∀ e ∈ ok.after, Region.binds .any e = true → e.on ≠ i) → oi.apart ops ok = true := fun k ok hk hki hun hno => by
        refine hfree k ok hk hki ?_ hno
        by_cases hjk : j = k
        · subst hjk; exact hjun
        · rw [getD_set_ne true hjk] at hun; exact hun
      have hr' := ready_mono hr (Ne.symm hji)
      split at h1
      · rename_i hE
        rw [if_pos hE]
        intro w hw
        have h2 := wpOp_put' hoj hap (fun cs b => hsel j oj cs b hoj) hQ (Y := fun a => YieldsT P ops T0 oi v a)
          (fun a hy u => hy.of_same (execOp_put oi (fun cs b => hsel i oi cs b hi) a oj.dst u (Oper.apart_spec hap).2.2) (wanted_put oi a oj.dst u (Oper.apart_spec hap).2.2))
          (fun a hy d => hy.of_same rfl rfl) hy (h1 w hw)
        refine wpOp_mono (fun a' w' h3 => ?_) h2
        refine wpAT_first Z hZ hT hTi hi hsel hQ fuel _ a' w' hfree' (sub_step hZ hoj hji hall hLZ) hr' h3.1 ?_
        rw [Array.setIfInBounds_comm _ _ hji]
        exact h3.2
      · rename_i hE
        rw [if_neg hE]
        have h2 := qOp_put' hoj hap (fun cs b => hsel j oj cs b hoj) (Y := fun a => YieldsT P ops T0 oi v a)
          (fun a hy u => hy.of_same (execOp_put oi (fun cs b => hsel i oi cs b hi) a oj.dst u (Oper.apart_spec hap).2.2) (wanted_put oi a oj.dst u (Oper.apart_spec hap).2.2)) hy h1
        refine qOp_mono (fun a' h3 => ih (listed.setIfInBounds j true) a' hfree' (sub_step hZ hoj hji hall hLZ) hr' h3.1 ?_) h2
        rw [Array.setIfInBounds_comm _ _ hji]
        exact h3.2

/-- What only reads may be taken first, where nothing with an effect can come ahead of it. -/
theorem Hy_first_Q {i : Nat} {oi : Oper} {v : Value} (hi : ops[i]? = some oi) (hsel : ∀ (j : Nat) (o : Oper) cs b, ops[j]? = some o → o.op ≠ .select cs b) (hEi : E i = false) (Z : Array Bool)
    (hZ : ∀ j oj, ops[j]? = some oj → j ≠ i → Z.getD j false = false → ∃ e ∈ oj.after, Region.binds .any e = true ∧ Z.getD e.on false = false) :
    ∀ (fuel : Nat) (listed : Array Bool) (a : Act),
      (∀ j oj, ops[j]? = some oj → j ≠ i → listed.getD j true = false → (∀ e ∈ oj.after, Region.binds .any e = true → e.on ≠ i) → oi.apart ops oj = true) →
      (∀ j, listed.getD j false = true → Z.getD j false = true) → (∀ j, listed.getD j true = false → Z.getD j false = true → E j = false) →
      i ∈ Region.ready .any ops listed → YieldsIn P ops Cl oi v a →
      Hy P ops E T Cl Q fuel (listed.setIfInBounds i true) (a.put oi.dst v) → Hy P ops E T Cl Q (fuel + 1) listed a := by
  intro fuel
  induction fuel with
  | zero =>
    intro listed a _ _ _ hr hy H
    refine ⟨fun h => (by rw [h] at hr; cases hr), fun j hj => ?_⟩
    by_cases hji : j = i
    · subst hji; rw [if_neg (by simp [hEi])]; exact hy.qOp hi H
    · have := ready_mono hj hji
      rw [H.1] at this
      cases this
  | succ fuel ih =>
    intro listed a hfree hLZ hEZ hr hy H
    refine ⟨fun h => (by rw [h] at hr; cases hr), fun j hj => ?_⟩
    by_cases hji : j = i
    · subst hji; rw [if_neg (by simp [hEi])]; exact hy.qOp hi H
    · have h1 := H.2 j (ready_mono hj hji)
      obtain ⟨hjun, oj, hoj, hall⟩ := mem_ready.1 hj
      have hnot := ready_no (mem_ready.1 hr).1 hall
      have hap := hfree j oj hoj hji hjun hnot
      have hjZ : Z.getD j false = true := by
        cases hz : Z.getD j false with
        | true => rfl
        | false =>
          obtain ⟨e, he, hb, hez⟩ := hZ j oj hoj hji hz
          have := hLZ e.on (hall e he hb)
          rw [hez] at this; cases this
      have hEj := hEZ j hjun hjZ
      rw [if_neg (by simp [hEj])] at h1 ⊢
      have hfree' : ∀ k ok, ops[k]? = some ok → k ≠ i → (listed.setIfInBounds j true).getD k true = false →
          (∀ e ∈ ok.after, Region.binds .any e = true → e.on ≠ i) → oi.apart ops ok = true := fun k ok hk hki hun hno => by
        refine hfree k ok hk hki ?_ hno
        by_cases hjk : j = k
        · subst hjk; exact hjun
        · rw [getD_set_ne true hjk] at hun; exact hun
      have hr' := ready_mono hr (Ne.symm hji)
      have h2 := qOp_put' hoj hap (fun cs b => hsel j oj cs b hoj) (Y := fun a => YieldsIn P ops Cl oi v a)
        (fun a hy u => hy.of_same (execOp_put oi (fun cs b => hsel i oi cs b hi) a oj.dst u (Oper.apart_spec hap).2.2) (wanted_put oi a oj.dst u (Oper.apart_spec hap).2.2)) hy h1
      refine qOp_mono (fun a' h3 => ih (listed.setIfInBounds j true) a' hfree' ?_ ?_ hr' h3.1 ?_) h2
      · intro k hk
        by_cases hjk : j = k
        · subst hjk; exact hjZ
        · rw [getD_set_ne false hjk] at hk; exact hLZ k hk
      · intro k hk hkz
        by_cases hjk : j = k
        · subst hjk; exact hEj
        · rw [getD_set_ne true hjk] at hk; exact hEZ k hk hkz
      · rw [Array.setIfInBounds_comm _ _ hji]
        exact h3.2
end

/-- May an operation have an effect. -/
def kindE : Op → Bool
  | .move _ | .assign _ | .pick _ _ _ | .nilCheck _ | .binOp _ _ _ _ _ | .unOp _ _ _ | .fieldAddr _ _ _ | .field _ _ _ | .indexAddr _ _ _ | .index _ _ _ | .slice _ _ _ _ _ | .makeInterface _ _ | .makeFunc _ _ _ | .extract _ _
  | .typeAssert _ _ _ _ | .convert _ _ _ | .build _ _ | .load _ _ | .lookup _ _ _ _ | .entry _ => false
  | .call c => match c.callee with
    | .builtin .len => false
    | .builtin .cap => false
    | .builtin .min => false
    | .builtin .max => false
    | _ => true
  | _ => true
def kindL : Op → Bool
  | .load _ _ => true
  | .lookup _ _ _ _ => true
  | .entry _ => true
  | _ => false

def kE (ops : Array Oper) (i : Nat) : Bool := ((ops[i]?).map fun o => kindE o.op).getD true
def kL (ops : Array Oper) (i : Nat) : Bool := ((ops[i]?).map fun o => kindL o.op).getD false

/-- What can come up while i does not. -/
def reach (ops : Array Oper) (i : Nat) : Nat → Array Bool → Array Bool
  | 0, Z => Z
  | n + 1, Z => reach ops i n (((Region.ready .any ops Z).filter fun j => !(Nat.beq j i)).foldl (fun Z j => Z.setIfInBounds j true) Z)

def planGo (ops : Array Oper) : Nat → Array Bool → List Tk
  | 0, _ => []
  | n + 1, listed => match Region.ready .any ops listed with
    | [] => []
    | R => match R.find? fun i => !kE ops i && !kL ops i with
      | some i => .p i :: planGo ops n (listed.setIfInBounds i true)
      | none => match R.find? fun i => !kE ops i with
        | some i => .q i :: planGo ops n (listed.setIfInBounds i true)
        | none => match R with
          | i :: _ => .e i :: planGo ops n (listed.setIfInBounds i true)
          | [] => []
def plan (ops : Array Oper) : List Tk := planGo ops ops.size (Array.replicate ops.size false)

def allIx (ops : Array Oper) (f : Nat → Bool) : Bool := (List.range ops.size).all f

/-- The operations that a plan takes as ones with an effect. -/
def effs : List Tk → List Nat
  | [] => []
  | .e i :: r => i :: effs r
  | .f i :: r => i :: effs r
  | _ :: r => effs r
def kW (W : List Nat) (i : Nat) : Bool := W.contains i
def reachOK (ops : Array Oper) (W : List Nat) (i : Nat) (listed Z : Array Bool) : Bool :=
  allIx ops (fun j => Nat.beq j i || Z.getD j false || (((ops[j]?).map fun o => o.after.any fun e => Region.binds .any e && !(Z.getD e.on false)).getD true)) &&
  allIx ops (fun j => (!(listed.getD j false) || Z.getD j false) && (listed.getD j true || !(Z.getD j false) || !kW W j))
def lates : List Tk → List Nat
  | [] => []
  | .f i :: r => i :: lates r
  | _ :: r => lates r
def reachP (ops : Array Oper) (L : List Nat) (late : Bool) (i : Nat) (listed Z : Array Bool) : Bool :=
  allIx ops (fun j => Nat.beq j i || Z.getD j false || (((ops[j]?).map fun o => o.after.any fun e => Region.binds .any e && !(Z.getD e.on false)).getD true)) &&
  allIx ops (fun j => !(listed.getD j false) || Z.getD j false) && (late || L.all fun f => !(Z.getD f false)) && !(L.contains i)
/-- The plan holds. -/
def planOK (ops : Array Oper) (W L : List Nat) : Bool → List Tk → Array Bool → Bool
  | _, [], listed => (Region.ready .any ops listed).isEmpty
  | late, .p i :: r, listed => (Region.ready .any ops listed).contains i && Region.free .any ops listed i && !kW W i &&
      reachP ops L late i listed (if late || L.isEmpty then Array.replicate ops.size true else reach ops i ops.size listed) && planOK ops W L late r (listed.setIfInBounds i true)
  | late, .q i :: r, listed => (Region.ready .any ops listed).contains i && Region.free .any ops listed i && !kW W i && reachOK ops W i listed (reach ops i ops.size listed) && planOK ops W L late r (listed.setIfInBounds i true)
  | late, .e i :: r, listed => (match Region.ready .any ops listed with
      | [j] => Nat.beq j i
      | _ => false) && kW W i && planOK ops W L late r (listed.setIfInBounds i true)
  | _, .f i :: r, listed => (match Region.ready .any ops listed with
      | [j] => Nat.beq j i
      | _ => false) && kW W i && L.contains i && planOK ops W L true r (listed.setIfInBounds i true)

def planned (ops : Array Oper) (l : List Tk) : Bool := Region.noSelect ops && planOK ops (effs l) (lates l) false l (Array.replicate ops.size false) && Nat.beq l.length ops.size
def findPlan (id : Nat) : List (Nat × List Nat × List Tk) → Option (List Nat × List Tk)
  | [] => none
  | (k, l) :: r => if Nat.beq k id then some l else findPlan id r

variable {C : Nat → Codec}

def inL (k : Nat) : List Nat → Bool
  | [] => false
  | x :: r => Nat.beq x k || inL k r
/-- It reads a chunk that nothing in the region turns. -/
def levF (P : Program) (tm : Tm) (m : List (Ck C)) (F : List Nat) (m0 : List (Ck C)) (al : List (Nat × Bool)) (o : Op) : Ans :=
  match o with
  | .load t a => match ev tm m al a with
    | some (.ptr c i f) => if inL c F && Nat.blt c m0.length then match loadSV P m0 t c i f with
        | some (ps, v) => if SV.lt m0.length v then some (ps, v) else none
        | none => none
      else none
    | some (.gp g) => match aggTy P t, (C g).gv with
      | some false, some v => some ([], v)
      | _, _ => none
    | _ => none
  | _ => none
/-- One operation that only computes, or reads what stays. -/
def stepC {P : Program} (E : Env P C) (ops : Array Oper) (F : List Nat) (m0 : List (Ck C)) (o : Oper) (tm : Tm) (m : List (Ck C)) (K : Tm → Tr) : Tr :=
  match gd ops tm o.guard with
  | .lost => .no
  | .skip => match put? E.n tm o.dst [] .undef with
    | some tm' => K tm'
    | none => .no
  | .run cs => match pureP P tm m (alOf cs) o.op with
    | some (ps, v) => match put? E.n tm o.dst cs v with
      | some tm' => asks cs ps (K tm')
      | none => .no
    | none => match levF P tm m F m0 (alOf cs) o.op with
      | some (ps, v) => match put? E.n tm o.dst cs v with
        | some tm' => asks cs ps (K tm')
        | none => .no
      | none => .no
/-- What must stay has stayed. -/
def stays (m0 m : List (Ck C)) : List Nat → Tr → Tr
  | [], X => X
  | c :: r, X => .and (.lf (nth m c = nth m0 c)) (stays m0 m r X)
def inMem (F : List Nat) (m : List (Ck C)) : Tr :=
  match memLt m.length m && F.all fun c => Nat.blt c m.length with
  | true => .yes
  | false => .no
/-- One operation that reads. -/
def stepL {P : Program} (E : Env P C) (ops : Array Oper) (o : Oper) (tm : Tm) (m : List (Ck C)) (K : Tm → Tr) : Tr :=
  match gd ops tm o.guard with
  | .lost => .no
  | .skip => match put? E.n tm o.dst [] .undef with
    | some tm' => K tm'
    | none => .no
  | .run cs => match pureQ E tm m (alOf cs) o.op with
    | some (ps, v) => match put? E.n tm o.dst cs v with
      | some tm' => asks cs ps (K tm')
      | none => .no
    | none => .no

def splan {P : Program} (E : Env P C) (ops : Array Oper) (F : List Nat) (m0 : List (Ck C)) : List Tk → Tm → List (Ck C) → (Tm → List (Ck C) → Tr) → Tr
  | [], tm, m, K => K tm m
  | .p i :: r, tm, m, K => match ops[i]? with
    | some o => stepC E ops F m0 o tm m fun tm' => fTm1 tm' fun tm' => splan E ops F m0 r tm' m K
    | none => .no
  | .q i :: r, tm, m, K => match ops[i]? with
    | some o => stepL E ops o tm m fun tm' => fTm1 tm' fun tm' => splan E ops F m0 r tm' m K
    | none => .no
  | .e i :: r, tm, m, K => match ops[i]? with
    | some o => stepP E ops o tm m fun tm' m' => fTm1 tm' fun tm' => fM m' fun m' => stays m0 m' F (splan E ops F m0 r tm' m' K)
    | none => .no
  | .f i :: r, tm, m, K => match ops[i]? with
    | some o => stepP E ops o tm m fun tm' m' => fTm1 tm' fun tm' => fM m' fun m' => splan E ops [] m0 r tm' m' K
    | none => .no

/-- What stays, in a world. -/
def Stay (F : List Nat) (m0 : List (Ck C)) (w : World) : Prop := (∀ c, inL c F = true → c < m0.length → Ck.ok (ads m0) w (nth m0 c)) ∧ ∀ g v, (C g).gv = some v → w.cell? ⟨g, 0, none⟩ = some (v.va noAd)

theorem stays_ok {m0 m : List (Ck C)} : ∀ {F : List Nat} {X : Tr}, stays m0 m F X → X.holds ∧ ∀ c, inL c F = true → nth m c = nth m0 c
  | [], X, h => ⟨h, fun c hc => by simp [inL] at hc⟩
  | x :: r, X, h => by
    obtain ⟨h1, h2⟩ := stays_ok h.2
    refine ⟨h1, fun c hc => ?_⟩
    simp only [inL, Bool.or_eq_true] at hc
    rcases hc with hc | hc
    · rw [← Nat.eq_of_beq_eq_true hc]; exact h.1
    · exact h2 c hc

theorem Stay.of {S : Sx} {w0 w : World} {F : List Nat} {m0 m : List (Ck C)} (hm : MemOK S w0 w m) (hlt : memLt m0.length m0 = true) (hs : ∀ c, inL c F = true → nth m c = nth m0 c) (ha : ∀ k, k < m0.length → ads m0 k = ads m k) : Stay F m0 w := by
  refine ⟨fun c hc hcl => ?_, fun g v hv => (hm.more.gv g v hv).1⟩
  have h1 := hs c hc
  cases hl : (nth m0 c).live with
  | false => unfold Ck.live at hl; unfold Ck.ok; split at hl <;> simp_all
  | true =>
    have h2 := hm.ok _ (nth_mem (lt_of_live (m := m) (c := c) (by rw [h1]; exact hl)))
    rw [h1] at h2
    exact Ck.ok_ads (fun k hk => (ha k hk).symm) (memLt_mem hlt (nth_mem hcl)) h2

theorem loadSV_ck {P : Program} {w : World} {m : List (Ck C)} {c : Nat} (hc : Ck.ok (ads m) w (nth m c)) {t i f : Nat} {ps : List Prop} {r : SV} (h : loadSV P m t c i f = some (ps, r)) (hp : allOf ps) :
    (loadVar t ((ads m c).at i f)).run P w = .ok (r.va (ads m)) w := by
  exact loadSV_okc hc h hp

theorem stepC_ok {P : Program} {E : Env P C} {ops : Array Oper} {F : List Nat} {m0 : List (Ck C)} {o : Oper} {tm : Tm} {m : List (Ck C)} (hg : GlOK m) (hads : ∀ k, k < m0.length → ads m0 k = ads m k) {K : Tm → Tr} (hs : stepC E ops F m0 o tm m K) {a : Act} (h : ActOK (ads m) E.n tm a) :
    ∃ v tm', YieldsT P ops (Stay F m0) o v a ∧ K tm' ∧ ActOK (ads m) E.n tm' (a.put o.dst v) := by
  unfold stepC at hs
  split at hs <;> try (first | contradiction | exact False.elim hs)
  · rename_i hgd
    have hw := gd_skip h hgd
    split at hs <;> try (first | contradiction | exact False.elim hs)
    rename_i tm' hp
    exact ⟨Go.undef, tm', .inr ⟨hw, rfl⟩, hs, put_ok h hp (by simp) _ rfl⟩
  · rename_i cs hgd
    obtain ⟨hw, hcs⟩ := gd_run h hgd
    have fin : ∀ (ps : List Prop) (v : SV) (tm' : Tm), put? E.n tm o.dst cs v = some tm' → asks cs ps (K tm') → (holds cs = true → allOf ps → ∀ w, Stay F m0 w → (execOp a.eval o).run P w = .ok (.value (v.va (ads m))) w) →
        ∃ v tm', YieldsT P ops (Stay F m0) o v a ∧ K tm' ∧ ActOK (ads m) E.n tm' (a.put o.dst v) := by
      intro ps v tm' hp hs hr
      obtain ⟨hK, hps⟩ := asks_ok hs
      cases e : holds cs with
      | true =>
        refine ⟨v.va (ads m), tm', .inl ⟨by rw [hw, e], fun w hT => hr e (hps e) w hT⟩, hK, put_ok h hp hcs _ ?_⟩
        cases cs with
        | nil => rfl
        | cons c r => simp [mkc, SV.va, e]
      | false =>
        refine ⟨Go.undef, tm', .inr ⟨by rw [hw, e], rfl⟩, hK, put_ok h hp hcs _ ?_⟩
        cases cs with
        | nil => cases e
        | cons c r => simp [mkc, SV.va, e]
    split at hs
    · rename_i ps v hpu
      split at hs <;> try (first | contradiction | exact False.elim hs)
      rename_i tm' hp
      exact fin ps v tm' hp hs fun e hps w _ => pureP_ok h hg (alOf_ok hcs e) hpu hps w
    · split at hs <;> try (first | contradiction | exact False.elim hs)
      rename_i ps v hpu
      split at hs <;> try (first | contradiction | exact False.elim hs)
      rename_i tm' hp
      refine fin ps v tm' hp hs fun e hps w hT => ?_
      obtain ⟨dst, op, ty, pos, after, g⟩ := o
      simp only at hpu
      cases op <;> simp only [levF] at hpu <;> try contradiction
      rename_i t x
      split at hpu <;> try (first | contradiction | exact False.elim hpu)
      · rename_i c i f he
        split at hpu <;> try (first | contradiction | exact False.elim hpu)
        rename_i hcF
        simp only [Bool.and_eq_true] at hcF
        have hcl : c < m0.length := by simpa using hcF.2
        split at hpu <;> try (first | contradiction | exact False.elim hpu)
        rename_i ps' v' hld
        split at hpu <;> try (first | contradiction | exact False.elim hpu)
        rename_i hvl
        simp only [Option.some.injEq, Prod.mk.injEq] at hpu
        obtain ⟨rfl, rfl⟩ := hpu
        have h1 := ev_ok h hg (alOf_ok hcs e) _ _ he
        have h2 := loadSV_ck (hT.1 c hcF.1 hcl) hld hps
        rw [hads c hcl, SV.va_congr hads _ hvl] at h2
        simp [execOp, Instr.loadAt, h1, SV.va, Instr.sureAddr, h2]
      · rename_i g he
        have h1 := ev_ok h hg (alOf_ok hcs e) _ _ he
        split at hpu <;> try (first | contradiction | exact False.elim hpu)
        rename_i v' hag hv
        simp only [Option.some.injEq, Prod.mk.injEq] at hpu
        obtain ⟨_, rfl⟩ := hpu
        have hc := hT.2 g v' hv
        rw [(C g).gflat v' hv noAd (ads m)] at hc
        have h2 := run_loadVar (P := P) (w := w) (a := ⟨g, 0, none⟩) hag (vs := [v'.va (ads m)]) 0 (fun h => by cases h) (fun _ => by simp) (fun j u hj _ h2 => by
          have : j = 0 := by simp at h2; omega
          subst this
          simp only [List.getElem?_cons_zero, Option.some.injEq] at hj
          subst hj
          simpa [Addr.add] using hc)
        simp [execOp, Instr.loadAt, h1, SV.va, Instr.sureAddr, h2]

theorem stepL_ok {P : Program} {S : Sx} {w0 : World} {E : Env P C} {ops : Array Oper} {o : Oper} {tm : Tm} {m : List (Ck C)} {K : Tm → Tr} (hs : stepL E ops o tm m K) {a : Act} (h : ActOK (ads m) E.n tm a) :
    ∃ v tm', YieldsIn P ops (fun w => MemOK S w0 w m) o v a ∧ K tm' ∧ ActOK (ads m) E.n tm' (a.put o.dst v) := by
  unfold stepL at hs
  split at hs <;> try (first | contradiction | exact False.elim hs)
  · rename_i hgd
    have hw := gd_skip h hgd
    split at hs <;> try (first | contradiction | exact False.elim hs)
    rename_i tm' hp
    exact ⟨Go.undef, tm', .inr ⟨hw, rfl⟩, hs, put_ok h hp (by simp) _ rfl⟩
  · rename_i cs hgd
    obtain ⟨hw, hcs⟩ := gd_run h hgd
    split at hs <;> try (first | contradiction | exact False.elim hs)
    rename_i ps v hpu
    split at hs <;> try (first | contradiction | exact False.elim hs)
    rename_i tm' hp
    obtain ⟨hK, hps⟩ := asks_ok hs
    cases e : holds cs with
    | true =>
      refine ⟨v.va (ads m), tm', .inl ⟨by rw [hw, e], fun w hm => ?_⟩, hK, put_ok h hp hcs _ ?_⟩
      · rcases pureQ_ok (S := S) (w0 := w0) h (alOf_ok hcs e) hpu (hps e) w hm with hr | ⟨f, vals, hr, hc⟩
        · unfold Oper.quietAt; rw [hr]; exact ⟨rfl, rfl⟩
        · unfold Oper.quietAt; rw [hr]; exact ⟨rfl, hc⟩
      · cases cs with
        | nil => rfl
        | cons c r => simp [mkc, SV.va, e]
    | false =>
      refine ⟨Go.undef, tm', .inr ⟨by rw [hw, e], rfl⟩, hK, put_ok h hp hcs _ ?_⟩
      cases cs with
      | nil => cases e
      | cons c r => simp [mkc, SV.va, e]

theorem allIx_ok {ops : Array Oper} {f : Nat → Bool} (h : allIx ops f = true) : ∀ j, j < ops.size → f j = true := by
  intro j hj
  exact List.all_eq_true.1 h j (List.mem_range.2 hj)

/-- What holds on the way. -/
def TT (L : List Nat) (F : List Nat) (m0 : List (Ck C)) (l : Array Bool) (w : World) : Prop := ((∃ f ∈ L, l.getD f false = true) ∨ Stay F m0 w) ∧ Stay [] m0 w

theorem reachP_ok {ops : Array Oper} {L : List Nat} {late : Bool} {i : Nat} {listed Z : Array Bool} (hsz : listed.size = ops.size) (h : reachP ops L late i listed Z = true) :
    (∀ j oj, ops[j]? = some oj → j ≠ i → Z.getD j false = false → ∃ e ∈ oj.after, Region.binds .any e = true ∧ Z.getD e.on false = false) ∧
    (∀ j, listed.getD j false = true → Z.getD j false = true) ∧ (late = true ∨ ∀ f ∈ L, Z.getD f false = false) ∧ i ∉ L := by
  unfold reachP at h
  simp only [Bool.and_eq_true, Bool.or_eq_true, Bool.not_eq_true', List.all_eq_true] at h
  obtain ⟨⟨⟨h1, h2⟩, h3⟩, h4⟩ := h
  refine ⟨?_, ?_, h3, by simpa using h4⟩
  · intro j oj hoj hji hz
    have hj : j < ops.size := (Array.getElem?_eq_some_iff.1 hoj).1
    have := allIx_ok h1 j hj
    simp only [hoj, hz, Bool.or_false, Option.map_some, Option.getD_some, Bool.or_eq_true] at this
    rcases this with this | this
    · exact absurd (Nat.eq_of_beq_eq_true this) hji
    · obtain ⟨e, he, hb⟩ := Array.any_eq_true'.1 this
      simp only [Bool.and_eq_true, Bool.not_eq_true'] at hb
      exact ⟨e, he, hb.1, hb.2⟩
  · intro j hj
    have hjl : j < ops.size := by
      rcases Nat.lt_or_ge j ops.size with h' | h'
      · exact h'
      · simp [Array.getElem?_eq_none (by omega : listed.size ≤ j)] at hj
    have := allIx_ok h2 j hjl
    rw [hj] at this
    simpa using this

theorem TT_set {L F : List Nat} {m0 : List (Ck C)} {i : Nat} (hi : i ∉ L) (l : Array Bool) (w : World) (h : TT L F m0 (l.setIfInBounds i true) w) : TT L F m0 l w := by
  refine ⟨?_, h.2⟩
  rcases h.1 with ⟨f, hf, h⟩ | h
  · refine .inl ⟨f, hf, ?_⟩
    rw [getD_set_ne false (fun e => hi (by rw [e]; exact hf))] at h
    exact h
  · exact .inr h
theorem Stay.none {S : Sx} {w0 w : World} {m0 m : List (Ck C)} (hm : MemOK S w0 w m) : Stay [] m0 w := ⟨fun c hc => by simp [inL] at hc, fun g v hv => (hm.more.gv g v hv).1⟩

theorem splan_ok {P : Program} {S : Sx} {w0 : World} {E : Env P C} {ops : Array Oper} {W L F0 : List Nat} {m0 : List (Ck C)} (hm0 : memLt m0.length m0 = true) {Q : Exit → Act → World → Prop} (hQ : ∀ c a w, ¬ Q (.panic c) a w) (hns : Region.noSelect ops = true) :
    ∀ (l : List Tk) (late : Bool) (F : List Nat) (listed : Array Bool) (tm : Tm) (m : List (Ck C)) (K : Tm → List (Ck C) → Tr) (a : Act), listed.size = ops.size → planOK ops W L late l listed = true → splan E ops F m0 l tm m K → ActOK (ads m) E.n tm a → GlOK m →
    (∀ k, k < m0.length → ads m0 k = ads m k) → m0.length ≤ m.length → (∀ c, inL c F = true → nth m c = nth m0 c) → (if late then F = [] ∧ ∃ f ∈ L, listed.getD f false = true else F = F0) →
    (∀ tm' m' a' w', K tm' m' → ActOK (ads m') E.n tm' a' → MemOK S w0 w' m' → (m0.length ≤ m'.length ∧ ∀ k, k < m0.length → ads m0 k = ads m' k) → Q .normal a' w') → Hy P ops (kW W) (TT L F0 m0) (fun w => MemOK S w0 w m) Q l.length listed a
  | [], late, F, listed, tm, m, K, a, _, hp, hs, h, _, hads, hle, _, _, hq => by
    simp only [planOK, List.isEmpty_iff] at hp
    exact ⟨hp, fun w hm => hq _ _ _ _ hs h hm ⟨hle, hads⟩⟩
  | .p i :: r, late, F, listed, tm, m, K, a, hsz, hp, hs, h, hg, hads, hle, hst, hlt, hq => by
    simp only [planOK, Bool.and_eq_true, Bool.not_eq_true'] at hp
    obtain ⟨⟨⟨⟨h1, h2⟩, h3⟩, h5⟩, h4⟩ := hp
    generalize (if (late || L.isEmpty) = true then Array.replicate ops.size true else reach ops i ops.size listed) = Z at h5
    obtain ⟨hZ, hLZ, hLL, hiL⟩ := reachP_ok hsz h5
    simp only [splan] at hs
    split at hs <;> try (first | contradiction | exact False.elim hs)
    rename_i o ho
    obtain ⟨v, tm', hy, hK, h'⟩ := stepC_ok hg hads hs h
    rw [fTm1_eq] at hK
    have hlt' : if late then F = [] ∧ ∃ f ∈ L, (listed.setIfInBounds i true).getD f false = true else F = F0 := by
      cases late with
      | false => exact hlt
      | true => exact ⟨hlt.1, hlt.2.elim fun f hf => ⟨f, hf.1, getD_set_le hf.2⟩⟩
    refine Hy_first_P (fun w hm => Stay.of hm hm0 hst hads) Z hZ ?_ (TT_set hiL) ho (Region.noSelect_spec hns) h3 (fun c a w hc => absurd hc (hQ _ _ _)) r.length listed a (Region.free_spec ho h2) hLZ (by simpa using h1) hy
      (splan_ok hm0 hQ hns r late F _ tm' m K _ (by simp [hsz]) h4 hK h' hg hads hle hst hlt' hq)
    intro l w hl hT
    cases late with
    | true =>
      obtain ⟨rfl, _⟩ := hlt
      exact hT.2
    | false =>
      simp only [Bool.false_eq_true, if_false] at hlt
      subst hlt
      rcases hT.1 with ⟨f, hf, hT⟩ | hT
      · rcases hLL with hLL | hLL
        · cases hLL
        · have := hl f hT
          rw [hLL f hf] at this; cases this
      · exact hT
  | .q i :: r, late, F, listed, tm, m, K, a, hsz, hp, hs, h, hg, hads, hle, hst, hlt, hq => by
    simp only [planOK, Bool.and_eq_true, Bool.not_eq_true'] at hp
    obtain ⟨⟨⟨⟨h1, h2⟩, h3⟩, h56⟩, h4⟩ := hp
    generalize reach ops i ops.size listed = Z at h56
    unfold reachOK at h56
    obtain ⟨h5, h6⟩ := Bool.and_eq_true_iff.1 h56
    simp only [splan] at hs
    split at hs <;> try (first | contradiction | exact False.elim hs)
    rename_i o ho
    obtain ⟨v, tm', hy, hK, h'⟩ := stepL_ok (S := S) (w0 := w0) hs h
    rw [fTm1_eq] at hK
    have hlt' : if late then F = [] ∧ ∃ f ∈ L, (listed.setIfInBounds i true).getD f false = true else F = F0 := by
      cases late with
      | false => exact hlt
      | true => exact ⟨hlt.1, hlt.2.elim fun f hf => ⟨f, hf.1, getD_set_le hf.2⟩⟩
    refine Hy_first_Q ho (Region.noSelect_spec hns) h3 Z ?_ r.length listed a (Region.free_spec ho h2) ?_ ?_ (by simpa using h1) hy
      (splan_ok hm0 hQ hns r late F _ tm' m K _ (by simp [hsz]) h4 hK h' hg hads hle hst hlt' hq)
    · intro j oj hoj hji hz
      have hj : j < ops.size := (Array.getElem?_eq_some_iff.1 hoj).1
      have := allIx_ok h5 j hj
      simp only [hoj, hz, Bool.or_false, Option.map_some, Option.getD_some, Bool.or_eq_true] at this
      rcases this with this | this
      · exact absurd (Nat.eq_of_beq_eq_true this) hji
      · obtain ⟨e, he, hb⟩ := Array.any_eq_true'.1 this
        simp only [Bool.and_eq_true, Bool.not_eq_true'] at hb
        exact ⟨e, he, hb.1, hb.2⟩
    · intro j hj
      have hjl : j < ops.size := by
        rcases Nat.lt_or_ge j ops.size with h' | h'
        · exact h'
        · simp [Array.getElem?_eq_none (by omega : listed.size ≤ j)] at hj
      have := (Bool.and_eq_true_iff.1 (allIx_ok h6 j hjl)).1
      rw [hj] at this
      simpa using this
    · intro j hj hz
      have hjl : j < ops.size := by
        rcases Nat.lt_or_ge j ops.size with h' | h'
        · exact h'
        · simp [Array.getElem?_eq_none (by omega : listed.size ≤ j)] at hj
      have := (Bool.and_eq_true_iff.1 (allIx_ok h6 j hjl)).2
      rw [hj, hz] at this
      simpa using this
  | .e i :: r, late, F, listed, tm, m, K, a, hsz, hp, hs, h, hg, hads, hle, hst, hlt, hq => by
    simp only [planOK, Bool.and_eq_true] at hp
    obtain ⟨⟨h1, h2⟩, h4⟩ := hp
    have hr : Region.ready .any ops listed = [i] := by
      split at h1
      · rename_i j hj; rw [hj, Nat.eq_of_beq_eq_true h1]
      · cases h1
    simp only [splan] at hs
    split at hs <;> try (first | contradiction | exact False.elim hs)
    rename_i o ho
    have hlt' : if late then F = [] ∧ ∃ f ∈ L, (listed.setIfInBounds i true).getD f false = true else F = F0 := by
      cases late with
      | false => exact hlt
      | true => exact ⟨hlt.1, hlt.2.elim fun f hf => ⟨f, hf.1, getD_set_le hf.2⟩⟩
    refine ⟨fun h0 => (by rw [hr] at h0; cases h0), fun j hj => ?_⟩
    rw [hr] at hj
    have hji : j = i := by simpa using hj
    subst hji
    rw [if_pos h2]
    intro w hm
    obtain ⟨g1, g2⟩ := stepP_ok (Q := Q) (next := wpAT P ops (TT L F0 m0) Q r.length (listed.setIfInBounds j true)) hs h hm
      (fun tm' m' a' w' hk h' hm' hads' => by
        simp only [fTm1_eq, fM_eq] at hk
        obtain ⟨hk', hst'⟩ := stays_ok hk
        have hads2 : ∀ k, k < m0.length → ads m0 k = ads m' k := fun k hkl => (hads k hkl).trans (hads'.2 k (by omega))
        refine Hy_sound _ _ _ _ ?_ (splan_ok hm0 hQ hns r late F _ tm' m' K a' (by simp [hsz]) h4 hk' h' hm'.glob hads2 (Nat.le_trans hle hads'.1) hst' hlt' hq) hm'
        intro l w hl hm
        cases late with
        | true =>
          obtain ⟨_, f, hf, hff⟩ := hlt'
          exact ⟨.inl ⟨f, hf, hl f hff⟩, Stay.none hm⟩
        | false =>
          simp only [Bool.false_eq_true, if_false] at hlt
          subst hlt
          exact ⟨.inr (Stay.of hm hm0 hst' hads2), Stay.none hm⟩)
    unfold wpOp
    simp only [ho]
    split
    · rename_i hw; exact .inl (g1 hw)
    · rename_i hw; exact g2 (by simpa using hw)
  | .f i :: r, late, F, listed, tm, m, K, a, hsz, hp, hs, h, hg, hads, hle, hst, hlt, hq => by
    simp only [planOK, Bool.and_eq_true] at hp
    obtain ⟨⟨⟨h1, h2⟩, h3⟩, h4⟩ := hp
    have hr : Region.ready .any ops listed = [i] := by
      split at h1
      · rename_i j hj; rw [hj, Nat.eq_of_beq_eq_true h1]
      · cases h1
    simp only [splan] at hs
    split at hs <;> try (first | contradiction | exact False.elim hs)
    rename_i o ho
    have hil : i < listed.size := by rw [hsz]; exact (Array.getElem?_eq_some_iff.1 ho).1
    have hlt' : ∃ f ∈ L, (listed.setIfInBounds i true).getD f false = true := ⟨i, by simpa using h3, by simp [hil]⟩
    refine ⟨fun h0 => (by rw [hr] at h0; cases h0), fun j hj => ?_⟩
    rw [hr] at hj
    have hji : j = i := by simpa using hj
    subst hji
    rw [if_pos h2]
    intro w hm
    obtain ⟨g1, g2⟩ := stepP_ok (Q := Q) (next := wpAT P ops (TT L F0 m0) Q r.length (listed.setIfInBounds j true)) hs h hm
      (fun tm' m' a' w' hk h' hm' hads' => by
        simp only [fTm1_eq, fM_eq] at hk
        have hads2 : ∀ k, k < m0.length → ads m0 k = ads m' k := fun k hkl => (hads k hkl).trans (hads'.2 k (by omega))
        refine Hy_sound _ _ _ _ ?_ (splan_ok hm0 hQ hns r true [] _ tm' m' K a' (by simp [hsz]) h4 hk h' hm'.glob hads2 (Nat.le_trans hle hads'.1) (fun c hc => by simp [inL] at hc) ⟨rfl, hlt'⟩ hq) hm'
        intro l w hl hm
        obtain ⟨f, hf, hff⟩ := hlt'
        exact ⟨.inl ⟨f, hf, hl f hff⟩, Stay.none hm⟩)
    unfold wpOp
    simp only [ho]
    split
    · rename_i hw; exact .inl (g1 hw)
    · rename_i hw; exact g2 (by simpa using hw)

/-- A region that draws. -/
theorem draw_ok {P : Program} (hmix : P.follows .mixedOrders = true) {S : Sx} {w0 w : World} {E : Env P C} {ops : Array Oper} {id : Nat} {Q : Exit → Act → World → Prop} {tm : Tm} {m : List (Ck C)} {K : Tm → List (Ck C) → Tr} {a : Act}
    {F : List Nat} {pl : List Tk} (hp : planned ops pl = true) (hin : inMem F m) (hs : splan E ops F m pl tm m K) (h : ActOK (ads m) E.n tm a) (hm : MemOK S w0 w m)
    (hq : ∀ tm' m' a' w', K tm' m' → ActOK (ads m') E.n tm' a' → MemOK S w0 w' m' → Q .normal a' w') : (Code.region id ops true).wp P Q a w := by
  unfold planned at hp
  simp only [Bool.and_eq_true] at hp
  obtain ⟨⟨h1, h2⟩, h3⟩ := hp
  have h3 := Nat.eq_of_beq_eq_true h3
  have hm0 : memLt m.length m = true := by
    unfold inMem at hin
    split at hin
    · rename_i hc; exact (Bool.and_eq_true_iff.1 hc).1
    · exact hin.elim
  have key : (Code.region id ops true).wp P (fun e a w => match e with | .normal => Q .normal a w | _ => False) a w := by
    refine wp_region_any hmix ?_
    have := splan_ok (S := S) (w0 := w0) hm0 (Q := fun e a w => match e with | .normal => Q .normal a w | _ => False) (fun c a w hc => hc) (L := lates pl) (F0 := F) h1 pl false F _ tm m K a (by simp) h2 hs h hm.glob (fun _ _ => rfl) (Nat.le_refl _) (fun _ _ => rfl) rfl (fun tm' m' a' w' hk h' hm' _ => hq _ _ _ _ hk h' hm')
    rw [h3] at this
    exact wpAT_any _ _ _ _ (Hy_sound _ _ _ _ (fun l w _ hm => ⟨.inr (Stay.of hm hm0 (fun _ _ => rfl) (fun _ _ => rfl)), Stay.none hm⟩) this hm.drew)
  refine wp_mono key fun e a w he => ?_
  cases e <;> first | exact he | exact he.elim

end Go.Vx
