/-
  The symbolic evaluator, thirteenth part: the chunks ahead of a call and behind it.
  Conditions: none.
-/
import Derived.Test.YtgbgfdmhmahonaaDoorVxL
set_option linter.unusedSimpArgs false
namespace Go.Vx
open Go
variable {C : Nat → Codec}

theorem cksEq_ok {ρ : List Nat} {M : List (Ck C)} : ∀ {r : List Nat} {s : List (Ck C)} {ps : List Prop}, cksEq ρ M r s = some ps → allOf ps →
    r.length = s.length ∧ ∀ k, k < s.length → rn r k < M.length ∧ ∃ qs, ckEq ρ (nth s k) (nth M (rn r k)) = some qs ∧ allOf qs
  | [], [], _, _, _ => ⟨rfl, fun k hk => by simp at hk⟩
  | [], _ :: _, _, h, _ => by simp [cksEq] at h
  | _ :: _, [], _, h, _ => by simp [cksEq] at h
  | p :: r, a :: s, ps, h, hp => by
    simp only [cksEq] at h
    split at h
    · rename_i hlt
      have hlt : p < M.length := by simpa using hlt
      split at h <;> try contradiction
      rename_i x y hx hy
      simp only [Option.some.injEq] at h; subst h
      have hxy := (allOf_append x y).1 hp
      have ih := cksEq_ok hy hxy.2
      refine ⟨by simp [ih.1], fun k hk => ?_⟩
      cases k with
      | zero => exact ⟨hlt, x, hx, hxy.1⟩
      | succ k => exact ih.2 k (by simpa using hk)
    · cases h

structure CkEq (ρ : List Nat) (a b : Ck C) : Prop where
  block : a.block = b.block
  base : a.base = b.base
  sz : a.sz = b.sz
  wr : a.wr = true → b.wr = true
  gl : ∀ g, a.gl = some g → b.gl = some g
  live : a.live = true → b.live = true
  cells : ∃ qs, cellsEq ρ a.cells b.cells = some qs ∧ allOf qs

theorem ckEq_ok {ρ : List Nat} {a b : Ck C} {qs : List Prop} (h : ckEq ρ a b = some qs) (hp : allOf qs) : CkEq ρ a b := by
  unfold ckEq at h
  split at h
  · rename_i hc
    simp only [Bool.and_eq_true] at hc
    obtain ⟨⟨h1, h2⟩, h3⟩ := hc
    cases hce : cellsEq ρ a.cells b.cells with
    | none => simp [hce] at h
    | some ps =>
      simp only [hce, Option.map_some, Option.some.injEq] at h; subst h
      obtain ⟨e1, e2, e3⟩ := hp
      refine ⟨e1, e2, Nat.eq_of_beq_eq_true h1, fun hw => ?_, fun g hg => ?_, fun hl => ?_, _, hce, e3⟩
      · rw [hw] at h2; exact h2
      · rw [hg] at h3
        cases hb : b.gl with
        | none => simp [hb, glEq] at h3
        | some g' => simp only [hb, glEq] at h3; rw [Nat.eq_of_beq_eq_true h3]
      · unfold Ck.live at hl ⊢
        unfold cellsEq at hce
        split at hce
        · rename_i heq1 heq2; rw [heq2]
        · rename_i heq1 heq2; rw [heq2]
        · rename_i heq1 heq2; rw [heq2]
        · rename_i heq1 heq2; rw [heq2]
        · rename_i heq1; rw [heq1] at hl; cases hl
        · cases hce
  · cases h

theorem apartB_ok : ∀ {r : List Nat} {s : List (Ck C)}, apartB r s = true → r.length = s.length → ∀ i j, i < s.length → j < s.length → i ≠ j → (nth s i).wr = true → rn r i ≠ rn r j
  | [], [], _, _, i, _, hi, _, _, _ => by simp at hi
  | [], _ :: _, _, h, _, _, _, _, _, _ => by simp at h
  | _ :: _, [], _, h, _, _, _, _, _, _ => by simp at h
  | p :: r, a :: s, h, hl, i, j, hi, hj, hij, hw => by
    have notIn_ok : ∀ (r : List Nat), notIn p r = true → ∀ k, k < r.length → rn r k ≠ p := by
      intro r
      induction r with
      | nil => intro _ k hk; simp at hk
      | cons x r ih =>
        intro h k hk
        simp only [notIn, Bool.and_eq_true, Bool.not_eq_true'] at h
        cases k with
        | zero => exact Nat.ne_of_beq_eq_false h.1
        | succ k => exact ih h.2 k (by simpa using hk)
    have wrNot_ok : ∀ (r : List Nat) (s : List (Ck C)), apartB.wrNot p r s = true → ∀ k, k < r.length → k < s.length → (nth s k).wr = true → rn r k ≠ p := by
      intro r
      induction r with
      | nil => intro s _ k hk; simp at hk
      | cons x r ih =>
        intro s h k hk hks hwk
        cases s with
        | nil => simp at hks
        | cons y s =>
          simp only [apartB.wrNot, Bool.and_eq_true] at h
          cases k with
          | zero =>
            simp only [nth] at hwk
            have := h.1
            rw [hwk] at this
            simp only [if_true, Bool.not_eq_true'] at this
            exact Nat.ne_of_beq_eq_false this
          | succ k => exact ih s h.2 k (by simpa using hk) (by simpa using hks) hwk
    simp only [apartB, Bool.and_eq_true] at h
    have hl' : r.length = s.length := by simpa using hl
    cases i with
    | zero =>
      cases j with
      | zero => exact absurd rfl hij
      | succ j =>
        simp only [nth] at hw
        have h1 := h.1
        rw [hw] at h1
        simp only [if_true] at h1
        exact (notIn_ok r h1 j (by simp at hj; omega)).symm
    | succ i =>
      cases j with
      | zero =>
        have h1 := h.1
        simp only [nth] at hw
        show rn r i ≠ p
        cases ha : a.wr with
        | true => rw [ha] at h1; exact notIn_ok r (by simpa using h1) i (by simp at hi; omega)
        | false => rw [ha] at h1; exact wrNot_ok r s (by simpa using h1) i (by simp at hi; omega) (by simpa using hi) hw
      | succ j => exact apartB_ok h.2 hl' i j (by simpa using hi) (by simpa using hj) (fun e => hij (by omega)) hw

/-- What the call finds. -/
theorem MemOK.enter {S : Sx} {w0 w : World} {M : List (Ck C)} (h : MemOK S w0 w M) {ρ : List Nat} {m : List (Ck C)} (hlt : memLt m.length m = true)
    (hk : ∀ k, k < m.length → rn ρ k < M.length ∧ CkEq ρ (nth m k) (nth M (rn ρ k))) (hap : ∀ i j, i < m.length → j < m.length → i ≠ j → (nth m i).wr = true → rn ρ i ≠ rn ρ j) :
    MemOK (wrS m) w w m ∧ ∀ c, c < m.length → ads m c = ads M (rn ρ c) := by
  have hads : ∀ c, c < m.length → ads m c = ads M (rn ρ c) := by
    intro c hc
    have := (hk c hc).2
    simp [ads, Ck.ad, this.block, this.base, this.sz]
  have hno : ∀ k, k < w0.heap.size → ¬ S.set k → ¬ (wrS m).set k := by
    rintro k hk0 hns ⟨c, hc, hw, rfl⟩
    obtain ⟨j, hjl, rfl⟩ := mem_nth hc
    obtain ⟨hb, he⟩ := hk j hjl
    rw [he.block] at hk0 hns
    exact hns (h.inS _ (nth_mem hb) (he.wr hw) hk0)
  have hmore : More (wrS m) w w m := by
    refine ⟨fun g v hv => ?_, fun g p hp => ?_, fun p hp => (by cases hp), List.nodup_nil⟩
    · obtain ⟨h1, h2, h3⟩ := h.more.gv g v hv
      exact ⟨h1, Nat.lt_of_lt_of_le h2 h.size, hno g h2 h3⟩
    · obtain ⟨h1, h2, h3⟩ := h.more.gp g p hp
      exact ⟨h1, Nat.lt_of_lt_of_le h2 h.size, hno _ h2 h3⟩
  refine ⟨⟨rfl, rfl, rfl, Nat.le_refl _, fun _ _ _ => rfl, fun c hc hw _ => ⟨c, hc, hw, rfl⟩, ?_, ?_, ?_, ?_, ?_, hmore⟩, hads⟩
  · intro c hc
    obtain ⟨k, hkl, rfl⟩ := mem_nth hc
    obtain ⟨hb, he⟩ := hk k hkl
    have hok := h.ok _ (nth_mem hb)
    have had : (nth m k).ad = (nth M (rn ρ k)).ad := by simp [Ck.ad, he.block, he.base, he.sz]
    obtain ⟨qs, hq, hqs⟩ := he.cells
    have hltk := memLt_mem hlt (nth_mem hkl)
    unfold Ck.ok
    rw [had]
    split
    · rename_i t l hcl
      rw [hcl] at hq
      cases hcM : (nth M (rn ρ k)).cells with
      | rows t' l' =>
        rw [hcM] at hq
        simp only [cellsEq] at hq
        split at hq
        · rename_i htt
          simp only [Option.some.injEq] at hq; subst hq
          obtain ⟨e, _⟩ := hqs
          subst htt
          rw [castL_self] at e; subst e
          simp only [Ck.ok, hcM] at hok
          refine ⟨by rw [he.sz]; exact hok.1, fun i hi f hf => ?_⟩
          rw [hok.2 i hi f hf, enc_flat (C t') (ads M) (ads m) _ f hf]
        · cases hq
      | one _ => rw [hcM] at hq; simp [cellsEq] at hq
      | mp _ _ _ _ => rw [hcM] at hq; simp [cellsEq] at hq
      | it _ _ _ => rw [hcM] at hq; simp [cellsEq] at hq
      | dead => rw [hcM] at hq; simp [cellsEq] at hq
    · rename_i vs hcl
      rw [hcl] at hq
      cases hcM : (nth M (rn ρ k)).cells with
      | rows t' l' => rw [hcM] at hq; simp [cellsEq] at hq
      | one vs' =>
        rw [hcM] at hq
        simp only [cellsEq] at hq
        simp only [Ck.ok, hcM] at hok
        have h1 := onesEq_ok (ads M) w (fun f => (nth M (rn ρ k)).ad.at 0 f) _ _ _ hq hqs
        have hrl : ∀ vs : List SV, (SV.rens ρ vs).length = vs.length := by
          intro vs; induction vs with
          | nil => rfl
          | cons v r ih => simp [SV.rens, ih]
        rw [hrl] at h1
        refine ⟨by rw [he.sz, hok.1, h1.1], fun f hf => ?_⟩
        have h2 := h1.2 f (by omega) (hok.2 f (by omega))
        have hrg : ∀ (vs : List SV) (f : Nat), (SV.rens ρ vs).getD f .junk = (vs.getD f .junk).ren ρ := by
          intro vs
          induction vs with
          | nil => intro f; rfl
          | cons v r ih => intro f; cases f with
            | zero => rfl
            | succ f => exact ih f
        rw [hrg] at h2
        have hv : SV.lt m.length (vs.getD f .junk) = true := by
          unfold Ck.lt at hltk; rw [hcl] at hltk; exact SV.lts_getD hltk f
        have e := SV.va_ren hads _ hv
        revert h2 e
        generalize vs.getD f .junk = v
        intro h2 e
        cases v <;> simp only [cellIs, SV.ren] at h2 ⊢ <;> first | exact h2 | (rw [e]; exact h2)
      | mp _ _ _ _ => rw [hcM] at hq; simp [cellsEq] at hq
      | it _ _ _ => rw [hcM] at hq; simp [cellsEq] at hq
      | dead => rw [hcM] at hq; simp [cellsEq] at hq
    · rename_i tk tv l clk hcl
      rw [hcl] at hq
      cases hcM : (nth M (rn ρ k)).cells with
      | mp tk' tv' l' clk' =>
        rw [hcM] at hq
        simp only [cellsEq] at hq
        split at hq
        · rename_i htt
          simp only [Option.some.injEq] at hq; subst hq
          obtain ⟨e1, e2, _⟩ := hqs
          obtain ⟨rfl, rfl⟩ := htt
          have e1 : l = l' := e1
          subst e1; subst e2
          simp only [Ck.ok, hcM] at hok
          rw [he.block]; exact hok
        · cases hq
      | rows _ _ => rw [hcM] at hq; simp [cellsEq] at hq
      | one _ => rw [hcM] at hq; simp [cellsEq] at hq
      | it _ _ _ => rw [hcM] at hq; simp [cellsEq] at hq
      | dead => rw [hcM] at hq; simp [cellsEq] at hq
    · rename_i mc seen clk hcl
      rw [hcl] at hq
      cases hcM : (nth M (rn ρ k)).cells with
      | it mc' seen' clk' =>
        rw [hcM] at hq
        simp only [cellsEq] at hq
        split at hq
        · rename_i hmc
          have hmc := Nat.eq_of_beq_eq_true hmc
          simp only [Option.some.injEq] at hq; subst hq
          obtain ⟨e1, e2, _⟩ := hqs
          subst e1; subst e2; subst hmc
          simp only [Ck.ok, hcM] at hok
          have hv : mc < m.length := by unfold Ck.lt at hltk; rw [hcl] at hltk; simpa using hltk
          rw [he.block, hads mc hv]; exact hok
        · cases hq
      | rows _ _ => rw [hcM] at hq; simp [cellsEq] at hq
      | one _ => rw [hcM] at hq; simp [cellsEq] at hq
      | mp _ _ _ _ => rw [hcM] at hq; simp [cellsEq] at hq
      | dead => rw [hcM] at hq; simp [cellsEq] at hq
    · trivial
  · intro c hc hw hl a ha
    obtain ⟨k, hkl, rfl⟩ := mem_nth hc
    obtain ⟨hb, he⟩ := hk k hkl
    exact h.wrok _ (nth_mem hb) (he.wr hw) (he.live hl) a (by rw [ha, he.block])
  · intro i j hi hj hij hw hli hlj
    obtain ⟨hbi, hei⟩ := hk i hi
    obtain ⟨hbj, hej⟩ := hk j hj
    rw [hei.block, hej.block]
    exact h.apart _ _ hbi hbj (hap i j hi hj hij hw) (hei.wr hw) (hei.live hli) (hej.live hlj)
  · intro c hc
    obtain ⟨k, hkl, rfl⟩ := mem_nth hc
    obtain ⟨hb, he⟩ := hk k hkl
    rw [he.block]; exact h.lt _ (nth_mem hb)
  · intro c hc g hg
    obtain ⟨k, hkl, rfl⟩ := mem_nth hc
    obtain ⟨hb, he⟩ := hk k hkl
    rw [he.block, he.base]; exact h.glob _ (nth_mem hb) g (he.gl g hg)

theorem backU_spec (ρ' : List Nat) : ∀ (r : List Nat) (m out M : List (Ck C)), r.length = m.length → m.length ≤ out.length → (∀ k, k < m.length → rn r k < M.length) →
    (∀ i j, i < m.length → j < m.length → i ≠ j → (nth m i).wr = true → rn r i ≠ rn r j) →
    (backU ρ' r m out M).length = M.length ∧ ∀ j, (∃ k, k < m.length ∧ (nth m k).wr = true ∧ rn r k = j ∧ nth (backU ρ' r m out M) j = { nth M j with cells := renCells ρ' (nth out k).cells }) ∨
      ((∀ k, k < m.length → (nth m k).wr = true → rn r k ≠ j) ∧ nth (backU ρ' r m out M) j = nth M j)
  | [], [], out, M, _, _, _, _ => by
    have e : backU ρ' [] [] out M = M := by cases out <;> rfl
    rw [e]; exact ⟨rfl, fun j => .inr ⟨fun k hk => by simp at hk, rfl⟩⟩
  | [], _ :: _, _, _, h, _, _, _ => by simp at h
  | _ :: _, [], _, _, h, _, _, _ => by simp at h
  | p :: r, a :: m, [], M, _, h, _, _ => by simp at h
  | p :: r, a :: m, o :: out, M, hl, ho, hlt, hap => by
    have hp : p < M.length := hlt 0 (by simp)
    obtain ⟨M1, hM1⟩ : ∃ M1, M1 = (match a.wr with | true => setCk M p (renCells ρ' o.cells) | false => M) := ⟨_, rfl⟩
    have hlen1 : M1.length = M.length := by rw [hM1]; split <;> simp [length_setCk]
    have ih := backU_spec ρ' r m out M1 (by simpa using hl) (by simpa using ho) (fun k hk => by rw [hlen1]; exact hlt (k + 1) (by simpa using hk))
      (fun i j hi hj hij hw => hap (i + 1) (j + 1) (by simpa using hi) (by simpa using hj) (by omega) hw)
    have e : backU ρ' (p :: r) (a :: m) (o :: out) M = backU ρ' r m out M1 := by rw [hM1]; rfl
    rw [e]
    refine ⟨by rw [ih.1, hlen1], fun j => ?_⟩
    rcases ih.2 j with ⟨k, hk, hw, hj, he⟩ | ⟨hno, he⟩
    · left
      refine ⟨k + 1, by simpa using hk, hw, hj, ?_⟩
      have hM1j : nth M1 j = nth M j := by
        rw [hM1]
        split
        · rename_i ha
          rw [nth_setCk, if_neg]
          rintro ⟨hjp, _⟩
          exact hap 0 (k + 1) (by simp) (by simpa using hk) (by omega) ha (by show p = rn r k; rw [hj, hjp])
        · rfl
      rw [he, hM1j]; rfl
    · cases ha : a.wr with
      | false =>
        right
        refine ⟨fun k hk hw => ?_, by rw [he, hM1, ha]⟩
        cases k with
        | zero => simp only [nth] at hw; rw [ha] at hw; cases hw
        | succ k => exact hno k (by simpa using hk) hw
      | true =>
        by_cases hjp : j = p
        · left
          refine ⟨0, by simp, ha, hjp.symm, ?_⟩
          rw [he, hM1, ha]
          simp only
          rw [nth_setCk, if_pos ⟨hjp, hp⟩, hjp]; rfl
        · right
          refine ⟨fun k hk hw => ?_, by rw [he, hM1, ha]; simp only; rw [nth_setCk, if_neg (fun e => hjp e.1)]⟩
          cases k with
          | zero => exact fun e => hjp e.symm
          | succ k => exact hno k (by simpa using hk) hw

theorem backN_spec (ρ' : List Nat) : ∀ (m out : List (Ck C)), m.length ≤ out.length → (backN ρ' m out).length = out.length - m.length ∧ ∀ k, k < out.length - m.length → nth (backN ρ' m out) k = renCk ρ' (nth out (m.length + k))
  | [], out, _ => by
    have hmap : ∀ (l : List (Ck C)) (k : Nat), k < l.length → nth (l.map (renCk ρ')) k = renCk ρ' (nth l k) := by
      intro l
      induction l with
      | nil => intro k hk; simp at hk
      | cons x r ih => intro k hk; cases k with
        | zero => rfl
        | succ k => exact ih k (by simpa using hk)
    refine ⟨by simp [backN], fun k hk => ?_⟩
    simp only [backN, List.length_nil, Nat.zero_add]
    exact hmap out k (by simpa using hk)
  | _ :: _, [], h => by simp at h
  | a :: m, o :: out, h => by
    have ih := backN_spec ρ' m out (by simpa using h)
    refine ⟨by simp [backN, ih.1], fun k hk => ?_⟩
    simp only [backN]
    rw [ih.2 k (by simpa using hk)]
    simp only [List.length_cons]
    rw [show m.length + 1 + k = (m.length + k) + 1 by omega]; rfl

theorem rn_upFrom : ∀ (n k j : Nat), j < k → rn (upFrom n k) j = n + j
  | _, 0, _, h => by simp at h
  | n, k + 1, 0, _ => rfl
  | n, k + 1, j + 1, h => by simp only [upFrom, rn]; rw [rn_upFrom (n + 1) k j (by omega)]; omega
theorem length_upFrom : ∀ (n k : Nat), (upFrom n k).length = k
  | _, 0 => rfl
  | n, k + 1 => by simp [upFrom, length_upFrom]
theorem rn_append : ∀ (a b : List Nat) (j : Nat), rn (a ++ b) j = if j < a.length then rn a j else rn b (j - a.length)
  | [], b, j => by simp
  | x :: a, b, 0 => by simp [rn]
  | x :: a, b, j + 1 => by simp [rn, rn_append a b j]

theorem renCk_live (ρ : List Nat) (c : Ck C) : (renCk ρ c).live = c.live := by
  cases c with
  | mk b ba s w g cs => cases cs <;> rfl

/-- What stands when the call is done. -/
theorem MemOK.back {S : Sx} {w0 w w' : World} {M : List (Ck C)} (h : MemOK S w0 w M) (hM : memLt M.length M = true) {ρ : List Nat} {m out : List (Ck C)} (hlen : ρ.length = m.length)
    (hk : ∀ k, k < m.length → rn ρ k < M.length ∧ CkEq ρ (nth m k) (nth M (rn ρ k))) (hap : ∀ i j, i < m.length → j < m.length → i ≠ j → (nth m i).wr = true → rn ρ i ≠ rn ρ j)
    (hwl : ∀ c ∈ m, c.wr = true → c.live = true) (ho : MemOK (wrS m) w w' out) (hx : Ext m out) (hol : memLt out.length out = true) :
    MemOK S w0 w' (backU (ρ ++ upFrom M.length (out.length - m.length)) ρ m out M ++ backN (ρ ++ upFrom M.length (out.length - m.length)) m out) ∧
    (∀ c, c < out.length → ads out c = ads (backU (ρ ++ upFrom M.length (out.length - m.length)) ρ m out M ++ backN (ρ ++ upFrom M.length (out.length - m.length)) m out) (rn (ρ ++ upFrom M.length (out.length - m.length)) c)) ∧
    (∀ c, c < M.length → ads M c = ads (backU (ρ ++ upFrom M.length (out.length - m.length)) ρ m out M ++ backN (ρ ++ upFrom M.length (out.length - m.length)) m out) c) ∧
    (backU (ρ ++ upFrom M.length (out.length - m.length)) ρ m out M ++ backN (ρ ++ upFrom M.length (out.length - m.length)) m out).length = M.length + (out.length - m.length) := by
  obtain ⟨ρ', hρ'⟩ : ∃ ρ', ρ' = ρ ++ upFrom M.length (out.length - m.length) := ⟨_, rfl⟩
  rw [← hρ']
  have hU := backU_spec ρ' ρ m out M hlen hx.len (fun k hkl => (hk k hkl).1) hap
  have hN := backN_spec ρ' m out hx.len
  obtain ⟨U, hUe⟩ : ∃ U, U = backU ρ' ρ m out M := ⟨_, rfl⟩
  obtain ⟨N, hNe⟩ : ∃ N, N = backN ρ' m out := ⟨_, rfl⟩
  rw [← hUe] at hU ⊢
  rw [← hNe] at hN ⊢
  have nth_app : ∀ (a b : List (Ck C)) (j : Nat), nth (a ++ b) j = if j < a.length then nth a j else nth b (j - a.length) := by
    intro a
    induction a with
    | nil => intro b j; simp
    | cons x a ih => intro b j; cases j with
      | zero => simp [nth]
      | succ j => simp [nth, ih]
  have hlenA : (U ++ N).length = M.length + (out.length - m.length) := by simp [hU.1, hN.1]
  -- places
  have hplace : ∀ c, c < M.length → (nth (U ++ N) c).block = (nth M c).block ∧ (nth (U ++ N) c).base = (nth M c).base ∧ (nth (U ++ N) c).sz = (nth M c).sz ∧ (nth (U ++ N) c).wr = (nth M c).wr ∧ (nth (U ++ N) c).gl = (nth M c).gl := by
    intro c hc
    rw [nth_app, if_pos (by rw [hU.1]; exact hc)]
    rcases hU.2 c with ⟨k, _, _, _, he⟩ | ⟨_, he⟩ <;> rw [he] <;> exact ⟨rfl, rfl, rfl, rfl, rfl⟩
  have hnew : ∀ j, j < out.length - m.length → nth (U ++ N) (M.length + j) = renCk ρ' (nth out (m.length + j)) := by
    intro j hj
    rw [nth_app, if_neg (by rw [hU.1]; omega), hU.1, show M.length + j - M.length = j by omega]
    exact hN.2 j hj
  have hadsM : ∀ c, c < M.length → ads M c = ads (U ++ N) c := by
    intro c hc
    obtain ⟨e1, e2, e3, _⟩ := hplace c hc
    simp [ads, Ck.ad, e1, e2, e3]
  have hadsO : ∀ c, c < out.length → ads out c = ads (U ++ N) (rn ρ' c) := by
    intro c hc
    rw [hρ', rn_append]
    by_cases hcm : c < m.length
    · rw [if_pos (by omega)]
      obtain ⟨h1, h2⟩ := hk c hcm
      rw [← hadsM _ h1]
      obtain ⟨e1, e2, e3, _⟩ := hx.same c hcm
      simp [ads, Ck.ad, e1, e2, e3, h2.block, h2.base, h2.sz]
    · rw [if_neg (by omega), rn_upFrom _ _ _ (by omega)]
      have := hnew (c - m.length) (by omega)
      rw [show M.length + (c - ρ.length) = M.length + (c - m.length) by omega]
      simp only [ads]
      rw [this, show m.length + (c - m.length) = c by omega]; rfl
  have hren : ∀ cs : Cells C, (match cs with | .one vs => SV.lts out.length vs | .it mc _ _ => Nat.blt mc out.length | _ => true) = true → ∀ (c : Ck C), c.cells = cs → Ck.ok (ads out) w' c → Ck.ok (ads (U ++ N)) w' { c with cells := renCells ρ' cs } := by
    intro cs hl c hcs hok
    subst hcs
    unfold Ck.ok at hok ⊢
    cases hcc : c.cells with
    | rows t l =>
      simp only [hcc, renCells] at hok ⊢
      refine ⟨hok.1, fun i hi f hf => ?_⟩
      rw [enc_flat (C t) (ads (U ++ N)) (ads out) _ f hf]
      exact hok.2 i hi f hf
    | one vs =>
      simp only [hcc, renCells] at hok hl ⊢
      have hrl : ∀ vs : List SV, (SV.rens ρ' vs).length = vs.length := by
        intro vs; induction vs with
        | nil => rfl
        | cons v r ih => simp [SV.rens, ih]
      have hrg : ∀ (vs : List SV) (f : Nat), (SV.rens ρ' vs).getD f .junk = (vs.getD f .junk).ren ρ' := by
        intro vs
        induction vs with
        | nil => intro f; rfl
        | cons v r ih => intro f; cases f with
          | zero => rfl
          | succ f => exact ih f
      refine ⟨by rw [hrl]; exact hok.1, fun f hf => ?_⟩
      rw [hrl] at hf
      have h2 := hok.2 f hf
      rw [hrg]
      have e := SV.va_ren hadsO _ (SV.lts_getD hl f)
      revert h2 e
      generalize vs.getD f .junk = v
      intro h2 e
      cases v <;> simp only [cellIs, SV.ren] at h2 ⊢ <;> first | exact h2 | exact h2.trans (congrArg some e)
    | mp tk tv l clk => simp only [hcc, renCells] at hok ⊢; exact hok
    | it mc seen clk =>
      simp only [hcc, renCells] at hok hl ⊢
      rw [← hadsO mc (by simpa using hl)]; exact hok
    | dead => simp only [renCells]
  have hrlive : ∀ cs : Cells C, ∀ c : Ck C, ({ c with cells := renCells ρ' cs } : Ck C).live = ({ c with cells := cs } : Ck C).live := by
    intro cs c; cases cs <;> rfl
  have houtlt : ∀ c, c ∈ out → (match c.cells with | .one vs => SV.lts out.length vs | .it mc _ _ => Nat.blt mc out.length | _ => true) = true := fun c hc => memLt_mem hol hc
  -- blocks that the callee may have turned
  have hSM : ∀ b, (wrS m).set b → ∃ k, k < m.length ∧ (nth m k).wr = true ∧ (nth m k).block = b ∧ (nth M (rn ρ k)).block = b ∧ (nth M (rn ρ k)).wr = true ∧ (nth M (rn ρ k)).live = true := by
    rintro b ⟨c, hc, hw, hb⟩
    obtain ⟨k, hkl, rfl⟩ := mem_nth hc
    obtain ⟨_, he⟩ := hk k hkl
    exact ⟨k, hkl, hw, hb, by rw [← he.block]; exact hb, he.wr hw, he.live (hwl _ hc hw)⟩
  have hblk : ∀ j, j < M.length → (nth M j).live = true → (∀ k, k < m.length → (nth m k).wr = true → rn ρ k ≠ j) → w'.heap[(nth M j).block]? = w.heap[(nth M j).block]? := by
    intro j hj hlv hno
    refine ho.keep _ (h.lt _ (nth_mem hj)) fun hS => ?_
    obtain ⟨k, hkl, hw, _, hb, hMw, hMl⟩ := hSM _ hS
    exact h.apart _ j (hk k hkl).1 hj (hno k hkl hw) hMw hMl hlv hb
  have hmore : More S w0 w' (U ++ N) := by
    refine h.more.mono h.inS (fun k hkw hno => ho.keep k hkw fun hS => ?_) (fun c hc hl => ?_) h.size
    · obtain ⟨j, hjl, _, _, hb, hMw, hMl⟩ := hSM _ hS
      exact hno _ (nth_mem (hk j hjl).1) hMw hMl hb
    · obtain ⟨j, hjl, rfl⟩ := mem_nth hc
      rw [hlenA] at hjl
      by_cases hjM : j < M.length
      · refine .inl ⟨nth M j, nth_mem hjM, ?_, (hplace j hjM).1.symm⟩
        rw [nth_app, if_pos (by rw [hU.1]; exact hjM)] at hl
        rcases hU.2 j with ⟨k, hkl, hkw, hjk, he⟩ | ⟨_, he⟩
        · have hck := (hk k hkl).2
          rw [← hjk]; exact hck.live (hwl _ (nth_mem hkl) hkw)
        · rw [he] at hl; exact hl
      · have e := hnew (j - M.length) (by omega)
        rw [show M.length + (j - M.length) = j by omega] at e
        rw [e] at hl ⊢
        rw [renCk_live] at hl
        have hin : m.length + (j - M.length) < out.length := by omega
        have hw := hx.new _ (by omega) hin hl
        show _ ∨ w.heap.size ≤ (nth out (m.length + (j - M.length))).block
        rcases Nat.lt_or_ge (nth out (m.length + (j - M.length))).block w.heap.size with hb | hb
        · have := ho.inS _ (nth_mem hin) hw hb
          obtain ⟨k, hkl, _, _, hkb, hMw, hMl⟩ := hSM _ this
          exact .inl ⟨_, nth_mem (hk k hkl).1, hMl, hkb⟩
        · exact .inr hb
  refine ⟨⟨ho.os.trans h.os, ho.tape.trans h.tape, ho.output.trans h.output, Nat.le_trans h.size ho.size, ?_, ?_, ?_, ?_, ?_, ?_, ?_, hmore⟩, hadsO, hadsM, hlenA⟩
  · intro k hkl hno
    have hkw : k < w.heap.size := Nat.lt_of_lt_of_le hkl h.size
    rw [ho.keep k hkw fun hS => ?_]
    · exact h.keep k hkl hno
    · obtain ⟨j, hjl, hw, _, hb, hMw, hMl⟩ := hSM _ hS
      exact hno (hb ▸ h.inS _ (nth_mem (hk j hjl).1) hMw (by rw [hb]; exact hkl))
  · intro c hc hw hb
    obtain ⟨j, hjl, rfl⟩ := mem_nth hc
    rw [hlenA] at hjl
    by_cases hjM : j < M.length
    · obtain ⟨e1, _, _, e4, _⟩ := hplace j hjM
      rw [e1] at hb ⊢
      rw [e4] at hw
      exact h.inS _ (nth_mem hjM) hw hb
    · have e := hnew (j - M.length) (by omega)
      rw [show M.length + (j - M.length) = j by omega] at e
      rw [e] at hw hb ⊢
      have hin : m.length + (j - M.length) < out.length := by omega
      have := ho.inS _ (nth_mem hin) hw (Nat.lt_of_lt_of_le hb h.size)
      obtain ⟨k, hkl, _, _, hkb, hMw, _⟩ := hSM _ this
      show S.set (nth out (m.length + (j - M.length))).block
      rw [← hkb]
      exact h.inS _ (nth_mem (hk k hkl).1) hMw (by rw [hkb]; exact hb)
  · intro c hc
    obtain ⟨j, hjl, rfl⟩ := mem_nth hc
    rw [hlenA] at hjl
    by_cases hjM : j < M.length
    · rw [nth_app, if_pos (by rw [hU.1]; exact hjM)]
      rcases hU.2 j with ⟨k, hkl, hw, hj, he⟩ | ⟨hno, he⟩
      · rw [he]
        have hko : k < out.length := Nat.lt_of_lt_of_le hkl hx.len
        have h1 := hren _ (houtlt _ (nth_mem hko)) (nth out k) rfl (ho.ok _ (nth_mem hko))
        obtain ⟨e1, e2, e3, _⟩ := hx.same k hkl
        have hck := (hk k hkl).2
        rw [hj] at hck
        unfold Ck.ok at h1 ⊢
        simp only [Ck.ad] at h1 ⊢
        rw [e1, e2, e3, hck.block, hck.base, hck.sz] at h1
        exact h1
      · rw [he]
        cases hlv : (nth M j).live with
        | false => unfold Ck.live at hlv; unfold Ck.ok; split at hlv <;> simp_all
        | true => exact Ck.ok_ads hadsM (memLt_mem hM (nth_mem hjM)) (Ck.ok_same (h.ok _ (nth_mem hjM)) (hblk j hjM hlv hno))
    · have e := hnew (j - M.length) (by omega)
      rw [show M.length + (j - M.length) = j by omega] at e
      rw [e]
      have hin : m.length + (j - M.length) < out.length := by omega
      have h1 := hren _ (houtlt _ (nth_mem hin)) _ rfl (ho.ok _ (nth_mem hin))
      unfold Ck.ok at h1 ⊢
      exact h1
  · intro c hc hw hl a ha
    obtain ⟨j, hjl, rfl⟩ := mem_nth hc
    rw [hlenA] at hjl
    by_cases hjM : j < M.length
    · obtain ⟨e1, _, _, e4, _⟩ := hplace j hjM
      rw [e1] at ha
      rw [e4] at hw
      rw [nth_app, if_pos (by rw [hU.1]; exact hjM)] at hl
      rcases hU.2 j with ⟨k, hkl, hkw, hj, he⟩ | ⟨hno, he⟩
      · rw [he, hrlive] at hl
        have hko : k < out.length := Nat.lt_of_lt_of_le hkl hx.len
        obtain ⟨f1, _, _, f4⟩ := hx.same k hkl
        have hck := (hk k hkl).2
        rw [hj] at hck
        refine ho.wrok _ (nth_mem hko) (by rw [f4]; exact hkw) hl a ?_
        rw [f1, hck.block]; exact ha
      · rw [he] at hl
        rw [World.frozen?_of_block (w := w) (by rw [ha]; exact hblk j hjM hl hno)]
        exact h.wrok _ (nth_mem hjM) hw hl a ha
    · have e := hnew (j - M.length) (by omega)
      rw [show M.length + (j - M.length) = j by omega] at e
      rw [e] at hw hl ha
      have hin : m.length + (j - M.length) < out.length := by omega
      rw [renCk_live] at hl
      exact ho.wrok _ (nth_mem hin) hw hl a ha
  · -- apart
    have old_live : ∀ j, j < M.length → (nth (U ++ N) j).live = true → (nth M j).live = true ∧ ((∃ k, k < m.length ∧ (nth m k).wr = true ∧ rn ρ k = j ∧ (nth out k).live = true) ∨ (∀ k, k < m.length → (nth m k).wr = true → rn ρ k ≠ j)) := by
      intro j hj hl
      rw [nth_app, if_pos (by rw [hU.1]; exact hj)] at hl
      rcases hU.2 j with ⟨k, hkl, hkw, hjk, he⟩ | ⟨hno, he⟩
      · rw [he, hrlive] at hl
        have hck := (hk k hkl).2
        refine ⟨?_, .inl ⟨k, hkl, hkw, hjk, hl⟩⟩
        rw [← hjk]; exact hck.live (hwl _ (nth_mem hkl) hkw)
      · rw [he] at hl; exact ⟨hl, .inr hno⟩
    have new_facts : ∀ j, M.length ≤ j → j < M.length + (out.length - m.length) → (nth (U ++ N) j).live = true →
        (nth (U ++ N) j).block = (nth out (m.length + (j - M.length))).block ∧ (nth out (m.length + (j - M.length))).live = true ∧ (nth out (m.length + (j - M.length))).wr = true := by
      intro j h1 h2 hl
      have e := hnew (j - M.length) (by omega)
      rw [show M.length + (j - M.length) = j by omega] at e
      rw [e] at hl ⊢
      rw [renCk_live] at hl
      exact ⟨rfl, hl, hx.new _ (by omega) (by omega) hl⟩
    have old_new : ∀ i j, i < M.length → M.length ≤ j → j < M.length + (out.length - m.length) → (nth (U ++ N) i).live = true → (nth (U ++ N) j).live = true → (nth (U ++ N) i).block ≠ (nth (U ++ N) j).block := by
      intro i j hi hj1 hj2 hil hjl
      obtain ⟨n1, n2, n3⟩ := new_facts j hj1 hj2 hjl
      have hin : m.length + (j - M.length) < out.length := by omega
      obtain ⟨o1, o2⟩ := old_live i hi hil
      rw [(hplace i hi).1, n1]
      rcases o2 with ⟨k, hkl, hkw, hki, hkl2⟩ | hno
      · have hck := (hk k hkl).2
        have hko : k < out.length := Nat.lt_of_lt_of_le hkl hx.len
        obtain ⟨f1, _, _, f4⟩ := hx.same k hkl
        have := ho.apart k _ hko hin (by omega) (by rw [f4]; exact hkw) hkl2 n2
        rw [f1, hck.block, hki] at this
        exact this
      · intro e
        have hlt := h.lt _ (nth_mem hi)
        have hS := ho.inS _ (nth_mem hin) n3 (by rw [← e]; exact hlt)
        obtain ⟨k, hkl, hkw, _, hb, hMw, hMl⟩ := hSM _ hS
        exact h.apart _ i (hk k hkl).1 hi (hno k hkl hkw) hMw hMl o1 (by rw [hb, e])
    intro i j hi hj hij hw hil hjl
    rw [hlenA] at hi hj
    by_cases hiM : i < M.length
    · by_cases hjM : j < M.length
      · obtain ⟨e1, _, _, e4, _⟩ := hplace i hiM
        rw [e1, (hplace j hjM).1]
        rw [e4] at hw
        exact h.apart i j hiM hjM hij hw (old_live i hiM hil).1 (old_live j hjM hjl).1
      · exact old_new i j hiM (by omega) hj hil hjl
    · by_cases hjM : j < M.length
      · exact (old_new j i hjM (by omega) hi hjl hil).symm
      · obtain ⟨n1, n2, n3⟩ := new_facts i (by omega) hi hil
        obtain ⟨m1, m2, m3⟩ := new_facts j (by omega) hj hjl
        rw [n1, m1]
        exact ho.apart _ _ (by omega) (by omega) (by omega) n3 n2 m2
  · intro c hc
    obtain ⟨j, hjl, rfl⟩ := mem_nth hc
    rw [hlenA] at hjl
    by_cases hjM : j < M.length
    · rw [(hplace j hjM).1]
      exact Nat.lt_of_lt_of_le (h.lt _ (nth_mem hjM)) ho.size
    · have e := hnew (j - M.length) (by omega)
      rw [show M.length + (j - M.length) = j by omega] at e
      rw [e]
      have hin : m.length + (j - M.length) < out.length := by omega
      exact ho.lt (nth out (m.length + (j - M.length))) (nth_mem hin)
  · intro c hc g hg
    obtain ⟨j, hjl, rfl⟩ := mem_nth hc
    rw [hlenA] at hjl
    by_cases hjM : j < M.length
    · obtain ⟨e1, e2, _, _, e5⟩ := hplace j hjM
      rw [e1, e2]
      rw [e5] at hg
      exact h.glob _ (nth_mem hjM) g hg
    · have e := hnew (j - M.length) (by omega)
      rw [show M.length + (j - M.length) = j by omega] at e
      rw [e] at hg; cases hg

end Go.Vx
