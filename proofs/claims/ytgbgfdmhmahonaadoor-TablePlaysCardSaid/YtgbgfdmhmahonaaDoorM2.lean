/-
  The symbolic evaluator, twelfth part: a call, as a change of the chunks.
  The symbolic evaluator, thirteenth part: the chunks ahead of a call and behind it.
  The symbolic evaluator, fourteenth part: calls under a contract, and one operation.
  The symbolic evaluator: values and chunks written out before they are used again.
  The symbolic evaluator: maps: look-ups, updates, deletions, lengths; new ones; iterators over them.
  The symbolic evaluator, fifteenth part: one operation under its guard; a list of operations.
  The symbolic evaluator: a region that draws its order and has effects.
  Conditions: none.
-/
import Derived.Test.YtgbgfdmhmahonaaDoorM1
import Derived.RangeFuncRecord
import Derived.Laws.StructEq
import Derived.LaidEql
namespace Go.Vx
open Go
variable {C : Nat → Codec}

def rn : List Nat → Nat → Nat
  | [], _ => 0
  | x :: _, 0 => x
  | _ :: r, c + 1 => rn r c

mutual
def SV.ren (ρ : List Nat) : SV → SV
  | .ptr c i f => .ptr (rn ρ c) i f
  | .sl c i n m => .sl (rn ρ c) i n m
  | .agg vs => .agg (SV.rens ρ vs)
  | .tup vs => .tup (SV.rens ρ vs)
  | .ifc t v => .ifc t (SV.ren ρ v)
  | .fn f a b => .fn f (SV.rens ρ a) (SV.rens ρ b)
  | .cnd cs v => .cnd cs (SV.ren ρ v)
  | .junk => .junk
  | .undef => .undef
  | .int k n => .int k n
  | .bool b => .bool b
  | .nilp => .nilp
  | .nils => .nils
  | .nili => .nili
  | .nilf => .nilf
  | .gp g => .gp g
  | .mp c => .mp (rn ρ c)
  | .val v => .val v
def SV.rens (ρ : List Nat) : List SV → List SV
  | [] => []
  | v :: r => SV.ren ρ v :: SV.rens ρ r
end

mutual
theorem SV.va_ren {n : Nat} {ρ : List Nat} {ad ad' : Nat → Ad} (h : ∀ c, c < n → ad c = ad' (rn ρ c)) : ∀ v : SV, SV.lt n v = true → SV.va ad v = SV.va ad' (v.ren ρ)
  | .junk, _ | .undef, _ | .int _ _, _ | .bool _, _ | .nilp, _ | .nils, _ | .nili, _ | .nilf, _ | .gp _, _ | .val _, _ => by simp [SV.va, SV.ren]
  | .ptr c i f, hv => by simp [SV.lt] at hv; simp [SV.va, SV.ren, h c hv]
  | .sl c i f m, hv => by simp [SV.lt] at hv; simp [SV.va, SV.ren, h c hv]
  | .mp c, hv => by simp [SV.lt] at hv; simp [SV.va, SV.ren, h c hv]
  | .agg vs, hv => by simp [SV.lt] at hv; simp [SV.va, SV.ren, SV.vas_ren h vs hv]
  | .tup vs, hv => by simp [SV.lt] at hv; simp [SV.va, SV.ren, SV.vas_ren h vs hv]
  | .ifc t v, hv => by simp [SV.lt] at hv; simp [SV.va, SV.ren, SV.va_ren h v hv]
  | .fn f a b, hv => by simp [SV.lt] at hv; simp [SV.va, SV.ren, SV.vas_ren h a hv.1, SV.vas_ren h b hv.2]
  | .cnd cs v, hv => by simp [SV.lt] at hv; simp [SV.va, SV.ren, SV.va_ren h v hv]
theorem SV.vas_ren {n : Nat} {ρ : List Nat} {ad ad' : Nat → Ad} (h : ∀ c, c < n → ad c = ad' (rn ρ c)) : ∀ vs : List SV, SV.lts n vs = true → SV.vas ad vs = SV.vas ad' (SV.rens ρ vs)
  | [], _ => rfl
  | v :: r, hv => by simp [SV.lts] at hv; simp [SV.vas, SV.rens, SV.va_ren h v hv.1, SV.vas_ren h r hv.2]
end

def sbEq : SB → SB → List Prop
  | .t, .t => []
  | .f, .f => []
  | a, b => [a.val = b.val]

mutual
/-- Two symbolic values are one, if these hold. -/
def eqv : SV → SV → Option (List Prop)
  | .undef, .undef => some []
  | .int k n, .int k' n' => if sameKind k k' then some [n = n'] else none
  | .bool s, .bool s' => some (sbEq s s')
  | .ptr c i f, .ptr c' i' f' => if Nat.beq c c' && Nat.beq f f' then some [i = i'] else none
  | .nilp, .nilp => some []
  | .sl c i n m, .sl c' i' n' m' => if Nat.beq c c' then some [i = i', n = n', m = m'] else none
  | .nils, .nils => some []
  | .agg a, .agg b => eqvs a b
  | .tup a, .tup b => eqvs a b
  | .ifc t v, .ifc t' v' => if Nat.beq t t' then eqv v v' else none
  | .nili, .nili => some []
  | .fn (.func f) a b, .fn (.func f') a' b' => if Nat.beq f f' then match eqvs a a', eqvs b b' with
    | some p, some q => some (p ++ q)
    | _, _ => none else none
  | .fn (.yield l) [] [], .fn (.yield l') [] [] => some [l = l']
  | .nilf, .nilf => some []
  | .gp g, .gp g' => if Nat.beq g g' then some [] else none
  | .mp c, .mp c' => if Nat.beq c c' then some [] else none
  | .val v, .val v' => some [v = v']
  | _, _ => none
def eqvs : List SV → List SV → Option (List Prop)
  | [], [] => some []
  | a :: r, b :: s => match eqv a b, eqvs r s with
    | some p, some q => some (p ++ q)
    | _, _ => none
  | _, _ => none
end

theorem allOf_append : ∀ (p q : List Prop), allOf (p ++ q) ↔ allOf p ∧ allOf q
  | [], q => by simp [allOf]
  | a :: p, q => by simp [allOf, allOf_append p q, and_assoc]

mutual
theorem eqv_ok (ad : Nat → Ad) : ∀ (a b : SV) (ps : List Prop), eqv a b = some ps → allOf ps → SV.va ad a = SV.va ad b := by
  intro a b ps h hp
  unfold eqv at h
  split at h
  case h_1 => rfl
  case h_2 => split at h <;> simp at h; subst h; rename_i hk; simp [allOf] at hp; simp [SV.va, hp, sameKind_eq hk]
  case h_3 s s' =>
    simp only [Option.some.injEq] at h; subst h
    cases s <;> cases s' <;> first | rfl | (simp only [sbEq, allOf, and_true] at hp; simp only [SV.va]; rw [hp])
  case h_4 => split at h <;> simp at h; subst h; rename_i hk; simp at hk; simp [allOf] at hp; simp [SV.va, hp, hk]
  case h_5 => rfl
  case h_6 => split at h <;> simp at h; subst h; rename_i hk; simp at hk; simp [allOf] at hp; simp [SV.va, hp, hk]
  case h_7 => rfl
  case h_8 a b => simp only [SV.va]; rw [eqvs_ok ad a b ps h hp]
  case h_9 a b => simp only [SV.va]; rw [eqvs_ok ad a b ps h hp]
  case h_10 t v t' v' =>
    split at h
    · rename_i hk; simp at hk; subst hk; simp only [SV.va]; rw [eqv_ok ad v v' ps h hp]
    · cases h
  case h_11 => rfl
  case h_12 f a b f' a' b' =>
    split at h
    rotate_left
    · cases h
    rename_i hk; simp at hk; subst hk
    split at h <;> simp at h
    rename_i p q hp' hq'
    subst h
    have := (allOf_append p q).1 hp
    simp only [SV.va]
    rw [eqvs_ok ad a a' p hp' this.1, eqvs_ok ad b b' q hq' this.2]
  case h_13 => simp at h; subst h; simp [allOf] at hp; simp [SV.va, hp]
  case h_14 => rfl
  case h_15 => split at h <;> simp at h; rename_i hk; simp at hk; subst hk; rfl
  case h_16 => split at h <;> simp at h; rename_i hk; simp at hk; subst hk; rfl
  case h_17 => simp at h; subst h; simp [allOf] at hp; simp [SV.va, hp]
  case h_18 => cases h
theorem eqvs_ok (ad : Nat → Ad) : ∀ (a b : List SV) (ps : List Prop), eqvs a b = some ps → allOf ps → SV.vas ad a = SV.vas ad b := by
  intro a b ps h hp
  unfold eqvs at h
  split at h
  · rfl
  · rename_i a r b s
    split at h <;> simp at h
    rename_i p q hp' hq'
    subst h
    have := (allOf_append p q).1 hp
    simp only [SV.vas]
    rw [eqv_ok ad a b p hp' this.1, eqvs_ok ad r s q hq' this.2]
  · cases h
end

def castMp {C : Nat → Codec} {tk tv tk' tv' : Nat} (h : tk' = tk ∧ tv' = tv) (l : List ((C tk').α × (C tv').α × Nat)) : List ((C tk).α × (C tv).α × Nat) := h.1 ▸ h.2 ▸ l
/-- What a callee's chunk asks of the caller's. -/
def cellsEq (ρ : List Nat) : Cells C → Cells C → Option (List Prop)
  | .rows t l, .rows t' l' => if h : t' = t then some [l = castL h l'] else none
  | .one vs, .one vs' => onesEq (SV.rens ρ vs) vs'
  | .mp tk tv l clk, .mp tk' tv' l' clk' => if h : tk' = tk ∧ tv' = tv then some [l = castMp h l', clk = clk'] else none
  | .it mc seen clk, .it mc' seen' clk' => if Nat.beq (rn ρ mc) mc' then some [seen = seen', clk = clk'] else none
  | .dead, _ => some []
  | _, _ => none
where
  onesEq : List SV → List SV → Option (List Prop)
  | [], [] => some []
  | .junk :: r, _ :: s => onesEq r s
  | a :: r, b :: s => match eqv a b, onesEq r s with
    | some p, some q => some (p ++ q)
    | _, _ => none
  | _, _ => none

def glEq : Option Nat → Option Nat → Bool
  | none, _ => true
  | some a, some b => Nat.beq a b
  | _, _ => false
def bImp : Bool → Bool → Bool
  | true, b => b
  | false, _ => true

def ckEq (ρ : List Nat) (a b : Ck C) : Option (List Prop) :=
  if Nat.beq a.sz b.sz && bImp a.wr b.wr && glEq a.gl b.gl then
    (cellsEq ρ a.cells b.cells).map fun ps => (a.block = b.block) :: (a.base = b.base) :: ps
  else none

/-- The callee's chunks are these of the caller's. -/
def cksEq (ρ : List Nat) (M : List (Ck C)) : List Nat → List (Ck C) → Option (List Prop)
  | [], [] => some []
  | p :: r, a :: s => if Nat.blt p M.length then match ckEq ρ a (nth M p), cksEq ρ M r s with
      | some x, some y => some (x ++ y)
      | _, _ => none else none
  | _, _ => none

/-- No chunk that may be written is met under two names. -/
def notIn (p : Nat) : List Nat → Bool
  | [] => true
  | x :: r => !(Nat.beq x p) && notIn p r
def apartB : List Nat → List (Ck C) → Bool
  | [], _ => true
  | p :: r, [] => notIn p r && apartB r []
  | p :: r, a :: s => (if a.wr then notIn p r else wrNot p r s) && apartB r s
where
  wrNot (p : Nat) : List Nat → List (Ck C) → Bool
  | x :: r, a :: s => (if a.wr then !(Nat.beq x p) else true) && wrNot p r s
  | _, _ => true

def renCells (ρ : List Nat) : Cells C → Cells C
  | .rows t l => .rows t l
  | .one vs => .one (SV.rens ρ vs)
  | .mp tk tv l clk => .mp tk tv l clk
  | .it mc seen clk => .it (rn ρ mc) seen clk
  | .dead => .dead
def renCk (ρ : List Nat) : Ck C → Ck C
  | ⟨b, ba, sz, w, _, cs⟩ => ⟨b, ba, sz, w, none, renCells ρ cs⟩

/-- The caller's chunks behind the call, but for the new ones. -/
def backU (ρ' : List Nat) : List Nat → List (Ck C) → List (Ck C) → List (Ck C) → List (Ck C)
  | p :: r, a :: s, o :: out, M => backU ρ' r s out (match a.wr with
      | true => setCk M p (renCells ρ' o.cells)
      | false => M)
  | _, _, _, M => M
/-- And the new ones. -/
def backN (ρ' : List Nat) : List (Ck C) → List (Ck C) → List (Ck C)
  | _ :: s, _ :: out => backN ρ' s out
  | [], out => out.map (renCk ρ')
  | _ :: _, [] => []

def upFrom : Nat → Nat → List Nat
  | _, 0 => []
  | n, k + 1 => n :: upFrom (n + 1) k

/-- The chunks that a callee leaves lie where they lay; what is new may be written. -/
def extB : List (Ck C) → List (Ck C) → Bool
  | [], out => out.all fun c => c.wr || !c.live
  | _ :: s, _ :: out => extB s out
  | _ :: _, [] => false

/-- What a callee is known to do: of the elder chunks it keeps the places. -/
structure Ext (m m' : List (Ck C)) : Prop where
  len : m.length ≤ m'.length
  same : ∀ k, k < m.length → (nth m' k).block = (nth m k).block ∧ (nth m' k).base = (nth m k).base ∧ (nth m' k).sz = (nth m k).sz ∧ (nth m' k).wr = (nth m k).wr
  new : ∀ k, m.length ≤ k → k < m'.length → (nth m' k).live = true → (nth m' k).wr = true

def wrS (m : List (Ck C)) : Sx := ⟨fun k => ∃ c ∈ m, c.wr = true ∧ c.block = k, []⟩

theorem castL_eq {t t' : Nat} (h : t' = t) (l' : List (C t').α) : (Cells.rows t' l' : Cells C) = .rows t (castL h l') := by subst h; rfl

theorem onesEq_ok (ad : Nat → Ad) (w : World) (b : Nat → Addr) : ∀ (a c : List SV) (ps : List Prop), cellsEq.onesEq a c = some ps → allOf ps → a.length = c.length ∧ ∀ f, f < c.length → cellIs ad w (b f) (c.getD f .junk) → cellIs ad w (b f) (a.getD f .junk)
  | [], [], _, _, _ => ⟨rfl, fun f hf => by simp at hf⟩
  | [], _ :: _, _, h, _ => by simp [cellsEq.onesEq] at h
  | x :: r, [], _, h, _ => by cases x <;> simp [cellsEq.onesEq] at h
  | x :: r, y :: s, ps, h, hp => by
    have cell_any : ∀ (v : SV) (a : Addr), cellIs ad w a v → cellIs ad w a .junk := by
      intro v a hv
      cases v <;> simp only [cellIs] at hv ⊢ <;> first | exact hv | exact ⟨_, hv⟩
    by_cases hx : x = .junk
    · subst hx
      simp only [cellsEq.onesEq] at h
      have ih := onesEq_ok ad w (fun f => b (f + 1)) r s ps h hp
      refine ⟨by simp [ih.1], fun f hf hc => ?_⟩
      cases f with
      | zero => exact cell_any _ _ hc
      | succ f => exact ih.2 f (by simpa using hf) hc
    · have h' : (match eqv x y, cellsEq.onesEq r s with | some p, some q => some (p ++ q) | _, _ => none) = some ps := by
        cases x <;> first | exact h | exact absurd rfl hx
      split at h' <;> simp at h'
      rename_i p q hp' hq'
      subst h'
      have hpq := (allOf_append p q).1 hp
      have ih := onesEq_ok ad w (fun f => b (f + 1)) r s q hq' hpq.2
      refine ⟨by simp [ih.1], fun f hf hc => ?_⟩
      cases f with
      | zero =>
        have e := eqv_ok ad x y p hp' hpq.1
        simp only [List.getD_cons_zero] at hc ⊢
        have hy : y ≠ .junk := by rintro rfl; cases x <;> simp [eqv] at hp'
        cases x <;> first | exact absurd rfl hx | (cases y <;> first | exact absurd rfl hy | (simp only [cellIs] at hc ⊢; rw [e]; exact hc))
      | succ f => exact ih.2 f (by simpa using hf) hc

end Go.Vx
set_option linter.unusedSimpArgs false
namespace Go.Vx
open Go
variable {C : Nat → Codec}

theorem cksEq_ok {ρ : List Nat} {M : List (Ck C)} : ∀ {r : List Nat} {s : List (Ck C)} {ps : List Prop}, cksEq ρ M r s = some ps → allOf ps →
    r.length = s.length ∧ ∀ k, k < s.length → rn r k < M.length ∧ ∃ qs, ckEq ρ (nth s k) (nth M (rn r k)) = some qs ∧ allOf qs
  | [], [], _, _, _ => ⟨rfl, fun k hk => by simp at hk⟩
  | [], _ :: _, _, h, _ => by simp [cksEq] at h
  | _ :: _, [], _, h, _ => by simp [cksEq] at h
  | p :: r, a :: s, ps, h, hp => by
    simp only [cksEq] at h
    split at h
    · rename_i hlt
      have hlt : p < M.length := by simpa using hlt
      split at h <;> try contradiction
      rename_i x y hx hy
      simp only [Option.some.injEq] at h; subst h
      have hxy := (allOf_append x y).1 hp
      have ih := cksEq_ok hy hxy.2
      refine ⟨by simp [ih.1], fun k hk => ?_⟩
      cases k with
      | zero => exact ⟨hlt, x, hx, hxy.1⟩
      | succ k => exact ih.2 k (by simpa using hk)
    · cases h

structure CkEq (ρ : List Nat) (a b : Ck C) : Prop where
  block : a.block = b.block
  base : a.base = b.base
  sz : a.sz = b.sz
  wr : a.wr = true → b.wr = true
  gl : ∀ g, a.gl = some g → b.gl = some g
  live : a.live = true → b.live = true
  cells : ∃ qs, cellsEq ρ a.cells b.cells = some qs ∧ allOf qs

theorem ckEq_ok {ρ : List Nat} {a b : Ck C} {qs : List Prop} (h : ckEq ρ a b = some qs) (hp : allOf qs) : CkEq ρ a b := by
  unfold ckEq at h
  split at h
  · rename_i hc
    simp only [Bool.and_eq_true] at hc
    obtain ⟨⟨h1, h2⟩, h3⟩ := hc
    cases hce : cellsEq ρ a.cells b.cells with
    | none => simp [hce] at h
    | some ps =>
      simp only [hce, Option.map_some, Option.some.injEq] at h; subst h
      obtain ⟨e1, e2, e3⟩ := hp
      refine ⟨e1, e2, Nat.eq_of_beq_eq_true h1, fun hw => ?_, fun g hg => ?_, fun hl => ?_, _, hce, e3⟩
      · rw [hw] at h2; exact h2
      · rw [hg] at h3
        cases hb : b.gl with
        | none => simp [hb, glEq] at h3
        | some g' => simp only [hb, glEq] at h3; rw [Nat.eq_of_beq_eq_true h3]
      · unfold Ck.live at hl ⊢
        unfold cellsEq at hce
        split at hce
        · rename_i heq1 heq2; rw [heq2]
        · rename_i heq1 heq2; rw [heq2]
        · rename_i heq1 heq2; rw [heq2]
        · rename_i heq1 heq2; rw [heq2]
        · rename_i heq1; rw [heq1] at hl; cases hl
        · cases hce
  · cases h

theorem apartB_ok : ∀ {r : List Nat} {s : List (Ck C)}, apartB r s = true → r.length = s.length → ∀ i j, i < s.length → j < s.length → i ≠ j → (nth s i).wr = true → rn r i ≠ rn r j
  | [], [], _, _, i, _, hi, _, _, _ => by simp at hi
  | [], _ :: _, _, h, _, _, _, _, _, _ => by simp at h
  | _ :: _, [], _, h, _, _, _, _, _, _ => by simp at h
  | p :: r, a :: s, h, hl, i, j, hi, hj, hij, hw => by
    have notIn_ok : ∀ (r : List Nat), notIn p r = true → ∀ k, k < r.length → rn r k ≠ p := by
      intro r
      induction r with
      | nil => intro _ k hk; simp at hk
      | cons x r ih =>
        intro h k hk
        simp only [notIn, Bool.and_eq_true, Bool.not_eq_true'] at h
        cases k with
        | zero => exact Nat.ne_of_beq_eq_false h.1
        | succ k => exact ih h.2 k (by simpa using hk)
    have wrNot_ok : ∀ (r : List Nat) (s : List (Ck C)), apartB.wrNot p r s = true → ∀ k, k < r.length → k < s.length → (nth s k).wr = true → rn r k ≠ p := by
      intro r
      induction r with
      | nil => intro s _ k hk; simp at hk
      | cons x r ih =>
        intro s h k hk hks hwk
        cases s with
        | nil => simp at hks
        | cons y s =>
          simp only [apartB.wrNot, Bool.and_eq_true] at h
          cases k with
          | zero =>
            simp only [nth] at hwk
            have := h.1
            rw [hwk] at this
            simp only [if_true, Bool.not_eq_true'] at this
            exact Nat.ne_of_beq_eq_false this
          | succ k => exact ih s h.2 k (by simpa using hk) (by simpa using hks) hwk
    simp only [apartB, Bool.and_eq_true] at h
    have hl' : r.length = s.length := by simpa using hl
    cases i with
    | zero =>
      cases j with
      | zero => exact absurd rfl hij
      | succ j =>
        simp only [nth] at hw
        have h1 := h.1
        rw [hw] at h1
        simp only [if_true] at h1
        exact (notIn_ok r h1 j (by simp at hj; omega)).symm
    | succ i =>
      cases j with
      | zero =>
        have h1 := h.1
        simp only [nth] at hw
        show rn r i ≠ p
        cases ha : a.wr with
        | true => rw [ha] at h1; exact notIn_ok r (by simpa using h1) i (by simp at hi; omega)
        | false => rw [ha] at h1; exact wrNot_ok r s (by simpa using h1) i (by simp at hi; omega) (by simpa using hi) hw
      | succ j => exact apartB_ok h.2 hl' i j (by simpa using hi) (by simpa using hj) (fun e => hij (by omega)) hw

/-- What the call finds. -/
theorem MemOK.enter {S : Sx} {w0 w : World} {M : List (Ck C)} (h : MemOK S w0 w M) {ρ : List Nat} {m : List (Ck C)} (hlt : memLt m.length m = true)
    (hk : ∀ k, k < m.length → rn ρ k < M.length ∧ CkEq ρ (nth m k) (nth M (rn ρ k))) (hap : ∀ i j, i < m.length → j < m.length → i ≠ j → (nth m i).wr = true → rn ρ i ≠ rn ρ j) :
    MemOK (wrS m) w w m ∧ ∀ c, c < m.length → ads m c = ads M (rn ρ c) := by
  have hads : ∀ c, c < m.length → ads m c = ads M (rn ρ c) := by
    intro c hc
    have := (hk c hc).2
    simp [ads, Ck.ad, this.block, this.base, this.sz]
  have hno : ∀ k, k < w0.heap.size → ¬ S.set k → ¬ (wrS m).set k := by
    rintro k hk0 hns ⟨c, hc, hw, rfl⟩
    obtain ⟨j, hjl, rfl⟩ := mem_nth hc
    obtain ⟨hb, he⟩ := hk j hjl
    rw [he.block] at hk0 hns
    exact hns (h.inS _ (nth_mem hb) (he.wr hw) hk0)
  have hmore : More (wrS m) w w m := by
    refine ⟨fun g v hv => ?_, fun g p hp => ?_, fun p hp => (by cases hp), List.nodup_nil⟩
    · obtain ⟨h1, h2, h3⟩ := h.more.gv g v hv
      exact ⟨h1, Nat.lt_of_lt_of_le h2 h.size, hno g h2 h3⟩
    · obtain ⟨h1, h2, h3⟩ := h.more.gp g p hp
      exact ⟨h1, Nat.lt_of_lt_of_le h2 h.size, hno _ h2 h3⟩
  refine ⟨⟨rfl, rfl, rfl, Nat.le_refl _, fun _ _ _ => rfl, fun c hc hw _ => ⟨c, hc, hw, rfl⟩, ?_, ?_, ?_, ?_, ?_, hmore⟩, hads⟩
  · intro c hc
    obtain ⟨k, hkl, rfl⟩ := mem_nth hc
    obtain ⟨hb, he⟩ := hk k hkl
    have hok := h.ok _ (nth_mem hb)
    have had : (nth m k).ad = (nth M (rn ρ k)).ad := by simp [Ck.ad, he.block, he.base, he.sz]
    obtain ⟨qs, hq, hqs⟩ := he.cells
    have hltk := memLt_mem hlt (nth_mem hkl)
    unfold Ck.ok
    rw [had]
    split
    · rename_i t l hcl
      rw [hcl] at hq
      cases hcM : (nth M (rn ρ k)).cells with
      | rows t' l' =>
        rw [hcM] at hq
        simp only [cellsEq] at hq
        split at hq
        · rename_i htt
          simp only [Option.some.injEq] at hq; subst hq
          obtain ⟨e, _⟩ := hqs
          subst htt
          rw [castL_self] at e; subst e
          simp only [Ck.ok, hcM] at hok
          refine ⟨by rw [he.sz]; exact hok.1, fun i hi f hf => ?_⟩
          rw [hok.2 i hi f hf, enc_flat (C t') (ads M) (ads m) _ f hf]
        · cases hq
      | one _ => rw [hcM] at hq; simp [cellsEq] at hq
      | mp _ _ _ _ => rw [hcM] at hq; simp [cellsEq] at hq
      | it _ _ _ => rw [hcM] at hq; simp [cellsEq] at hq
      | dead => rw [hcM] at hq; simp [cellsEq] at hq
    · rename_i vs hcl
      rw [hcl] at hq
      cases hcM : (nth M (rn ρ k)).cells with
      | rows t' l' => rw [hcM] at hq; simp [cellsEq] at hq
      | one vs' =>
        rw [hcM] at hq
        simp only [cellsEq] at hq
        simp only [Ck.ok, hcM] at hok
        have h1 := onesEq_ok (ads M) w (fun f => (nth M (rn ρ k)).ad.at 0 f) _ _ _ hq hqs
        have hrl : ∀ vs : List SV, (SV.rens ρ vs).length = vs.length := by
          intro vs; induction vs with
          | nil => rfl
          | cons v r ih => simp [SV.rens, ih]
        rw [hrl] at h1
        refine ⟨by rw [he.sz, hok.1, h1.1], fun f hf => ?_⟩
        have h2 := h1.2 f (by omega) (hok.2 f (by omega))
        have hrg : ∀ (vs : List SV) (f : Nat), (SV.rens ρ vs).getD f .junk = (vs.getD f .junk).ren ρ := by
          intro vs
          induction vs with
          | nil => intro f; rfl
          | cons v r ih => intro f; cases f with
            | zero => rfl
            | succ f => exact ih f
        rw [hrg] at h2
        have hv : SV.lt m.length (vs.getD f .junk) = true := by
          unfold Ck.lt at hltk; rw [hcl] at hltk; exact SV.lts_getD hltk f
        have e := SV.va_ren hads _ hv
        revert h2 e
        generalize vs.getD f .junk = v
        intro h2 e
        cases v <;> simp only [cellIs, SV.ren] at h2 ⊢ <;> first | exact h2 | (rw [e]; exact h2)
      | mp _ _ _ _ => rw [hcM] at hq; simp [cellsEq] at hq
      | it _ _ _ => rw [hcM] at hq; simp [cellsEq] at hq
      | dead => rw [hcM] at hq; simp [cellsEq] at hq
    · rename_i tk tv l clk hcl
      rw [hcl] at hq
      cases hcM : (nth M (rn ρ k)).cells with
      | mp tk' tv' l' clk' =>
        rw [hcM] at hq
        simp only [cellsEq] at hq
        split at hq
        · rename_i htt
          simp only [Option.some.injEq] at hq; subst hq
          obtain ⟨e1, e2, _⟩ := hqs
          obtain ⟨rfl, rfl⟩ := htt
          have e1 : l = l' := e1
          subst e1; subst e2
          simp only [Ck.ok, hcM] at hok
          rw [he.block]; exact hok
        · cases hq
      | rows _ _ => rw [hcM] at hq; simp [cellsEq] at hq
      | one _ => rw [hcM] at hq; simp [cellsEq] at hq
      | it _ _ _ => rw [hcM] at hq; simp [cellsEq] at hq
      | dead => rw [hcM] at hq; simp [cellsEq] at hq
    · rename_i mc seen clk hcl
      rw [hcl] at hq
      cases hcM : (nth M (rn ρ k)).cells with
      | it mc' seen' clk' =>
        rw [hcM] at hq
        simp only [cellsEq] at hq
        split at hq
        · rename_i hmc
          have hmc := Nat.eq_of_beq_eq_true hmc
          simp only [Option.some.injEq] at hq; subst hq
          obtain ⟨e1, e2, _⟩ := hqs
          subst e1; subst e2; subst hmc
          simp only [Ck.ok, hcM] at hok
          have hv : mc < m.length := by unfold Ck.lt at hltk; rw [hcl] at hltk; simpa using hltk
          rw [he.block, hads mc hv]; exact hok
        · cases hq
      | rows _ _ => rw [hcM] at hq; simp [cellsEq] at hq
      | one _ => rw [hcM] at hq; simp [cellsEq] at hq
      | mp _ _ _ _ => rw [hcM] at hq; simp [cellsEq] at hq
      | dead => rw [hcM] at hq; simp [cellsEq] at hq
    · trivial
  · intro c hc hw hl a ha
    obtain ⟨k, hkl, rfl⟩ := mem_nth hc
    obtain ⟨hb, he⟩ := hk k hkl
    exact h.wrok _ (nth_mem hb) (he.wr hw) (he.live hl) a (by rw [ha, he.block])
  · intro i j hi hj hij hw hli hlj
    obtain ⟨hbi, hei⟩ := hk i hi
    obtain ⟨hbj, hej⟩ := hk j hj
    rw [hei.block, hej.block]
    exact h.apart _ _ hbi hbj (hap i j hi hj hij hw) (hei.wr hw) (hei.live hli) (hej.live hlj)
  · intro c hc
    obtain ⟨k, hkl, rfl⟩ := mem_nth hc
    obtain ⟨hb, he⟩ := hk k hkl
    rw [he.block]; exact h.lt _ (nth_mem hb)
  · intro c hc g hg
    obtain ⟨k, hkl, rfl⟩ := mem_nth hc
    obtain ⟨hb, he⟩ := hk k hkl
    rw [he.block, he.base]; exact h.glob _ (nth_mem hb) g (he.gl g hg)

theorem backU_spec (ρ' : List Nat) : ∀ (r : List Nat) (m out M : List (Ck C)), r.length = m.length → m.length ≤ out.length → (∀ k, k < m.length → rn r k < M.length) →
    (∀ i j, i < m.length → j < m.length → i ≠ j → (nth m i).wr = true → rn r i ≠ rn r j) →
    (backU ρ' r m out M).length = M.length ∧ ∀ j, (∃ k, k < m.length ∧ (nth m k).wr = true ∧ rn r k = j ∧ nth (backU ρ' r m out M) j = { nth M j with cells := renCells ρ' (nth out k).cells }) ∨
      ((∀ k, k < m.length → (nth m k).wr = true → rn r k ≠ j) ∧ nth (backU ρ' r m out M) j = nth M j)
  | [], [], out, M, _, _, _, _ => by
    have e : backU ρ' [] [] out M = M := by cases out <;> rfl
    rw [e]; exact ⟨rfl, fun j => .inr ⟨fun k hk => by simp at hk, rfl⟩⟩
  | [], _ :: _, _, _, h, _, _, _ => by simp at h
  | _ :: _, [], _, _, h, _, _, _ => by simp at h
  | p :: r, a :: m, [], M, _, h, _, _ => by simp at h
  | p :: r, a :: m, o :: out, M, hl, ho, hlt, hap => by
    have hp : p < M.length := hlt 0 (by simp)
    obtain ⟨M1, hM1⟩ : ∃ M1, M1 = (match a.wr with | true => setCk M p (renCells ρ' o.cells) | false => M) := ⟨_, rfl⟩
    have hlen1 : M1.length = M.length := by rw [hM1]; split <;> simp [length_setCk]
    have ih := backU_spec ρ' r m out M1 (by simpa using hl) (by simpa using ho) (fun k hk => by rw [hlen1]; exact hlt (k + 1) (by simpa using hk))
      (fun i j hi hj hij hw => hap (i + 1) (j + 1) (by simpa using hi) (by simpa using hj) (by omega) hw)
    have e : backU ρ' (p :: r) (a :: m) (o :: out) M = backU ρ' r m out M1 := by rw [hM1]; rfl
    rw [e]
    refine ⟨by rw [ih.1, hlen1], fun j => ?_⟩
    rcases ih.2 j with ⟨k, hk, hw, hj, he⟩ | ⟨hno, he⟩
    · left
      refine ⟨k + 1, by simpa using hk, hw, hj, ?_⟩
      have hM1j : nth M1 j = nth M j := by
        rw [hM1]
        split
        · rename_i ha
          rw [nth_setCk, if_neg]
          rintro ⟨hjp, _⟩
          exact hap 0 (k + 1) (by simp) (by simpa using hk) (by omega) ha (by show p = rn r k; rw [hj, hjp])
        · rfl
      rw [he, hM1j]; rfl
    · cases ha : a.wr with
      | false =>
        right
        refine ⟨fun k hk hw => ?_, by rw [he, hM1, ha]⟩
        cases k with
        | zero => simp only [nth] at hw; rw [ha] at hw; cases hw
        | succ k => exact hno k (by simpa using hk) hw
      | true =>
        by_cases hjp : j = p
        · left
          refine ⟨0, by simp, ha, hjp.symm, ?_⟩
          rw [he, hM1, ha]
          simp only
          rw [nth_setCk, if_pos ⟨hjp, hp⟩, hjp]; rfl
        · right
          refine ⟨fun k hk hw => ?_, by rw [he, hM1, ha]; simp only; rw [nth_setCk, if_neg (fun e => hjp e.1)]⟩
          cases k with
          | zero => exact fun e => hjp e.symm
          | succ k => exact hno k (by simpa using hk) hw

theorem backN_spec (ρ' : List Nat) : ∀ (m out : List (Ck C)), m.length ≤ out.length → (backN ρ' m out).length = out.length - m.length ∧ ∀ k, k < out.length - m.length → nth (backN ρ' m out) k = renCk ρ' (nth out (m.length + k))
  | [], out, _ => by
    have hmap : ∀ (l : List (Ck C)) (k : Nat), k < l.length → nth (l.map (renCk ρ')) k = renCk ρ' (nth l k) := by
      intro l
      induction l with
      | nil => intro k hk; simp at hk
      | cons x r ih => intro k hk; cases k with
        | zero => rfl
        | succ k => exact ih k (by simpa using hk)
    refine ⟨by simp [backN], fun k hk => ?_⟩
    simp only [backN, List.length_nil, Nat.zero_add]
    exact hmap out k (by simpa using hk)
  | _ :: _, [], h => by simp at h
  | a :: m, o :: out, h => by
    have ih := backN_spec ρ' m out (by simpa using h)
    refine ⟨by simp [backN, ih.1], fun k hk => ?_⟩
    simp only [backN]
    rw [ih.2 k (by simpa using hk)]
    simp only [List.length_cons]
    rw [show m.length + 1 + k = (m.length + k) + 1 by omega]; rfl

theorem rn_upFrom : ∀ (n k j : Nat), j < k → rn (upFrom n k) j = n + j
  | _, 0, _, h => by simp at h
  | n, k + 1, 0, _ => rfl
  | n, k + 1, j + 1, h => by simp only [upFrom, rn]; rw [rn_upFrom (n + 1) k j (by omega)]; omega
theorem length_upFrom : ∀ (n k : Nat), (upFrom n k).length = k
  | _, 0 => rfl
  | n, k + 1 => by simp [upFrom, length_upFrom]
theorem rn_append : ∀ (a b : List Nat) (j : Nat), rn (a ++ b) j = if j < a.length then rn a j else rn b (j - a.length)
  | [], b, j => by simp
  | x :: a, b, 0 => by simp [rn]
  | x :: a, b, j + 1 => by simp [rn, rn_append a b j]

theorem renCk_live (ρ : List Nat) (c : Ck C) : (renCk ρ c).live = c.live := by
  cases c with
  | mk b ba s w g cs => cases cs <;> rfl

/-- What stands when the call is done. -/
theorem MemOK.back {S : Sx} {w0 w w' : World} {M : List (Ck C)} (h : MemOK S w0 w M) (hM : memLt M.length M = true) {ρ : List Nat} {m out : List (Ck C)} (hlen : ρ.length = m.length)
    (hk : ∀ k, k < m.length → rn ρ k < M.length ∧ CkEq ρ (nth m k) (nth M (rn ρ k))) (hap : ∀ i j, i < m.length → j < m.length → i ≠ j → (nth m i).wr = true → rn ρ i ≠ rn ρ j)
    (hwl : ∀ c ∈ m, c.wr = true → c.live = true) (ho : MemOK (wrS m) w w' out) (hx : Ext m out) (hol : memLt out.length out = true) :
    MemOK S w0 w' (backU (ρ ++ upFrom M.length (out.length - m.length)) ρ m out M ++ backN (ρ ++ upFrom M.length (out.length - m.length)) m out) ∧
    (∀ c, c < out.length → ads out c = ads (backU (ρ ++ upFrom M.length (out.length - m.length)) ρ m out M ++ backN (ρ ++ upFrom M.length (out.length - m.length)) m out) (rn (ρ ++ upFrom M.length (out.length - m.length)) c)) ∧
    (∀ c, c < M.length → ads M c = ads (backU (ρ ++ upFrom M.length (out.length - m.length)) ρ m out M ++ backN (ρ ++ upFrom M.length (out.length - m.length)) m out) c) ∧
    (backU (ρ ++ upFrom M.length (out.length - m.length)) ρ m out M ++ backN (ρ ++ upFrom M.length (out.length - m.length)) m out).length = M.length + (out.length - m.length) := by
  obtain ⟨ρ', hρ'⟩ : ∃ ρ', ρ' = ρ ++ upFrom M.length (out.length - m.length) := ⟨_, rfl⟩
  rw [← hρ']
  have hU := backU_spec ρ' ρ m out M hlen hx.len (fun k hkl => (hk k hkl).1) hap
  have hN := backN_spec ρ' m out hx.len
  obtain ⟨U, hUe⟩ : ∃ U, U = backU ρ' ρ m out M := ⟨_, rfl⟩
  obtain ⟨N, hNe⟩ : ∃ N, N = backN ρ' m out := ⟨_, rfl⟩
  rw [← hUe] at hU ⊢
  rw [← hNe] at hN ⊢
  have nth_app : ∀ (a b : List (Ck C)) (j : Nat), nth (a ++ b) j = if j < a.length then nth a j else nth b (j - a.length) := by
    intro a
    induction a with
    | nil => intro b j; simp
    | cons x a ih => intro b j; cases j with
      | zero => simp [nth]
      | succ j => simp [nth, ih]
  have hlenA : (U ++ N).length = M.length + (out.length - m.length) := by simp [hU.1, hN.1]
  -- places
  have hplace : ∀ c, c < M.length → (nth (U ++ N) c).block = (nth M c).block ∧ (nth (U ++ N) c).base = (nth M c).base ∧ (nth (U ++ N) c).sz = (nth M c).sz ∧ (nth (U ++ N) c).wr = (nth M c).wr ∧ (nth (U ++ N) c).gl = (nth M c).gl := by
    intro c hc
    rw [nth_app, if_pos (by rw [hU.1]; exact hc)]
    rcases hU.2 c with ⟨k, _, _, _, he⟩ | ⟨_, he⟩ <;> rw [he] <;> exact ⟨rfl, rfl, rfl, rfl, rfl⟩
  have hnew : ∀ j, j < out.length - m.length → nth (U ++ N) (M.length + j) = renCk ρ' (nth out (m.length + j)) := by
    intro j hj
    rw [nth_app, if_neg (by rw [hU.1]; omega), hU.1, show M.length + j - M.length = j by omega]
    exact hN.2 j hj
  have hadsM : ∀ c, c < M.length → ads M c = ads (U ++ N) c := by
    intro c hc
    obtain ⟨e1, e2, e3, _⟩ := hplace c hc
    simp [ads, Ck.ad, e1, e2, e3]
  have hadsO : ∀ c, c < out.length → ads out c = ads (U ++ N) (rn ρ' c) := by
    intro c hc
    rw [hρ', rn_append]
    by_cases hcm : c < m.length
    · rw [if_pos (by omega)]
      obtain ⟨h1, h2⟩ := hk c hcm
      rw [← hadsM _ h1]
      obtain ⟨e1, e2, e3, _⟩ := hx.same c hcm
      simp [ads, Ck.ad, e1, e2, e3, h2.block, h2.base, h2.sz]
    · rw [if_neg (by omega), rn_upFrom _ _ _ (by omega)]
      have := hnew (c - m.length) (by omega)
      rw [show M.length + (c - ρ.length) = M.length + (c - m.length) by omega]
      simp only [ads]
      rw [this, show m.length + (c - m.length) = c by omega]; rfl
  have hren : ∀ cs : Cells C, (match cs with | .one vs => SV.lts out.length vs | .it mc _ _ => Nat.blt mc out.length | _ => true) = true → ∀ (c : Ck C), c.cells = cs → Ck.ok (ads out) w' c → Ck.ok (ads (U ++ N)) w' { c with cells := renCells ρ' cs } := by
    intro cs hl c hcs hok
    subst hcs
    unfold Ck.ok at hok ⊢
    cases hcc : c.cells with
    | rows t l =>
      simp only [hcc, renCells] at hok ⊢
      refine ⟨hok.1, fun i hi f hf => ?_⟩
      rw [enc_flat (C t) (ads (U ++ N)) (ads out) _ f hf]
      exact hok.2 i hi f hf
    | one vs =>
      simp only [hcc, renCells] at hok hl ⊢
      have hrl : ∀ vs : List SV, (SV.rens ρ' vs).length = vs.length := by
        intro vs; induction vs with
        | nil => rfl
        | cons v r ih => simp [SV.rens, ih]
      have hrg : ∀ (vs : List SV) (f : Nat), (SV.rens ρ' vs).getD f .junk = (vs.getD f .junk).ren ρ' := by
        intro vs
        induction vs with
        | nil => intro f; rfl
        | cons v r ih => intro f; cases f with
          | zero => rfl
          | succ f => exact ih f
      refine ⟨by rw [hrl]; exact hok.1, fun f hf => ?_⟩
      rw [hrl] at hf
      have h2 := hok.2 f hf
      rw [hrg]
      have e := SV.va_ren hadsO _ (SV.lts_getD hl f)
      revert h2 e
      generalize vs.getD f .junk = v
      intro h2 e
      cases v <;> simp only [cellIs, SV.ren] at h2 ⊢ <;> first | exact h2 | exact h2.trans (congrArg some e)
    | mp tk tv l clk => simp only [hcc, renCells] at hok ⊢; exact hok
    | it mc seen clk =>
      simp only [hcc, renCells] at hok hl ⊢
      rw [← hadsO mc (by simpa using hl)]; exact hok
    | dead => simp only [renCells]
  have hrlive : ∀ cs : Cells C, ∀ c : Ck C, ({ c with cells := renCells ρ' cs } : Ck C).live = ({ c with cells := cs } : Ck C).live := by
    intro cs c; cases cs <;> rfl
  have houtlt : ∀ c, c ∈ out → (match c.cells with | .one vs => SV.lts out.length vs | .it mc _ _ => Nat.blt mc out.length | _ => true) = true := fun c hc => memLt_mem hol hc
  -- blocks that the callee may have turned
  have hSM : ∀ b, (wrS m).set b → ∃ k, k < m.length ∧ (nth m k).wr = true ∧ (nth m k).block = b ∧ (nth M (rn ρ k)).block = b ∧ (nth M (rn ρ k)).wr = true ∧ (nth M (rn ρ k)).live = true := by
    rintro b ⟨c, hc, hw, hb⟩
    obtain ⟨k, hkl, rfl⟩ := mem_nth hc
    obtain ⟨_, he⟩ := hk k hkl
    exact ⟨k, hkl, hw, hb, by rw [← he.block]; exact hb, he.wr hw, he.live (hwl _ hc hw)⟩
  have hblk : ∀ j, j < M.length → (nth M j).live = true → (∀ k, k < m.length → (nth m k).wr = true → rn ρ k ≠ j) → w'.heap[(nth M j).block]? = w.heap[(nth M j).block]? := by
    intro j hj hlv hno
    refine ho.keep _ (h.lt _ (nth_mem hj)) fun hS => ?_
    obtain ⟨k, hkl, hw, _, hb, hMw, hMl⟩ := hSM _ hS
    exact h.apart _ j (hk k hkl).1 hj (hno k hkl hw) hMw hMl hlv hb
  have hmore : More S w0 w' (U ++ N) := by
    refine h.more.mono h.inS (fun k hkw hno => ho.keep k hkw fun hS => ?_) (fun c hc hl => ?_) h.size
    · obtain ⟨j, hjl, _, _, hb, hMw, hMl⟩ := hSM _ hS
      exact hno _ (nth_mem (hk j hjl).1) hMw hMl hb
    · obtain ⟨j, hjl, rfl⟩ := mem_nth hc
      rw [hlenA] at hjl
      by_cases hjM : j < M.length
      · refine .inl ⟨nth M j, nth_mem hjM, ?_, (hplace j hjM).1.symm⟩
        rw [nth_app, if_pos (by rw [hU.1]; exact hjM)] at hl
        rcases hU.2 j with ⟨k, hkl, hkw, hjk, he⟩ | ⟨_, he⟩
        · have hck := (hk k hkl).2
          rw [← hjk]; exact hck.live (hwl _ (nth_mem hkl) hkw)
        · rw [he] at hl; exact hl
      · have e := hnew (j - M.length) (by omega)
        rw [show M.length + (j - M.length) = j by omega] at e
        rw [e] at hl ⊢
        rw [renCk_live] at hl
        have hin : m.length + (j - M.length) < out.length := by omega
        have hw := hx.new _ (by omega) hin hl
        show _ ∨ w.heap.size ≤ (nth out (m.length + (j - M.length))).block
        rcases Nat.lt_or_ge (nth out (m.length + (j - M.length))).block w.heap.size with hb | hb
        · have := ho.inS _ (nth_mem hin) hw hb
          obtain ⟨k, hkl, _, _, hkb, hMw, hMl⟩ := hSM _ this
          exact .inl ⟨_, nth_mem (hk k hkl).1, hMl, hkb⟩
        · exact .inr hb
  refine ⟨⟨ho.os.trans h.os, ho.tape.trans h.tape, ho.output.trans h.output, Nat.le_trans h.size ho.size, ?_, ?_, ?_, ?_, ?_, ?_, ?_, hmore⟩, hadsO, hadsM, hlenA⟩
  · intro k hkl hno
    have hkw : k < w.heap.size := Nat.lt_of_lt_of_le hkl h.size
    rw [ho.keep k hkw fun hS => ?_]
    · exact h.keep k hkl hno
    · obtain ⟨j, hjl, hw, _, hb, hMw, hMl⟩ := hSM _ hS
      exact hno (hb ▸ h.inS _ (nth_mem (hk j hjl).1) hMw (by rw [hb]; exact hkl))
  · intro c hc hw hb
    obtain ⟨j, hjl, rfl⟩ := mem_nth hc
    rw [hlenA] at hjl
    by_cases hjM : j < M.length
    · obtain ⟨e1, _, _, e4, _⟩ := hplace j hjM
      rw [e1] at hb ⊢
      rw [e4] at hw
      exact h.inS _ (nth_mem hjM) hw hb
    · have e := hnew (j - M.length) (by omega)
      rw [show M.length + (j - M.length) = j by omega] at e
      rw [e] at hw hb ⊢
      have hin : m.length + (j - M.length) < out.length := by omega
      have := ho.inS _ (nth_mem hin) hw (Nat.lt_of_lt_of_le hb h.size)
      obtain ⟨k, hkl, _, _, hkb, hMw, _⟩ := hSM _ this
      show S.set (nth out (m.length + (j - M.length))).block
      rw [← hkb]
      exact h.inS _ (nth_mem (hk k hkl).1) hMw (by rw [hkb]; exact hb)
  · intro c hc
    obtain ⟨j, hjl, rfl⟩ := mem_nth hc
    rw [hlenA] at hjl
    by_cases hjM : j < M.length
    · rw [nth_app, if_pos (by rw [hU.1]; exact hjM)]
      rcases hU.2 j with ⟨k, hkl, hw, hj, he⟩ | ⟨hno, he⟩
      · rw [he]
        have hko : k < out.length := Nat.lt_of_lt_of_le hkl hx.len
        have h1 := hren _ (houtlt _ (nth_mem hko)) (nth out k) rfl (ho.ok _ (nth_mem hko))
        obtain ⟨e1, e2, e3, _⟩ := hx.same k hkl
        have hck := (hk k hkl).2
        rw [hj] at hck
        unfold Ck.ok at h1 ⊢
        simp only [Ck.ad] at h1 ⊢
        rw [e1, e2, e3, hck.block, hck.base, hck.sz] at h1
        exact h1
      · rw [he]
        cases hlv : (nth M j).live with
        | false => unfold Ck.live at hlv; unfold Ck.ok; split at hlv <;> simp_all
        | true => exact Ck.ok_ads hadsM (memLt_mem hM (nth_mem hjM)) (Ck.ok_same (h.ok _ (nth_mem hjM)) (hblk j hjM hlv hno))
    · have e := hnew (j - M.length) (by omega)
      rw [show M.length + (j - M.length) = j by omega] at e
      rw [e]
      have hin : m.length + (j - M.length) < out.length := by omega
      have h1 := hren _ (houtlt _ (nth_mem hin)) _ rfl (ho.ok _ (nth_mem hin))
      unfold Ck.ok at h1 ⊢
      exact h1
  · intro c hc hw hl a ha
    obtain ⟨j, hjl, rfl⟩ := mem_nth hc
    rw [hlenA] at hjl
    by_cases hjM : j < M.length
    · obtain ⟨e1, _, _, e4, _⟩ := hplace j hjM
      rw [e1] at ha
      rw [e4] at hw
      rw [nth_app, if_pos (by rw [hU.1]; exact hjM)] at hl
      rcases hU.2 j with ⟨k, hkl, hkw, hj, he⟩ | ⟨hno, he⟩
      · rw [he, hrlive] at hl
        have hko : k < out.length := Nat.lt_of_lt_of_le hkl hx.len
        obtain ⟨f1, _, _, f4⟩ := hx.same k hkl
        have hck := (hk k hkl).2
        rw [hj] at hck
        refine ho.wrok _ (nth_mem hko) (by rw [f4]; exact hkw) hl a ?_
        rw [f1, hck.block]; exact ha
      · rw [he] at hl
        rw [World.frozen?_of_block (w := w) (by rw [ha]; exact hblk j hjM hl hno)]
        exact h.wrok _ (nth_mem hjM) hw hl a ha
    · have e := hnew (j - M.length) (by omega)
      rw [show M.length + (j - M.length) = j by omega] at e
      rw [e] at hw hl ha
      have hin : m.length + (j - M.length) < out.length := by omega
      rw [renCk_live] at hl
      exact ho.wrok _ (nth_mem hin) hw hl a ha
  · -- apart
    have old_live : ∀ j, j < M.length → (nth (U ++ N) j).live = true → (nth M j).live = true ∧ ((∃ k, k < m.length ∧ (nth m k).wr = true ∧ rn ρ k = j ∧ (nth out k).live = true) ∨ (∀ k, k < m.length → (nth m k).wr = true → rn ρ k ≠ j)) := by
      intro j hj hl
      rw [nth_app, if_pos (by rw [hU.1]; exact hj)] at hl
      rcases hU.2 j with ⟨k, hkl, hkw, hjk, he⟩ | ⟨hno, he⟩
      · rw [he, hrlive] at hl
        have hck := (hk k hkl).2
        refine ⟨?_, .inl ⟨k, hkl, hkw, hjk, hl⟩⟩
        rw [← hjk]; exact hck.live (hwl _ (nth_mem hkl) hkw)
      · rw [he] at hl; exact ⟨hl, .inr hno⟩
    have new_facts : ∀ j, M.length ≤ j → j < M.length + (out.length - m.length) → (nth (U ++ N) j).live = true →
        (nth (U ++ N) j).block = (nth out (m.length + (j - M.length))).block ∧ (nth out (m.length + (j - M.length))).live = true ∧ (nth out (m.length + (j - M.length))).wr = true := by
      intro j h1 h2 hl
      have e := hnew (j - M.length) (by omega)
      rw [show M.length + (j - M.length) = j by omega] at e
      rw [e] at hl ⊢
      rw [renCk_live] at hl
      exact ⟨rfl, hl, hx.new _ (by omega) (by omega) hl⟩
    have old_new : ∀ i j, i < M.length → M.length ≤ j → j < M.length + (out.length - m.length) → (nth (U ++ N) i).live = true → (nth (U ++ N) j).live = true → (nth (U ++ N) i).block ≠ (nth (U ++ N) j).block := by
      intro i j hi hj1 hj2 hil hjl
      obtain ⟨n1, n2, n3⟩ := new_facts j hj1 hj2 hjl
      have hin : m.length + (j - M.length) < out.length := by omega
      obtain ⟨o1, o2⟩ := old_live i hi hil
      rw [(hplace i hi).1, n1]
      rcases o2 with ⟨k, hkl, hkw, hki, hkl2⟩ | hno
      · have hck := (hk k hkl).2
        have hko : k < out.length := Nat.lt_of_lt_of_le hkl hx.len
        obtain ⟨f1, _, _, f4⟩ := hx.same k hkl
        have := ho.apart k _ hko hin (by omega) (by rw [f4]; exact hkw) hkl2 n2
        rw [f1, hck.block, hki] at this
        exact this
      · intro e
        have hlt := h.lt _ (nth_mem hi)
        have hS := ho.inS _ (nth_mem hin) n3 (by rw [← e]; exact hlt)
        obtain ⟨k, hkl, hkw, _, hb, hMw, hMl⟩ := hSM _ hS
        exact h.apart _ i (hk k hkl).1 hi (hno k hkl hkw) hMw hMl o1 (by rw [hb, e])
    intro i j hi hj hij hw hil hjl
    rw [hlenA] at hi hj
    by_cases hiM : i < M.length
    · by_cases hjM : j < M.length
      · obtain ⟨e1, _, _, e4, _⟩ := hplace i hiM
        rw [e1, (hplace j hjM).1]
        rw [e4] at hw
        exact h.apart i j hiM hjM hij hw (old_live i hiM hil).1 (old_live j hjM hjl).1
      · exact old_new i j hiM (by omega) hj hil hjl
    · by_cases hjM : j < M.length
      · exact (old_new j i hjM (by omega) hi hjl hil).symm
      · obtain ⟨n1, n2, n3⟩ := new_facts i (by omega) hi hil
        obtain ⟨m1, m2, m3⟩ := new_facts j (by omega) hj hjl
        rw [n1, m1]
        exact ho.apart _ _ (by omega) (by omega) (by omega) n3 n2 m2
  · intro c hc
    obtain ⟨j, hjl, rfl⟩ := mem_nth hc
    rw [hlenA] at hjl
    by_cases hjM : j < M.length
    · rw [(hplace j hjM).1]
      exact Nat.lt_of_lt_of_le (h.lt _ (nth_mem hjM)) ho.size
    · have e := hnew (j - M.length) (by omega)
      rw [show M.length + (j - M.length) = j by omega] at e
      rw [e]
      have hin : m.length + (j - M.length) < out.length := by omega
      exact ho.lt (nth out (m.length + (j - M.length))) (nth_mem hin)
  · intro c hc g hg
    obtain ⟨j, hjl, rfl⟩ := mem_nth hc
    rw [hlenA] at hjl
    by_cases hjM : j < M.length
    · obtain ⟨e1, e2, _, _, e5⟩ := hplace j hjM
      rw [e1, e2]
      rw [e5] at hg
      exact h.glob _ (nth_mem hjM) g hg
    · have e := hnew (j - M.length) (by omega)
      rw [show M.length + (j - M.length) = j by omega] at e
      rw [e] at hg; cases hg

end Go.Vx
namespace Go.Vx
open Go
variable {C : Nat → Codec}

/-- What is called. -/
inductive Tg where
  | fn (f : Nat)
  | inv (t : Nat) (name : String)

def tgSem (tg : Tg) (vals : Array Value) : Sem Next :=
  match tg with
  | .fn f => callFunc f vals
  | .inv t name => callMethod (.iface t (vals.getD 0 Go.undef)) name (vals.extract 1 vals.size)

def tgEq : Tg → Tg → Bool
  | .fn a, .fn b => Nat.beq a b
  | .inv t n, .inv u k => Nat.beq t u && decide (n = k)
  | _, _ => false
theorem tgEq_ok {a b : Tg} (h : tgEq a b = true) : a = b := by
  cases a <;> cases b <;> simp_all [tgEq]

/-- What a call of it does, begun with chunks m and arguments args. -/
def LocG (P : Program) (tg : Tg) (m : List (Ck C)) (args : List SV) (post : SV → List (Ck C) → Prop) : Prop :=
  ∀ w, MemOK (wrS m) w w m → ∃ f vals, (tgSem tg (SV.vas (ads m) args).toArray).run P w = .ok (.enter f vals) w ∧
    Calls P f vals w fun e w' => ∃ r m', e = .returned (r.va (ads m')) ∧ MemOK (wrS m) w w' m' ∧ Ext m m' ∧ post r m'

/-- One way in which a call may end. -/
structure Alt (C : Nat → Codec) where
  Y : Type
  post : Y → Prop
  res : Y → SV
  out : Y → List (Ck C)
/-- It ended in one of these ways. -/
def Ends (l : List (Alt C)) (f : (A : Alt C) → A.Y → Prop) : Prop := ∃ A ∈ l, ∃ y : A.Y, A.post y ∧ f A y
theorem Ends.one {Y : Type} {post : Y → Prop} {res : Y → SV} {out : Y → List (Ck C)} {f : (A : Alt C) → A.Y → Prop} {r : List (Alt C)} (y : Y) (h : post y) (hf : f ⟨Y, post, res, out⟩ y) : Ends (⟨Y, post, res, out⟩ :: r) f :=
  ⟨_, List.mem_cons_self .., y, h, hf⟩
theorem Ends.next {A : Alt C} {r : List (Alt C)} {f : (A : Alt C) → A.Y → Prop} (h : Ends r f) : Ends (A :: r) f := by
  obtain ⟨B, hB, y, h⟩ := h
  exact ⟨B, List.mem_cons_of_mem _ hB, y, h⟩

/-- A call that ends in one of these ways. -/
abbrev Does (P : Program) (tg : Tg) (mem : List (Ck C)) (args : List SV) (alts : List (Alt C)) : Prop :=
  LocG P tg mem args fun r m' => Ends alts fun A y => r = A.res y ∧ m' = A.out y
/-- A call that only tells something. -/
abbrev Tells (P : Program) (tg : Tg) (mem : List (Ck C)) (args : List SV) (res : SV) : Prop :=
  LocG P tg mem args fun r m' => r = res ∧ m' = mem

/-- A contract: arguments, chunks, what is asked and what is given, by variables X; 'mat' reads them off a caller's values. -/
structure Fc (P : Program) (C : Nat → Codec) where
  tg : Tg
  X : Type
  args : X → List SV
  mem : X → List (Ck C)
  pre : X → Prop
  alts : X → List (Alt C)
  mat : List SV → List (Ck C) → Option (X × List Nat)
  ok : ∀ x, pre x → LocG P tg (mem x) (args x) fun r m' => Ends (alts x) fun A y => r = A.res y ∧ m' = A.out y

/-- A contract of a call that only reads: its result is a function of what it is given. -/
structure Pc (P : Program) (C : Nat → Codec) where
  tg : Tg
  X : Type
  args : X → List SV
  mem : X → List (Ck C)
  pre : X → Prop
  res : X → SV
  mat : List SV → List (Ck C) → Option (X × List Nat)
  ok : ∀ x, pre x → LocG P tg (mem x) (args x) fun r m' => r = res x ∧ m' = mem x

/-- The first contract of that call that fits what the caller has. -/
def findFc {P : Program} (tg : Tg) (as : List SV) (m : List (Ck C)) : List (Fc P C) → Option (Sigma fun b : Fc P C => b.X × List Nat)
  | [] => none
  | b :: r => if tgEq b.tg tg then match b.mat as m with
      | some q => some ⟨b, q⟩
      | none => findFc tg as m r
    else findFc tg as m r
def findPc {P : Program} (tg : Tg) (as : List SV) (m : List (Ck C)) : List (Pc P C) → Option (Sigma fun b : Pc P C => b.X × List Nat)
  | [] => none
  | b :: r => if tgEq b.tg tg then match b.mat as m with
      | some q => some ⟨b, q⟩
      | none => findPc tg as m r
    else findPc tg as m r
theorem findFc_tg {P : Program} {tg : Tg} {as : List SV} {m : List (Ck C)} : ∀ {l : List (Fc P C)} {b : Fc P C} {q : b.X × List Nat}, findFc tg as m l = some ⟨b, q⟩ → b.tg = tg
  | [], _, _, h => by simp [findFc] at h
  | x :: r, b, q, h => by
    simp only [findFc] at h
    split at h
    · rename_i he
      split at h
      · simp only [Option.some.injEq, Sigma.mk.injEq] at h
        obtain ⟨rfl, _⟩ := h
        exact tgEq_ok he
      · exact findFc_tg h
    · exact findFc_tg h
theorem findPc_tg {P : Program} {tg : Tg} {as : List SV} {m : List (Ck C)} : ∀ {l : List (Pc P C)} {b : Pc P C} {q : b.X × List Nat}, findPc tg as m l = some ⟨b, q⟩ → b.tg = tg
  | [], _, _, h => by simp [findPc] at h
  | x :: r, b, q, h => by
    simp only [findPc] at h
    split at h
    · rename_i he
      split at h
      · simp only [Option.some.injEq, Sigma.mk.injEq] at h
        obtain ⟨rfl, _⟩ := h
        exact tgEq_ok he
      · exact findPc_tg h
    · exact findPc_tg h

def callTg (tm : Tm) (m : List (Ck C)) (al : List (Nat × Bool)) (c : Call) : Option (Tg × List SV) :=
  match c.callee with
  | .value f => match ev tm m al f, optAll (ev tm m al) c.args.toList with
    | some (.fn (.func g) first cap), some as => some (.fn g, first ++ as ++ cap)
    | _, _ => none
  | .invoke r name => match ev tm m al r, optAll (ev tm m al) c.args.toList with
    | some (.ifc t v), some as => some (.inv t name, v :: as)
    | _, _ => none
  | .builtin _ => none

theorem callTg_ok {P : Program} {n : Nat} {tm : Tm} {m : List (Ck C)} {a : Act} (h : ActOK (ads m) n tm a) (hg : GlOK m) {al : List (Nat × Bool)} (ha : AlOK tm al) {c : Call} {tg : Tg} {as : List SV}
    (hc : callTg tm m al c = some (tg, as)) {dst : Option Tmp} {ty : TypeId} {pos : String} {after : Array Edge} {g : Option (Nat × Bool)} (w : World) :
    (execOp a.eval ⟨dst, .call c, ty, pos, after, g⟩).run P w = (tgSem tg (SV.vas (ads m) as).toArray).run P w := by
  have hev := ev_ok h hg ha
  obtain ⟨callee, args, argTypes⟩ := c
  simp only [callTg] at hc
  split at hc
  · split at hc <;> try (first | contradiction | exact False.elim hc)
    rename_i f first cap as' hf has
    simp only [Option.some.injEq, Prod.mk.injEq] at hc
    obtain ⟨rfl, rfl⟩ := hc
    have e1 := hev _ _ hf
    have e2 := optAll_ok (g := SV.va (ads m)) hev has
    have e3 : args.map a.eval = (SV.vas (ads m) as').toArray := by apply Array.ext'; simp [SV.vas_eq, e2]
    simp [execOp, resolve, e1, e3, SV.va, Deferred.ofValue, invoke, tgSem, SV.vas_eq]
  · split at hc <;> try (first | contradiction | exact False.elim hc)
    rename_i t v as' hf has
    simp only [Option.some.injEq, Prod.mk.injEq] at hc
    obtain ⟨rfl, rfl⟩ := hc
    have e1 := hev _ _ hf
    have e2 := optAll_ok (g := SV.va (ads m)) hev has
    have e3 : args.map a.eval = (SV.vas (ads m) as').toArray := by apply Array.ext'; simp [SV.vas_eq, e2]
    simp [execOp, resolve, e1, e3, SV.va, invoke, tgSem, SV.vas]
  · cases hc

def wrLive : List (Ck C) → Bool
  | [] => true
  | c :: r => (!c.wr || c.live) && wrLive r
theorem wrLive_ok {m : List (Ck C)} (h : wrLive m = true) : ∀ c ∈ m, c.wr = true → c.live = true := by
  induction m with
  | nil => intro c hc; cases hc
  | cons x r ih =>
    simp only [wrLive, Bool.and_eq_true, Bool.or_eq_true, Bool.not_eq_true'] at h
    intro c hc hw
    rcases List.mem_cons.1 hc with rfl | hc
    · rcases h.1 with h | h
      · rw [hw] at h; cases h
      · exact h
    · exact ih h.2 c hc hw

/-- What follows, in each way that the call may end. -/
def altsP (K : SV → List (Ck C) → Tr) (ρ : List Nat) (mem M : List (Ck C)) : List (Alt C) → Tr
  | [] => .yes
  | A :: r => .and (.all fun y => .imp (A.post y)
      (match memLt (A.out y).length (A.out y) && SV.lt (A.out y).length (A.res y) with
      | true => K ((A.res y).ren (ρ ++ upFrom M.length ((A.out y).length - mem.length)))
          (backU (ρ ++ upFrom M.length ((A.out y).length - mem.length)) ρ mem (A.out y) M ++ backN (ρ ++ upFrom M.length ((A.out y).length - mem.length)) mem (A.out y))
      | false => .no)) (altsP K ρ mem M r)
theorem altsP_ok {K : SV → List (Ck C) → Tr} {ρ : List Nat} {mem M : List (Ck C)} : ∀ {l : List (Alt C)}, (altsP K ρ mem M l).holds → ∀ A ∈ l, ∀ y : A.Y, A.post y →
    memLt (A.out y).length (A.out y) = true ∧ SV.lt (A.out y).length (A.res y) = true ∧ (K ((A.res y).ren (ρ ++ upFrom M.length ((A.out y).length - mem.length)))
          (backU (ρ ++ upFrom M.length ((A.out y).length - mem.length)) ρ mem (A.out y) M ++ backN (ρ ++ upFrom M.length ((A.out y).length - mem.length)) mem (A.out y))).holds
  | [], _, A, hA, _, _ => by cases hA
  | B :: r, h, A, hA, y, hy => by
    rcases List.mem_cons.1 hA with rfl | hA
    · have h1 := h.1 y hy
      split at h1 <;> try (first | contradiction | exact False.elim h1)
      rename_i hc
      simp only [Bool.and_eq_true] at hc
      exact ⟨hc.1, hc.2, h1⟩
    · exact altsP_ok h.2 A hA y hy

def callP {P : Program} (fcs : List (Fc P C)) (tm : Tm) (m : List (Ck C)) (al : List (Nat × Bool)) (c : Call) (K : SV → List (Ck C) → Tr) : Tr :=
  match callTg tm m al c with
  | none => .no
  | some (tg, as) => match findFc tg as m fcs with
    | none => .no
    | some ⟨b, x, ρ⟩ => match memLt m.length m && tmLt m.length tm && memLt (b.mem x).length (b.mem x) && SV.lts (b.mem x).length (b.args x) && apartB ρ (b.mem x) && wrLive (b.mem x) with
        | false => .no
        | true => match eqvs (SV.rens ρ (b.args x)) as, cksEq ρ m ρ (b.mem x) with
          | some ps, some qs => conj ps (conj qs (.and (.lf (b.pre x)) (altsP K ρ (b.mem x) m (b.alts x))))
          | _, _ => .no

def noWr : List (Ck C) → Bool
  | [] => true
  | c :: r => !c.wr && noWr r

def callQ {P : Program} (pcs : List (Pc P C)) (tm : Tm) (m : List (Ck C)) (al : List (Nat × Bool)) (o : Op) : Ans :=
  match o with
  | .call c => match callTg tm m al c with
    | none => none
    | some (tg, as) => match findPc tg as m pcs with
      | none => none
      | some ⟨b, x, ρ⟩ => match memLt m.length m && memLt (b.mem x).length (b.mem x) && SV.lts (b.mem x).length (b.args x) && SV.lt (b.mem x).length (b.res x) && noWr (b.mem x) with
          | false => none
          | true => match eqvs (SV.rens ρ (b.args x)) as, cksEq ρ m ρ (b.mem x) with
            | some ps, some qs => some (ps ++ qs ++ [b.pre x], (b.res x).ren ρ)
            | _, _ => none
  | _ => none

theorem noWr_ok {m : List (Ck C)} (h : noWr m = true) : ∀ c ∈ m, c.wr = false := by
  induction m with
  | nil => intro c hc; cases hc
  | cons x r ih =>
    simp only [noWr, Bool.and_eq_true, Bool.not_eq_true'] at h
    intro c hc
    rcases List.mem_cons.1 hc with rfl | hc
    · exact h.1
    · exact ih h.2 c hc

theorem vas_rens {n : Nat} {ρ : List Nat} {ad ad' : Nat → Ad} (h : ∀ c, c < n → ad c = ad' (rn ρ c)) {vs as : List SV} (hl : SV.lts n vs = true) {ps : List Prop} (he : eqvs (SV.rens ρ vs) as = some ps) (hp : allOf ps) :
    SV.vas ad vs = SV.vas ad' as := by
  rw [SV.vas_ren h vs hl, eqvs_ok ad' _ _ ps he hp]

/-- What an operation must lead to. -/
def OpTo (P : Program) (S : Sx) (w0 : World) (n : Nat) (tm : Tm) (m : List (Ck C)) (o : Oper) (a : Act) (w : World) (K : SV → List (Ck C) → Tr) : Prop :=
  ∀ (next : Act → World → Prop) (Q : Exit → Act → World → Prop),
    (∀ r m' w' v, K r m' → MemOK S w0 w' m' → ActOK (ads m') n tm a → v = r.va (ads m') → (m.length ≤ m'.length ∧ ∀ k, k < m.length → ads m k = ads m' k) → next (a.put o.dst v) w') → o.wp P a w next Q

theorem callP_ok {P : Program} {S : Sx} {w0 w : World} {n : Nat} {tm : Tm} {m : List (Ck C)} {a : Act} (h : ActOK (ads m) n tm a) (hm : MemOK S w0 w m) {al : List (Nat × Bool)} (ha : AlOK tm al)
    {fcs : List (Fc P C)} {c : Call} {dst : Option Tmp} {ty : TypeId} {pos : String} {after : Array Edge} {g : Option (Nat × Bool)} {K : SV → List (Ck C) → Tr} (hK : callP fcs tm m al c K) :
    OpTo P S w0 n tm m ⟨dst, .call c, ty, pos, after, g⟩ a w K := by
  unfold callP at hK
  split at hK <;> try (first | contradiction | exact False.elim hK)
  rename_i tg as htg
  split at hK <;> try (first | contradiction | exact False.elim hK)
  rename_i b x ρ hb
  split at hK <;> try (first | contradiction | exact False.elim hK)
  rename_i hc
  simp only [Bool.and_eq_true] at hc
  obtain ⟨⟨⟨⟨⟨c1, c2⟩, c3⟩, c4⟩, c5⟩, c6⟩ := hc
  split at hK <;> try (first | contradiction | exact False.elim hK)
  rename_i ps qs hps hqs
  obtain ⟨hps', hK⟩ := (conj_iff _ _).1 hK
  obtain ⟨hqs', hK⟩ := (conj_iff _ _).1 hK
  obtain ⟨hpre, hK⟩ := hK
  obtain ⟨hlen, hk⟩ := cksEq_ok hqs hqs'
  have hk' : ∀ k, k < (b.mem x).length → rn ρ k < m.length ∧ CkEq ρ (nth (b.mem x) k) (nth m (rn ρ k)) := fun k hkl => by
    obtain ⟨h1, qs, h2, h3⟩ := hk k hkl
    exact ⟨h1, ckEq_ok h2 h3⟩
  have hap := apartB_ok c5 hlen
  obtain ⟨hent, hads⟩ := hm.enter c3 hk' hap
  have hvals := vas_rens hads c4 hps hps'
  have hex := callTg_ok (P := P) h hm.glob ha htg (dst := dst) (ty := ty) (pos := pos) (after := after) (g := g) w
  obtain ⟨f, vals, hrun, hcalls⟩ := b.ok x hpre w hent
  rw [findFc_tg hb, hvals] at hrun
  intro next Q hnext
  unfold Oper.wp
  rw [hex, hrun]
  simp only [Oper.upon]
  refine hcalls.mono ?_
  rintro e w' ⟨r, m', he, hm', hext, A, hA, y, hy, rfl, rfl⟩
  subst he
  simp only
  obtain ⟨hol1, hol2, hKy⟩ := altsP_ok hK A hA y hy
  have hol := And.intro hol1 hol2
  obtain ⟨hback, hadsO, hadsM, hlenM⟩ := hm.back c1 hlen hk' hap (wrLive_ok c6) hm' hext hol.1
  exact hnext _ _ w' _ hKy hback (h.ads hadsM c2) (SV.va_ren hadsO _ hol.2) ⟨by omega, hadsM⟩

theorem callQ_ok {P : Program} {S : Sx} {w0 w : World} {n : Nat} {tm : Tm} {m : List (Ck C)} {a : Act} (h : ActOK (ads m) n tm a) (hm : MemOK S w0 w m) {al : List (Nat × Bool)} (ha : AlOK tm al)
    {pcs : List (Pc P C)} {o : Oper} {ps : List Prop} {r : SV} (hK : callQ pcs tm m al o.op = some (ps, r)) (hp : allOf ps) :
    ∃ f vals, (execOp a.eval o).run P w = .ok (.enter f vals) w ∧ Calls P f vals w fun e w' => e = .returned (r.va (ads m)) ∧ MemOK S w0 w' m := by
  obtain ⟨dst, op, ty, pos, after, g⟩ := o
  simp only at hK
  cases op <;> simp only [callQ] at hK <;> try contradiction
  rename_i c
  split at hK <;> try (first | contradiction | exact False.elim hK)
  rename_i tg as htg
  split at hK <;> try (first | contradiction | exact False.elim hK)
  rename_i b x ρ hb
  split at hK <;> try (first | contradiction | exact False.elim hK)
  rename_i hc
  simp only [Bool.and_eq_true] at hc
  obtain ⟨⟨⟨⟨c1, c2⟩, c3⟩, c4⟩, c5⟩ := hc
  split at hK <;> try (first | contradiction | exact False.elim hK)
  rename_i ps' qs hps hqs
  simp only [Option.some.injEq, Prod.mk.injEq] at hK
  obtain ⟨rfl, rfl⟩ := hK
  obtain ⟨hpq, hpre⟩ := (allOf_append _ _).1 hp
  obtain ⟨hps', hqs'⟩ := (allOf_append _ _).1 hpq
  simp only [allOf, and_true] at hpre
  obtain ⟨hlen, hk⟩ := cksEq_ok hqs hqs'
  have hk' : ∀ k, k < (b.mem x).length → rn ρ k < m.length ∧ CkEq ρ (nth (b.mem x) k) (nth m (rn ρ k)) := fun k hkl => by
    obtain ⟨h1, qs, h2, h3⟩ := hk k hkl
    exact ⟨h1, ckEq_ok h2 h3⟩
  have hnw := noWr_ok c5
  have hap : ∀ i j, i < (b.mem x).length → j < (b.mem x).length → i ≠ j → (nth (b.mem x) i).wr = true → rn ρ i ≠ rn ρ j := by
    intro i j hi _ _ hw
    rw [hnw _ (nth_mem hi)] at hw; cases hw
  obtain ⟨hent, hads⟩ := hm.enter c2 hk' hap
  have hvals := vas_rens hads c3 hps hps'
  have hex := callTg_ok (P := P) h hm.glob ha htg (dst := dst) (ty := ty) (pos := pos) (after := after) (g := g) w
  obtain ⟨f, vals, hrun, hcalls⟩ := b.ok x hpre w hent
  rw [findPc_tg hb, hvals] at hrun
  refine ⟨f, vals, by rw [hex, hrun], hcalls.mono ?_⟩
  rintro e w' ⟨r, m', he, hm', hext, rfl, rfl⟩
  subst he
  obtain ⟨hback, _, _, _⟩ := hm.back c1 hlen hk' hap (fun c hc hw => by rw [hnw c hc] at hw; cases hw) hm' hext c2
  have hU : ∀ (ρ' : List Nat) (r : List Nat) (s out M : List (Ck C)), (∀ c ∈ s, c.wr = false) → backU ρ' r s out M = M := by
    intro ρ' r
    induction r with
    | nil => intro s out M _; cases s <;> cases out <;> rfl
    | cons p r ih =>
      intro s out M hs
      cases s with
      | nil => cases out <;> rfl
      | cons a s =>
        cases out with
        | nil => rfl
        | cons o out =>
          simp only [backU, hs a (by simp)]
          exact ih s out M (fun c hc => hs c (by simp [hc]))
  have hN : ∀ (ρ' : List Nat) (s : List (Ck C)), backN ρ' s s = [] := by
    intro ρ' s
    induction s with
    | nil => rfl
    | cons a s ih => exact ih
  rw [hU _ _ _ _ _ hnw, hN, List.append_nil] at hback
  exact ⟨by rw [SV.va_ren hads _ c4], hback⟩

end Go.Vx
namespace Go.Vx
open Go
variable {C : Nat → Codec}

/-- A list's length worked out. -/
def fL {α : Type 1} : List α → (List α → Tr) → Tr
  | [], K => K []
  | x :: r, K => fL r fun r => K (x :: r)
theorem fL_eq {α : Type 1} : ∀ (l : List α) (K : List α → Tr), fL l K = K l
  | [], _ => rfl
  | x :: r, K => by simp only [fL, fL_eq r]
def fLN : List Nat → (List Nat → Tr) → Tr
  | [], K => K []
  | x :: r, K => fLN r fun r => K (x :: r)
theorem fLN_eq : ∀ (l : List Nat) (K : List Nat → Tr), fLN l K = K l
  | [], _ => rfl
  | x :: r, K => by simp only [fLN, fLN_eq r]

def fN : Nat → (Nat → Tr) → Tr
  | 0, K => K 0
  | n + 1, K => fN n fun k => K (k + 1)
theorem fN_eq : ∀ (n : Nat) (K : Nat → Tr), fN n K = K n
  | 0, _ => rfl
  | n + 1, K => by simp only [fN, fN_eq n]

mutual
def fSV : SV → (SV → Tr) → Tr
  | .junk, K => K .junk
  | .undef, K => K .undef
  | .int k n, K => K (.int k n)
  | .bool .t, K => K (.bool .t)
  | .bool .f, K => K (.bool .f)
  | .bool (.tm b), K => K (.bool (.tm b))
  | .ptr c i f, K => fN c fun c => K (.ptr c i f)
  | .nilp, K => K .nilp
  | .sl c i n m, K => fN c fun c => K (.sl c i n m)
  | .nils, K => K .nils
  | .agg vs, K => fSVs vs fun vs => K (.agg vs)
  | .tup vs, K => fSVs vs fun vs => K (.tup vs)
  | .ifc t v, K => fSV v fun v => K (.ifc t v)
  | .nili, K => K .nili
  | .fn f a b, K => fSVs a fun a => fSVs b fun b => K (.fn f a b)
  | .nilf, K => K .nilf
  | .gp g, K => K (.gp g)
  | .mp c, K => fN c fun c => K (.mp c)
  | .val v, K => K (.val v)
  | .cnd cs v, K => fSV v fun v => K (.cnd cs v)
def fSVs : List SV → (List SV → Tr) → Tr
  | [], K => K []
  | v :: r, K => fSV v fun v => fSVs r fun r => K (v :: r)
end
mutual
theorem fSV_eq : ∀ (v : SV) (K : SV → Tr), fSV v K = K v
  | .junk, _ => by simp only [fSV]
  | .undef, _ => by simp only [fSV]
  | .int _ _, _ => by simp only [fSV]
  | .bool .t, _ => by simp only [fSV]
  | .bool .f, _ => by simp only [fSV]
  | .bool (.tm _), _ => by simp only [fSV]
  | .ptr _ _ _, _ => by simp only [fSV, fN_eq]
  | .nilp, _ => by simp only [fSV]
  | .sl _ _ _ _, _ => by simp only [fSV, fN_eq]
  | .nils, _ => by simp only [fSV]
  | .agg vs, _ => by simp only [fSV, fSVs_eq vs]
  | .tup vs, _ => by simp only [fSV, fSVs_eq vs]
  | .ifc _ v, _ => by simp only [fSV, fSV_eq v]
  | .nili, _ => by simp only [fSV]
  | .fn _ a b, _ => by simp only [fSV, fSVs_eq a, fSVs_eq b]
  | .nilf, _ => by simp only [fSV]
  | .gp _, _ => by simp only [fSV]
  | .mp _, _ => by simp only [fSV, fN_eq]
  | .val _, _ => by simp only [fSV]
  | .cnd _ v, _ => by simp only [fSV, fSV_eq v]
theorem fSVs_eq : ∀ (l : List SV) (K : List SV → Tr), fSVs l K = K l
  | [], _ => by simp only [fSVs]
  | v :: r, _ => by simp only [fSVs, fSV_eq v, fSVs_eq r]
end

/-- The slot written last. -/
def fTm1 : Tm → (Tm → Tr) → Tr
  | [], K => K []
  | (k, v) :: r, K => fSV v fun v => K ((k, v) :: r)
theorem fTm1_eq (tm : Tm) (K : Tm → Tr) : fTm1 tm K = K tm := by
  cases tm with
  | nil => rfl
  | cons x r => simp only [fTm1, fSV_eq]
/-- All slots. -/
def fTm : Tm → (Tm → Tr) → Tr
  | [], K => K []
  | (k, v) :: r, K => fSV v fun v => fTm r fun r => K ((k, v) :: r)
theorem fTm_eq : ∀ (tm : Tm) (K : Tm → Tr), fTm tm K = K tm
  | [], _ => rfl
  | (k, v) :: r, K => by simp only [fTm, fSV_eq, fTm_eq r]

def fCs : Cells C → (Cells C → Tr) → Tr
  | .rows t l, K => K (.rows t l)
  | .one vs, K => fSVs vs fun vs => K (.one vs)
  | .mp tk tv l clk, K => K (.mp tk tv l clk)
  | .it mc seen clk, K => fN mc fun mc => K (.it mc seen clk)
  | .dead, K => K .dead
theorem fCs_eq (c : Cells C) (K : Cells C → Tr) : fCs c K = K c := by
  cases c <;> simp only [fCs, fSVs_eq, fN_eq]
/-- The chunks. -/
def fM : List (Ck C) → (List (Ck C) → Tr) → Tr
  | [], K => K []
  | ⟨b, ba, sz, w, g, cs⟩ :: r, K => fCs cs fun cs => fM r fun r => K (⟨b, ba, sz, w, g, cs⟩ :: r)
theorem fM_eq : ∀ (m : List (Ck C)) (K : List (Ck C) → Tr), fM m K = K m
  | [], _ => rfl
  | ⟨_, _, _, _, _, cs⟩ :: r, K => by simp only [fM, fCs_eq, fM_eq r]

end Go.Vx
set_option linter.unusedVariables false
namespace Go.Vx
open Go

/-- An entry of a map. -/
abbrev Ent' (c d : Codec) := c.α × d.α × Nat
def entryOf (c d : Codec) (e : Ent' c d) : MapEntry := ⟨packV c e.1, packV d e.2.1, e.2.2⟩
/-- Where a key is found, and with what. -/
def mfix (c d : Codec) (q : c.α) : List (Ent' c d) → Nat → Option (Nat × d.α)
  | [], _ => none
  | e :: r, i => match c.beq q e.1 with
    | true => some (i, e.2.1)
    | false => mfix c d q r (i + 1)
def mhas (c d : Codec) (l : List (Ent' c d)) (q : c.α) : Bool := (mfix c d q l 0).isSome
def mget (c d : Codec) (l : List (Ent' c d)) (q : c.α) : d.α := ((mfix c d q l 0).map (·.2)).getD d.dflt
def mputGo (c d : Codec) (q : c.α) (x : d.α) (clk : Nat) : List (Ent' c d) → List (Ent' c d)
  | [] => [(q, x, clk)]
  | e :: r => match c.beq q e.1 with
    | true => (q, x, e.2.2) :: r
    | false => e :: mputGo c d q x clk r
def mput (c d : Codec) (l : List (Ent' c d)) (q : c.α) (x : d.α) (clk : Nat) : List (Ent' c d) := mputGo c d q x clk l
def mclk (c d : Codec) (l : List (Ent' c d)) (q : c.α) (clk : Nat) : Nat := if mhas c d l q then clk else clk + 1
def mdel (c d : Codec) (l : List (Ent' c d)) (q : c.α) : List (Ent' c d) := match mfix c d q l 0 with
  | some (i, _) => l.eraseIdx i
  | none => l

def mstamp (c d : Codec) (l : List (Ent' c d)) (q : c.α) (clk : Nat) : Nat := match mfix c d q l 0 with
  | some (i, _) => ((l[i]?).map (·.2.2)).getD 0
  | none => clk
def mset (c d : Codec) (s : Nat) (x : d.α) : List (Ent' c d) → List (Ent' c d)
  | [] => []
  | e :: r => match Nat.beq e.2.2 s with
    | true => (e.1, x, e.2.2) :: r
    | false => e :: mset c d s x r
def mhasS (c d : Codec) (l : List (Ent' c d)) (s : Nat) : Bool := l.any fun e => Nat.beq e.2.2 s
/-- The entry of that stamp. -/
def mat (c d : Codec) (s : Nat) : List (Ent' c d) → Ent' c d
  | [] => (c.dflt, d.dflt, 0)
  | e :: r => match Nat.beq e.2.2 s with
    | true => e
    | false => mat c d s r
def lastS (l : List Nat) : Nat := l.getLast?.getD 0

/-- A codec's keys are told apart as the model does. -/
structure KeyOK (P : Program) (t : TypeId) (c : Codec) : Prop where
  chk : ∀ (b : Bool) (x : c.α) (w : World), (Instr.checkKey b 10000 t (packV c x)).run P w = .ok () w
  find : ∀ (d : Codec) (l : List (Ent' c d)) (q : c.α) (w : World), (Instr.findKey t (packV c q) (l.map (entryOf c d))).run P w = .ok ((mfix c d q l 0).map fun p => (p.1, packV d p.2)) w
  bits : ∀ x y, c.beq x y = true → Instr.sameBits 10000 (packV c y) (packV c x) = true
/-- '==' of a codec's things. -/
structure EqOK (P : Program) (t : TypeId) (c : Codec) : Prop where
  eq : ∀ (x y : c.α) (w : World), (Op.equal t (packV c x) (packV c y)).run P w = .ok (c.beq x y) w
  guard : P.eqGuardType P.depth t = false
/-- The zero value of a type is the codec's own. -/
structure ZeroIs (P : Program) (t : TypeId) (c : Codec) : Prop where
  z : ∀ w : World, (zeroValue t).run P w = .ok (packV c c.dflt) w

/-- A value read as one of a codec's things. -/
def decV (c : Codec) (v : SV) : Option c.α := match c.agg, v with
  | true, .agg vs => match Nat.beq vs.length c.sz with
    | true => updParts c c.dflt 0 vs
    | false => none
  | true, _ => none
  | false, v => match Nat.beq c.sz 1, v.cell with
    | true, true => c.upd c.dflt 0 v
    | _, _ => none
def encV (c : Codec) (x : c.α) : SV := match c.agg with
  | true => .agg (c.enc x)
  | false => (c.enc x).getD 0 .undef

theorem encV_va (c : Codec) (x : c.α) (ad : Nat → Ad) : (encV c x).va ad = packV c x := by
  unfold encV packV
  have hf := c.flat x ad noAd
  cases c.agg with
  | true => simp only [SV.va, SV.vas_eq]; rw [hf]
  | false =>
    have := congrArg (fun l => l[0]?) hf
    simp only [List.getElem?_map] at this
    simp only [List.getD_eq_getElem?_getD]
    cases h : (c.enc x)[0]? with
    | none => rfl
    | some v => rw [h] at this; simpa using this

theorem updParts'_vas (c : Codec) (ad : Nat → Ad) : ∀ (vs : List SV) (x y : c.α) (f : Nat), updParts' c x f vs = some y → f + vs.length ≤ c.sz →
    (c.enc y).map (SV.va ad) = ((c.enc x).map (SV.va ad)).take f ++ vs.map (SV.va ad) ++ ((c.enc x).map (SV.va ad)).drop (f + vs.length)
  | [], x, y, f, h, _ => by
    simp only [updParts', Option.some.injEq] at h; subst h
    simp
  | v :: vs, x, y, f, h, hl => by
    simp only [updParts'] at h
    split at h
    · rename_i z hz
      simp only [List.length_cons] at hl
      have ih := updParts'_vas c ad vs z y (f + 1) h (by omega)
      have hu := c.upd_ok ad x f v z hz
      have hlen : ((c.enc x).map (SV.va ad)).length = c.sz := by simp [c.len]
      rw [ih, hu]
      generalize (c.enc x).map (SV.va ad) = L at hlen
      have hf : f < L.length := by omega
      have hft : (L.take f).length = f := by rw [List.length_take]; omega
      rw [List.set_eq_take_append_cons_drop, if_pos hf]
      have h1 : (L.take f ++ SV.va ad v :: L.drop (f + 1)).take (f + 1) = L.take f ++ [SV.va ad v] := by
        rw [List.take_append, hft, List.take_of_length_le (by omega), show f + 1 - f = 1 by omega]; rfl
      have h2 : (L.take f ++ SV.va ad v :: L.drop (f + 1)).drop (f + 1 + vs.length) = L.drop (f + (v :: vs).length) := by
        rw [List.drop_append, hft, List.drop_of_length_le (by omega), show f + 1 + vs.length - f = vs.length + 1 by omega]
        simp only [List.nil_append, List.drop_succ_cons, List.drop_drop, List.length_cons]
        congr 1; omega
      rw [h1, h2]
      simp
    · cases h
theorem updParts_vas (c : Codec) (ad : Nat → Ad) (vs : List SV) (x y : c.α) (h : updParts c x 0 vs = some y) (hl : vs.length ≤ c.sz) :
    (c.enc y).map (SV.va ad) = vs.map (SV.va ad) ++ ((c.enc x).map (SV.va ad)).drop vs.length := by
  simp only [updParts] at h
  split at h
  · rename_i y' hw
    simp only [Option.some.injEq] at h; subst h
    have e := c.whole_ok ad _ _ hw
    have hl' := congrArg List.length e
    simp only [List.length_map, c.len] at hl'
    rw [e, List.drop_of_length_le (by simp [c.len, hl']), List.append_nil]
  · have := updParts'_vas c ad vs x y 0 h (by omega)
    simpa using this
theorem decV_ok {c : Codec} {v : SV} {x : c.α} (h : decV c v = some x) (ad : Nat → Ad) : packV c x = v.va ad := by
  unfold decV at h
  unfold packV
  split at h
  · rename_i vs ha
    split at h
    · rename_i hl
      have hl := Nat.eq_of_beq_eq_true hl
      rw [ha]
      have := updParts_vas c ad vs _ _ h (by omega)
      rw [List.drop_of_length_le (by simp [c.len, hl])] at this
      simp only [SV.va, SV.vas_eq]
      rw [c.flat x noAd ad, this, List.append_nil]
    · cases h
  · cases h
  · rename_i ha
    split at h
    · rename_i hs hc
      have hs := Nat.eq_of_beq_eq_true hs
      rw [ha]
      have hu := c.upd_ok ad _ _ _ _ h
      have hlen := c.len c.dflt
      have e := c.flat x noAd ad
      rw [hu] at e
      have h0 := congrArg (fun l => l[0]?) e
      simp only [List.getElem?_map] at h0
      rw [List.getElem?_set_self (by simp [hlen, hs])] at h0
      cases hx : (c.enc x)[0]? with
      | none => rw [hx] at h0; cases h0
      | some u => rw [hx] at h0; simpa [List.getD_eq_getElem?_getD, hx] using h0
    · cases h

/-! The model's own steps. -/
section
variable {P : Program} {w : World} {c d : Codec}
theorem obj_toList (l : List (Ent' c d)) : (l.map fun e => (⟨packV c e.1, packV d e.2.1, e.2.2⟩ : MapEntry)) = l.map (entryOf c d) := rfl
theorem mfix_lt {q : c.α} : ∀ {l : List (Ent' c d)} {i k : Nat} {x : d.α}, mfix c d q l i = some (k, x) → i ≤ k ∧ k < i + l.length ∧ ∃ e, l[k - i]? = some e ∧ c.beq q e.1 = true ∧ e.2.1 = x
  | [], _, _, _, h => by cases h
  | e :: r, i, k, x, h => by
    simp only [mfix] at h
    split at h
    · rename_i hb
      simp only [Option.some.injEq, Prod.mk.injEq] at h
      obtain ⟨rfl, rfl⟩ := h
      exact ⟨Nat.le_refl _, by simp, e, by simp, hb, rfl⟩
    · obtain ⟨h1, h2, e', h3, h4⟩ := mfix_lt h
      refine ⟨by omega, by simp only [List.length_cons]; omega, e', ?_, h4⟩
      rw [show k - i = (k - (i + 1)) + 1 by omega]; simpa using h3

theorem run_obj {b : Nat} {es : Array MapEntry} {clk : Nat} (hb : w.heap[b]? = some (.map es clk)) : (getObj b).run P w = .ok (.map es clk) w := by simp [getObj, Sem.run, hb]
theorem run_iter {r : Nat} {mb : Option Nat} {a z : Nat} {sn : Array Nat} (hr : w.heap[r]? = some (.mapIter mb a sn z)) : (getObj r).run P w = .ok (.mapIter mb a sn z) w := by simp [getObj, Sem.run, hr]
theorem run_put {b : Nat} {es : Array MapEntry} {clk : Nat} (o' : Obj) (hb : w.heap[b]? = some (.map es clk)) : (setObj b o').run P w = .ok () (w.putObj b o') := by simp [setObj, Sem.run, hb, World.putObj]
theorem run_lookup {xt kt et : TypeId} {b : Nat} (ht : P.underlying xt = some (.map kt et)) (hk : KeyOK P kt c) (hz : ZeroIs P et d) {l : List (Ent' c d)} {clk : Nat} (hb : w.heap[b]? = some (.map (l.map (entryOf c d)).toArray clk)) (q : c.α) (ok : Bool) :
    (Instr.lookup xt (.map (some b)) (packV c q) ok).run P w = .ok (if ok then .tuple #[packV d (mget c d l q), .bool (mhas c d l q)] else packV d (mget c d l q)) w := by
  have hf := hk.find d l q w
  have hc := hk.chk (l.map (entryOf c d)).toArray.isEmpty q w
  unfold mget mhas
  cases hm : mfix c d q l 0 with
  | none =>
    rw [hm] at hf
    cases ok <;> simp_all [Instr.lookup, run_underlying' ht, run_obj hb, hz.z w]
  | some p =>
    obtain ⟨i, x⟩ := p
    rw [hm] at hf
    cases ok <;> simp_all [Instr.lookup, run_underlying' ht, run_obj hb, hz.z w]
theorem run_maplen {t : TypeId} {kt et ty : TypeId} {b : Nat} (ht : P.underlying t = some (.map kt et)) {l : List (Ent' c d)} {clk : Nat} (hb : w.heap[b]? = some (.map (l.map (entryOf c d)).toArray clk)) :
    (Builtin.len_ #[t] ty #[.map (some b)]).run P w = .ok (.int .i64 l.length) w := by
  simp [Builtin.len_, run_underlying' ht, run_obj hb, goInt]
theorem mput_some {q : c.α} {x : d.α} {clk : Nat} : ∀ {l : List (Ent' c d)} {i k : Nat} {y : d.α}, mfix c d q l i = some (k, y) →
    (l.map (entryOf c d)).modify (k - i) (fun e => { e with key := packV c q, val := packV d x }) = (mputGo c d q x clk l).map (entryOf c d)
  | [], _, _, _, h => by cases h
  | e :: r, i, k, y, h => by
    simp only [mfix] at h
    split at h
    · rename_i hb
      simp only [Option.some.injEq, Prod.mk.injEq] at h
      obtain ⟨rfl, rfl⟩ := h
      simp [mputGo, hb, entryOf]
    · rename_i hb
      obtain ⟨h1, _⟩ := mfix_lt h
      rw [show k - i = (k - (i + 1)) + 1 by omega]
      simp only [List.map_cons, List.modify_succ_cons, mputGo, hb]
      rw [mput_some h]
theorem mput_none {q : c.α} {x : d.α} {clk : Nat} : ∀ {l : List (Ent' c d)} {i : Nat}, mfix c d q l i = none → mputGo c d q x clk l = l ++ [(q, x, clk)]
  | [], _, _ => rfl
  | e :: r, i, h => by
    simp only [mfix] at h
    split at h
    · cases h
    · rename_i hb
      simp only [mputGo, hb]
      rw [mput_none h]; rfl
theorem run_mapPut {xt kt et : TypeId} {b : Nat} (ht : P.underlying xt = some (.map kt et)) (hk : KeyOK P kt c) {l : List (Ent' c d)} {clk : Nat} (hb : w.heap[b]? = some (.map (l.map (entryOf c d)).toArray clk)) (q : c.α) (x : d.α) :
    (Instr.mapUpdate xt (.map (some b)) (packV c q) (packV d x)).run P w = .ok () (w.putObj b (.map ((mput c d l q x clk).map (entryOf c d)).toArray (mclk c d l q clk))) := by
  have hf := hk.find d l q w
  have hc := hk.chk false q w
  unfold mclk mhas mput
  cases hm : mfix c d q l 0 with
  | none =>
    rw [hm] at hf
    rw [mput_none hm]
    simp_all [Instr.mapUpdate, run_underlying' ht, run_obj hb, run_put _ hb, entryOf]
  | some p =>
    obtain ⟨i, y⟩ := p
    rw [hm] at hf
    obtain ⟨_, h2, e, h3, h4, h5⟩ := mfix_lt hm
    simp only [Nat.sub_zero, Nat.zero_add] at h2 h3
    have hp := mput_some (x := x) (clk := clk) hm
    simp only [Nat.sub_zero] at hp
    have hs : (Instr.keyThatStays (packV c e.1) (packV c q)).run P w = .ok (packV c q) w := by simp [Instr.keyThatStays, hk.bits q e.1 h4]
    have ha : (l.map (entryOf c d)).toArray.modify i (fun e => { e with key := packV c q, val := packV d x }) = ((mputGo c d q x clk l).map (entryOf c d)).toArray := by
      rw [← hp]; simp
    have hg : (((l.map (entryOf c d)).toArray[i]?).map (·.key)).getD (packV c q) = packV c e.1 := by simp [h3, entryOf]
    simp only [Instr.mapUpdate]
    simp_all [run_underlying' ht, run_obj hb, run_put _ hb]
theorem eraseIdx_map' {α β : Type} (f : α → β) : ∀ (l : List α) (i : Nat), (l.map f).eraseIdx i = (l.eraseIdx i).map f
  | [], _ => rfl
  | _ :: _, 0 => rfl
  | _ :: r, i + 1 => by simp [eraseIdx_map' f r i]
theorem run_mapDel {t kt et k ty : TypeId} {b : Nat} (ht : P.underlying t = some (.map kt et)) (hk : KeyOK P kt c) {l : List (Ent' c d)} {clk : Nat} (hb : w.heap[b]? = some (.map (l.map (entryOf c d)).toArray clk)) (q : c.α) :
    (Builtin.delete_ #[t, k] ty #[.map (some b), packV c q]).run P w = .ok (.tuple #[]) (w.putObj b (.map ((mdel c d l q).map (entryOf c d)).toArray clk)) := by
  have hf := hk.find d l q w
  have hc := hk.chk (l.map (entryOf c d)).toArray.isEmpty q w
  unfold mdel
  cases hm : mfix c d q l 0 with
  | none =>
    rw [hm] at hf
    simp_all [Builtin.delete_, run_underlying' ht, run_obj hb, run_put _ hb]
  | some p =>
    obtain ⟨i, y⟩ := p
    rw [hm] at hf
    obtain ⟨_, h2, _⟩ := mfix_lt hm
    have ha : (l.map (entryOf c d)).toArray.eraseIdxIfInBounds i = ((l.eraseIdx i).map (entryOf c d)).toArray := by
      simp [Array.eraseIdxIfInBounds, show i < l.length by omega, eraseIdx_map']
    simp_all [Builtin.delete_, run_underlying' ht, run_obj hb, run_put _ hb]
theorem ment_some {q : c.α} {clk : Nat} : ∀ {l : List (Ent' c d)} {i k : Nat} {y : d.α}, mfix c d q l i = some (k, y) →
    (l.map (entryOf c d)).modify (k - i) (fun e => { e with key := packV c q }) = (mputGo c d q y clk l).map (entryOf c d)
  | [], _, _, _, h => by cases h
  | e :: r, i, k, y, h => by
    simp only [mfix] at h
    split at h
    · rename_i hb
      simp only [Option.some.injEq, Prod.mk.injEq] at h
      obtain ⟨rfl, rfl⟩ := h
      simp [mputGo, hb, entryOf]
    · rename_i hb
      obtain ⟨h1, _⟩ := mfix_lt h
      rw [show k - i = (k - (i + 1)) + 1 by omega]
      simp only [List.map_cons, List.modify_succ_cons, mputGo, hb]
      rw [ment_some h]
theorem run_mapEntry {xt kt et : TypeId} {b : Nat} (ht : P.underlying xt = some (.map kt et)) (hk : KeyOK P kt c) (hz : ZeroIs P et d) {l : List (Ent' c d)} {clk : Nat} (hb : w.heap[b]? = some (.map (l.map (entryOf c d)).toArray clk)) (q : c.α) :
    (Instr.mapEntry xt (.map (some b)) (packV c q)).run P w = .ok (.tuple #[packV d (mget c d l q), .int .i64 (mstamp c d l q clk)]) (w.putObj b (.map ((mput c d l q (mget c d l q) clk).map (entryOf c d)).toArray (mclk c d l q clk))) := by
  have hf := hk.find d l q w
  have hc := hk.chk false q w
  unfold mclk mhas mput mget mstamp
  cases hm : mfix c d q l 0 with
  | none =>
    rw [hm] at hf
    rw [mput_none hm]
    simp_all [Instr.mapEntry, run_underlying' ht, run_obj hb, run_put _ hb, entryOf, hz.z w, goInt]
  | some p =>
    obtain ⟨i, y⟩ := p
    rw [hm] at hf
    obtain ⟨_, h2, e, h3, h4, h5⟩ := mfix_lt hm
    simp only [Nat.sub_zero, Nat.zero_add] at h2 h3
    have hp := ment_some (clk := clk) hm
    simp only [Nat.sub_zero] at hp
    have hs : (Instr.keyThatStays (packV c e.1) (packV c q)).run P w = .ok (packV c q) w := by simp [Instr.keyThatStays, hk.bits q e.1 h4]
    have ha : (l.map (entryOf c d)).toArray.modify i (fun e => { e with key := packV c q }) = ((mputGo c d q y clk l).map (entryOf c d)).toArray := by
      rw [← hp]; simp
    have hg : (((l.map (entryOf c d)).toArray[i]?).map (·.key)).getD (packV c q) = packV c e.1 := by simp [h3, entryOf]
    have hg2 : (((l.map (entryOf c d)).toArray[i]?).map (·.born)).getD 0 = e.2.2 := by simp [h3, entryOf]
    simp only [Instr.mapEntry]
    simp_all [run_underlying' ht, run_obj hb, run_put _ hb, goInt]
theorem mset_find {s : Nat} {x : d.α} : ∀ {l : List (Ent' c d)}, mhasS c d l s = true → ∃ i, (l.map (entryOf c d)).findIdx? (fun e => (e.born : Int) == (s : Int)) = some i ∧ i < l.length ∧
    (l.map (entryOf c d)).modify i (fun e => { e with val := packV d x }) = (mset c d s x l).map (entryOf c d)
  | [], h => by cases h
  | e :: r, h => by
    cases hb : Nat.beq e.2.2 s with
    | true =>
      have := Nat.eq_of_beq_eq_true hb
      refine ⟨0, by simp [List.findIdx?_cons, entryOf, this], by simp, ?_⟩
      simp [mset, hb, entryOf]
    | false =>
      have hne := Nat.ne_of_beq_eq_false hb
      have h' : mhasS c d r s = true := by simpa [mhasS, hne] using h
      obtain ⟨i, h1, h2, h3⟩ := mset_find (x := x) h'
      refine ⟨i + 1, ?_, by simp; omega, ?_⟩
      · have hn : ((e.2.2 : Int) == (s : Int)) = false := by simp; omega
        have h1' := h1
        simp only [List.map_cons, List.findIdx?_cons]
        rw [show ((entryOf c d e).born : Int) = (e.2.2 : Int) from rfl, hn, h1']
        rfl
      · simp only [List.map_cons, List.modify_succ_cons, mset, hb]
        rw [h3]
theorem run_entryStore {t : TypeId} {b : Nat} {l : List (Ent' c d)} {clk : Nat} (hb : w.heap[b]? = some (.map (l.map (entryOf c d)).toArray clk)) {n : Int} (hn : 0 ≤ n) (hs : mhasS c d l n.toNat = true) (k : IntKind) (x : d.α) :
    (Instr.entryStore t (.map (some b)) (.int k n) (packV d x)).run P w = .ok () (w.putObj b (.map ((mset c d n.toNat x l).map (entryOf c d)).toArray clk)) := by
  obtain ⟨i, h1, h2, h3⟩ := mset_find (x := x) hs
  rw [Int.toNat_of_nonneg hn] at h1
  have h1' : ((l.map (entryOf c d)).toArray).findIdx? (fun e => (e.born : Int) == n) = some i := by
    rw [List.findIdx?_toArray]; exact h1
  have ha : (l.map (entryOf c d)).toArray.modify i (fun e => { e with val := packV d x }) = ((mset c d n.toNat x l).map (entryOf c d)).toArray := by
    rw [← h3]; simp
  simp only [Instr.entryStore, Sem.run_bind, run_obj hb, Result.andThen_ok, asInt, asIntOf, Sem.run_pure, h1', ha, run_put _ hb]
theorem mat_find {s : Nat} : ∀ {l : List (Ent' c d)}, mhasS c d l s = true → (l.map (entryOf c d)).find? (fun e => e.born == s) = some (entryOf c d (mat c d s l))
  | [], h => by cases h
  | e :: r, h => by
    cases hb : Nat.beq e.2.2 s with
    | true =>
      have := Nat.eq_of_beq_eq_true hb
      simp [mat, hb, entryOf, this]
    | false =>
      have hne := Nat.ne_of_beq_eq_false hb
      have h' : mhasS c d r s = true := by simpa [mhasS, hne] using h
      have hn : (e.2.2 == s) = false := by simp [hne]
      have ih := mat_find h'
      simp only [List.map_cons, mat, hb]
      simp only [List.find?_cons, entryOf, hn]
      simp only [entryOf] at ih
      exact ih
theorem run_entry {r b : Nat} {l : List (Ent' c d)} {clk : Nat} {seen : List Nat} (hr : w.heap[r]? = some (.mapIter (some b) clk seen.toArray clk)) (hb : w.heap[b]? = some (.map (l.map (entryOf c d)).toArray clk)) (hne : seen ≠ []) (hs : mhasS c d l (lastS seen) = true) :
    (Instr.entry (.pointer (some ⟨r, 0, none⟩))).run P w = .ok (.tuple #[packV c (mat c d (lastS seen) l).1, packV d (mat c d (lastS seen) l).2.1]) w := by
  have hl : seen.toArray.back? = some (lastS seen) := by
    unfold lastS
    cases h : seen.getLast? with
    | none => exact absurd (List.getLast?_eq_none_iff.1 h) hne
    | some a => simp [h]
  have hf : ((l.map (entryOf c d)).toArray).find? (fun e => e.born == lastS seen) = some (entryOf c d (mat c d (lastS seen) l)) := by
    rw [List.find?_toArray]; exact mat_find hs
  simp only [Instr.entry, Sem.run_bind, run_iter hr, Result.andThen_ok, run_obj hb, hl, hf, bne_self_eq_false, Bool.false_eq_true, if_false, Sem.run_pure, entryOf]
theorem run_makeMap (t : TypeId) : (Instr.makeMap t none).run P w = .ok (.map (some w.heap.size)) (w.alloc (.map #[] 0)) := by
  simp [Instr.makeMap, newObj, Sem.run]
theorem run_makeMap' {t kt et : TypeId} (ht : P.underlying t = some (.map kt et)) (k : IntKind) (n : Int) : (Instr.makeMap t (some (.int k n))).run P w = .ok (.map (some w.heap.size)) (w.alloc (.map #[] 0)) := by
  simp [Instr.makeMap, newObj, Sem.run, run_underlying' ht, asInt, asIntOf]
theorem run_range {xt kt et : TypeId} {b : Nat} (ht : P.underlying xt = some (.map kt et)) {es : Array MapEntry} {clk : Nat} (hb : w.heap[b]? = some (.map es clk)) :
    (Instr.range xt (.map (some b))).run P w = .ok (.pointer (some ⟨w.heap.size, 0, none⟩)) (w.alloc (.mapIter (some b) clk #[] clk)) := by
  simp [Instr.range, run_underlying' ht, run_obj hb, newObj, Sem.run]
theorem run_choose {n : Nat} (hn : 0 < n) : ∃ i k, i < n ∧ (choose (.mapNext n)).run P w = .ok i { w with drawn := w.drawn + k } := by
  by_cases h : n ≤ 1
  · exact ⟨0, 0, hn, by simp [choose, Sem.run, Question.forced, h]⟩
  · exact ⟨w.tape w.drawn (.mapNext n) % n, 1, Nat.mod_lt _ hn, by simp [choose, Sem.run, Question.forced, Question.cut, h]⟩
theorem run_putIter {r : Nat} {mb : Option Nat} {a z : Nat} {sn : Array Nat} (o' : Obj) (hr : w.heap[r]? = some (.mapIter mb a sn z)) : (setObj r o').run P w = .ok () (w.putObj r o') := by simp [setObj, Sem.run, hr, World.putObj]
/-- What is left of a map, of those that were met. -/
def leftOf (c d : Codec) (l : List (Ent' c d)) (seen : List Nat) : List (Ent' c d) := l.filter fun e => !(seen.contains e.2.2)
theorem run_next {r b : Nat} {ty : TypeId} {l : List (Ent' c d)} {clk : Nat} {seen : List Nat} (hr : w.heap[r]? = some (.mapIter (some b) clk seen.toArray clk)) (hb : w.heap[b]? = some (.map (l.map (entryOf c d)).toArray clk)) (hold : ∀ e ∈ l, e.2.2 < clk) :
    ∃ k, ((∀ e ∈ l, e.2.2 ∈ seen) ∧ (Instr.next (.pointer (some ⟨r, 0, none⟩)) false ty).run P w = .ok (.tuple #[.bool false]) { w with drawn := w.drawn + k }) ∨
      ∃ e ∈ l, e.2.2 ∉ seen ∧ (Instr.next (.pointer (some ⟨r, 0, none⟩)) false ty).run P w = .ok (.tuple #[.bool true, packV c e.1, packV d e.2.1]) (({ w with drawn := w.drawn + k } : World).putObj r (.mapIter (some b) clk (seen ++ [e.2.2]).toArray clk)) := by
  have h1 : (!seen.toArray.isEmpty && !((l.map (entryOf c d)).toArray).isEmpty && ((l.map (entryOf c d)).toArray).all fun e => decide (e.born ≥ clk)) = false := by
    cases l with
    | nil => simp
    | cons e l =>
      have := hold e (by simp)
      have hn : decide ((entryOf c d e).born ≥ clk) = false := decide_eq_false (by show ¬ (e.2.2 ≥ clk); omega)
      simp only [List.map_cons, List.all_toArray, List.all_cons, hn, Bool.false_and, Bool.and_false]
  have h2 : ((l.map (entryOf c d)).toArray).filter (fun e => !seen.toArray.contains e.born) = ((leftOf c d l seen).map (entryOf c d)).toArray := by
    apply Array.ext'
    simp only [Array.toList_filter]
    rw [List.filter_map]
    unfold leftOf
    congr 1
    apply List.filter_congr
    intro e _
    simp [entryOf]
    try exact decide_eq_decide.2 Iff.rfl
  have h3 : (((leftOf c d l seen).map (entryOf c d)).toArray).filter (fun e => decide (e.born < clk)) = ((leftOf c d l seen).map (entryOf c d)).toArray := by
    apply Array.ext'
    simp only [Array.toList_filter]
    rw [List.filter_eq_self]
    intro e he
    obtain ⟨x, hx, rfl⟩ := List.mem_map.1 he
    exact decide_eq_true (hold x (List.mem_filter.1 hx).1)
  have h4 : (((leftOf c d l seen).map (entryOf c d)).toArray).filter (fun e => decide (e.born ≥ clk)) = #[] := by
    apply Array.ext'
    simp only [Array.toList_filter]
    have : ((leftOf c d l seen).map (entryOf c d)).filter (fun e => decide (e.born ≥ clk)) = [] := by
      rw [List.filter_eq_nil_iff]
      intro e he
      obtain ⟨x, hx, rfl⟩ := List.mem_map.1 he
      have := hold x (List.mem_filter.1 hx).1
      have : ¬ ((entryOf c d x).born ≥ clk) := by show ¬ (x.2.2 ≥ clk); omega
      simpa using this
    rw [this]
  by_cases hL : leftOf c d l seen = []
  · refine ⟨0, .inl ⟨fun e he => ?_, ?_⟩⟩
    · have : e ∉ leftOf c d l seen := by rw [hL]; exact List.not_mem_nil
      unfold leftOf at this
      rw [List.mem_filter] at this
      simpa [he] using this
    · have hc : (choose (.mapNext 1)).run P w = .ok 0 w := by simp [choose, Sem.run, Question.forced]
      rw [hL] at h2 h3 h4
      simp only [List.map_nil] at h2 h3 h4
      simp only [Instr.next, Sem.run_bind, run_iter hr, Result.andThen_ok, run_obj hb, h1, h2, Bool.false_eq_true, if_false]
      simp [Question.forced]
  · have hpos : 0 < (leftOf c d l seen).length := List.length_pos_iff.2 hL
    obtain ⟨i, k, hi, hc⟩ := run_choose (P := P) (w := w) hpos
    have hmem := List.mem_filter.1 (List.getElem_mem (l := leftOf c d l seen) hi)
    refine ⟨k, .inr ⟨(leftOf c d l seen)[i], hmem.1, by simpa using hmem.2, ?_⟩⟩
    have hr' : ({ w with drawn := w.drawn + k } : World).heap[r]? = some (.mapIter (some b) clk seen.toArray clk) := hr
    have hne : ((leftOf c d l seen).map (entryOf c d)).toArray.isEmpty = false := by
      simpa using hL
    have hget : (((leftOf c d l seen).map (entryOf c d)).toArray.map some)[i]? = some (some (entryOf c d (leftOf c d l seen)[i])) := by
      simp [hi]
    have hsz : (((leftOf c d l seen).map (entryOf c d)).toArray.map some).size = (leftOf c d l seen).length := by simp
    simp only [Instr.next, Sem.run_bind, run_iter hr, Result.andThen_ok, run_obj hb, h1, h2, h3, h4, hne, Bool.false_eq_true, if_false]
    rw [show (#[] ++ Array.map some (((leftOf c d l seen).map (entryOf c d)).toArray ++ #[])) = (((leftOf c d l seen).map (entryOf c d)).toArray).map some by simp, hsz, hc]
    simp only [Result.andThen_ok, hget, Sem.run_bind, run_putIter _ hr', entryOf]
    simp
end

variable {C : Nat → Codec}
/-- What is read of maps. -/
def mapQ (P : Program) (tm : Tm) (m : List (Ck C)) (al : List (Nat × Bool)) (o : Op) : Ans :=
  match o with
  | .lookup t x k ok => match P.underlying t, ev tm m al x, ev tm m al k with
    | some (.map kt vt), some (.mp c), some kv => match (nth m c).cells with
      | .mp tk tv l _ => match Nat.beq kt tk && Nat.beq vt tv, decV (C tk) kv with
        | true, some q => some ([KeyOK P tk (C tk), ZeroIs P tv (C tv)], match ok with
          | true => .tup [encV (C tv) (mget (C tk) (C tv) l q), .bool (.tm (mhas (C tk) (C tv) l q))]
          | false => encV (C tv) (mget (C tk) (C tv) l q))
        | _, _ => none
      | _ => none
    | _, _, _ => none
  | .call c => match c.callee with
    | .builtin .len => match c.argTypes.toList, c.args.toList with
      | [t], [x] => match P.underlying t, ev tm m al x with
        | some (.map _ _), some (.mp c) => match (nth m c).cells with
          | .mp _ _ l _ => some ([], .int .i64 (l.length : Int))
          | _ => none
        | _, _ => none
      | _, _ => none
    | _ => none
  | .entry it => match ev tm m al it with
    | some (.ptr ci 0 0) => match (nth m ci).cells with
      | .it mc seen clk => match (nth m mc).cells with
        | .mp tk tv l clk' => some ([(nth m ci).base = 0 ∧ clk' = clk ∧ seen ≠ [] ∧ mhasS (C tk) (C tv) l (lastS seen) = true],
            .tup [encV (C tk) (mat (C tk) (C tv) (lastS seen) l).1, encV (C tv) (mat (C tk) (C tv) (lastS seen) l).2.1])
        | _ => none
      | _ => none
    | _ => none
  | .binOp op t x y _ => match ev tm m al x, ev tm m al y with
    | some (.agg as), some (.agg bs) => match decV (C t) (.agg as), decV (C t) (.agg bs) with
      | some a, some b => match op with
        | .eql => some ([EqOK P t (C t)], .bool (.tm ((C t).beq a b)))
        | .neq => some ([EqOK P t (C t)], .bool (.tm (!(C t).beq a b)))
        | _ => none
      | _, _ => none
    | _, _ => none
  | _ => none

def isInt : Option SV → Bool
  | some (.int _ _) => true
  | _ => false
/-- What turns maps, and their iterators. -/
def mapE (P : Program) (tm : Tm) (m : List (Ck C)) (al : List (Nat × Bool)) (o : Op) (K : SV → List (Ck C) → Tr) : Tr :=
  match o with
  | .makeMap t r => match P.underlying t, (match r with | none => true | some x => isInt (ev tm m al x)), memLt m.length m && tmLt m.length tm with
    | some (.map kt vt), true, true => .all fun b => K (.mp m.length) (m ++ [⟨b, 0, 0, true, none, .mp kt vt [] 0⟩])
    | _, _, _ => .no
  | .mapUpdate t x k v => match P.underlying t, ev tm m al x, ev tm m al k, ev tm m al v with
    | some (.map kt vt), some (.mp c), some kv, some vv => match (nth m c).cells with
      | .mp tk tv l clk => match (nth m c).wr && (Nat.beq kt tk && Nat.beq vt tv), decV (C tk) kv, decV (C tv) vv with
        | true, some q, some y => .and (.lf (KeyOK P tk (C tk))) (K .undef (setCk m c (.mp tk tv (mput (C tk) (C tv) l q y clk) (mclk (C tk) (C tv) l q clk))))
        | _, _, _ => .no
      | _ => .no
    | _, _, _, _ => .no
  | .mapEntry t x k => match P.underlying t, ev tm m al x, ev tm m al k with
    | some (.map kt vt), some (.mp c), some kv => match (nth m c).cells with
      | .mp tk tv l clk => match (nth m c).wr && (Nat.beq kt tk && Nat.beq vt tv), decV (C tk) kv with
        | true, some q => .and (.lf (KeyOK P tk (C tk) ∧ ZeroIs P tv (C tv))) (K (.tup [encV (C tv) (mget (C tk) (C tv) l q), .int .i64 (mstamp (C tk) (C tv) l q clk : Int)])
            (setCk m c (.mp tk tv (mput (C tk) (C tv) l q (mget (C tk) (C tv) l q) clk) (mclk (C tk) (C tv) l q clk))))
        | _, _ => .no
      | _ => .no
    | _, _, _ => .no
  | .entryStore _ x s v => match ev tm m al x, ev tm m al s, ev tm m al v with
    | some (.mp c), some (.int _ n), some vv => match (nth m c).cells with
      | .mp tk tv l clk => match (nth m c).wr, decV (C tv) vv with
        | true, some y => .and (.lf (0 ≤ n ∧ mhasS (C tk) (C tv) l n.toNat = true)) (K .undef (setCk m c (.mp tk tv (mset (C tk) (C tv) n.toNat y l) clk)))
        | _, _ => .no
      | _ => .no
    | _, _, _ => .no
  | .call c => match c.callee with
    | .builtin .delete => match c.argTypes.toList, c.args.toList with
      | [t, _], [x, k] => match P.underlying t, ev tm m al x, ev tm m al k with
        | some (.map kt vt), some (.mp c), some kv => match (nth m c).cells with
          | .mp tk tv l clk => match (nth m c).wr && (Nat.beq kt tk && Nat.beq vt tv), decV (C tk) kv with
            | true, some q => .and (.lf (KeyOK P tk (C tk))) (K (.tup []) (setCk m c (.mp tk tv (mdel (C tk) (C tv) l q) clk)))
            | _, _ => .no
          | _ => .no
        | _, _, _ => .no
      | _, _ => .no
    | _ => .no
  | .range t x => match P.underlying t, ev tm m al x with
    | some (.map _ _), some (.mp c) => match (nth m c).cells with
      | .mp _ _ _ clk => match memLt m.length m && tmLt m.length tm && Nat.blt c m.length with
        | true => .all fun b => K (.ptr m.length 0 0) (m ++ [⟨b, 0, 0, true, none, .it c [] clk⟩])
        | false => .no
      | _ => .no
    | _, _ => .no
  | .next it false => match ev tm m al it with
    | some (.ptr ci 0 0) => match (nth m ci).cells, (nth m ci).wr with
      | .it mc seen clk, true => match (nth m mc).cells with
        | .mp tk tv l clk' => .and (.lf ((nth m ci).base = 0 ∧ clk' = clk ∧ ∀ e ∈ l, e.2.2 < clk))
            (.and (.imp (∀ e ∈ l, e.2.2 ∈ seen) (K (.tup [.bool .f]) m))
              (.all fun e : Ent' (C tk) (C tv) => .imp (e ∈ l ∧ e.2.2 ∉ seen) (K (.tup [.bool .t, encV (C tk) e.1, encV (C tv) e.2.1]) (setCk m ci (.it mc (seen ++ [e.2.2]) clk)))))
        | _ => .no
      | _, _ => .no
    | _ => .no
  | _ => .no

theorem mp_heap {S : Sx} {w0 w : World} {m : List (Ck C)} (hm : MemOK S w0 w m) {c tk tv : Nat} {l : List (Ent' (C tk) (C tv))} {clk : Nat} (hc : (nth m c).cells = .mp tk tv l clk) :
    w.heap[(ads m c).block]? = some (.map (l.map (entryOf (C tk) (C tv))).toArray clk) := by
  have hl : (nth m c).live = true := by unfold Ck.live; rw [hc]
  have := hm.ok _ (nth_mem (lt_of_live hl))
  simp only [Ck.ok, hc] at this
  exact this

theorem mapQ_ok {P : Program} {S : Sx} {w0 w : World} {n : Nat} {tm : Tm} {m : List (Ck C)} {a : Act} (h : ActOK (ads m) n tm a) (hm : MemOK S w0 w m) {al : List (Nat × Bool)} (ha : AlOK tm al) {o : Oper} {ps : List Prop} {r : SV}
    (hl : mapQ P tm m al o.op = some (ps, r)) (hp : allOf ps) : (execOp a.eval o).run P w = .ok (.value (r.va (ads m))) w := by
  obtain ⟨dst, op, type, pos, after, guard⟩ := o
  simp only at hl
  cases op <;> simp only [mapQ] at hl <;> try contradiction
  case lookup t x k ok =>
    split at hl <;> try contradiction
    rename_i kt vt c kv ht hx hk
    split at hl <;> try contradiction
    rename_i tk tv l clk hc
    split at hl <;> try contradiction
    rename_i q hb hq
    simp only [Option.some.injEq, Prod.mk.injEq] at hl
    obtain ⟨rfl, rfl⟩ := hl
    obtain ⟨h1, h2, _⟩ := hp
    simp only [Bool.and_eq_true] at hb
    have e1 := Nat.eq_of_beq_eq_true hb.1
    have e2 := Nat.eq_of_beq_eq_true hb.2
    subst e1; subst e2
    have ex := ev_ok h hm.glob ha _ _ hx
    have ek := ev_ok h hm.glob ha _ _ hk
    have hr := run_lookup ht h1 h2 (mp_heap hm hc) q ok
    rw [← decV_ok hq (ads m)] at ek
    cases ok <;> simp [execOp, ex, ek, SV.va, SV.vas, hr, encV_va, SB.val]
  case call c =>
    obtain ⟨callee, args, argTypes⟩ := c
    simp only at hl
    split at hl <;> try contradiction
    split at hl <;> try contradiction
    rename_i t x hts hxs
    split at hl <;> try contradiction
    rename_i kt vt c ht hx
    split at hl <;> try contradiction
    rename_i tk tv l clk hc
    simp only [Option.some.injEq, Prod.mk.injEq] at hl
    obtain ⟨rfl, rfl⟩ := hl
    have ex := ev_ok h hm.glob ha _ _ hx
    have e1 : args = #[x] := by apply Array.ext'; simpa using hxs
    have e2 : argTypes = #[t] := by apply Array.ext'; simpa using hts
    subst e1; subst e2
    have hr := run_maplen (ty := type) ht (mp_heap hm hc)
    simp [execOp, resolve, invoke, builtin, ex, SV.va, hr]
  case entry it =>
    split at hl <;> try contradiction
    rename_i ci hit
    split at hl <;> try contradiction
    rename_i mc seen clk hic
    split at hl <;> try contradiction
    rename_i tk tv l clk' hmc
    simp only [Option.some.injEq, Prod.mk.injEq] at hl
    obtain ⟨rfl, rfl⟩ := hl
    obtain ⟨⟨hbase, hclk, hne, hs⟩, _⟩ := hp
    subst hclk
    have ei := ev_ok h hm.glob ha _ _ hit
    have hlv : (nth m ci).live = true := by unfold Ck.live; rw [hic]
    have hri := hm.ok _ (nth_mem (lt_of_live hlv))
    simp only [Ck.ok, hic] at hri
    have hr := run_entry (P := P) hri (mp_heap hm hmc) hne hs
    have ea : (ads m ci).at 0 0 = ⟨(nth m ci).block, 0, none⟩ := by simp [ads, Ck.ad, Ad.at, hbase]
    simp [execOp, ei, SV.va, SV.vas, ea, hr, encV_va]
  case binOp bo t x y yt =>
    split at hl <;> try contradiction
    rename_i as bs hx hy
    split at hl <;> try contradiction
    rename_i p q hp1 hq1
    have ex := ev_ok h hm.glob ha _ _ hx
    have ey := ev_ok h hm.glob ha _ _ hy
    have e1 := decV_ok hp1 (ads m)
    have e2 := decV_ok hq1 (ads m)
    have key : EqOK P t (C t) → (Op.equal t ((SV.agg as).va (ads m)) ((SV.agg bs).va (ads m))).run P w = .ok ((C t).beq p q) w := fun hk => by rw [← e1, ← e2]; exact hk.eq p q w
    cases bo <;> simp only at hl <;> try contradiction
    · simp only [Option.some.injEq, Prod.mk.injEq] at hl
      obtain ⟨rfl, rfl⟩ := hl
      obtain ⟨hk, _⟩ := hp
      have h1 := key hk
      simp only [SV.va] at h1 ex ey
      simp [execOp, ex, ey, SV.va, run_eqGuard_agg w _ t x y _ _ hk.guard, binOp, h1, SB.val]
    · simp only [Option.some.injEq, Prod.mk.injEq] at hl
      obtain ⟨rfl, rfl⟩ := hl
      obtain ⟨hk, _⟩ := hp
      have h1 := key hk
      simp only [SV.va] at h1 ex ey
      simp [execOp, ex, ey, SV.va, run_eqGuard_agg w _ t x y _ _ hk.guard, binOp, h1, SB.val]

theorem MemOK.drawn {S : Sx} {w0 w : World} {m : List (Ck C)} (h : MemOK S w0 w m) (k : Nat) : MemOK S w0 { w with drawn := w.drawn + k } m := by
  refine ⟨h.os, h.tape, h.output, h.size, h.keep, h.inS, fun c hc => ?_, h.wrok, h.apart, h.lt, h.glob, h.more.mono h.inS (fun _ _ _ => rfl) (fun c hc hl => .inl ⟨c, hc, hl, rfl⟩) h.size⟩
  exact Ck.ok_same (h.ok c hc) rfl
/-- An object of ours turns. -/
theorem MemOK.putO {S : Sx} {w0 w : World} {m : List (Ck C)} (h : MemOK S w0 w m) {c : Nat} (hw : (nth m c).wr = true) (hl : (nth m c).live = true) {o o' : Obj} (hb : w.heap[(nth m c).block]? = some o)
    (ho : ∀ (w : World) (a : Addr), w.heap[a.block]? = some o → w.frozen? a = false) (ho' : ∀ (w : World) (a : Addr), w.heap[a.block]? = some o' → w.frozen? a = false) (cs : Cells C) (hlive : ({ nth m c with cells := cs } : Ck C).live = true)
    (hok : Ck.ok (ads m) (w.putObj (nth m c).block o') { nth m c with cells := cs }) : MemOK S w0 (w.putObj (nth m c).block o') (setCk m c cs) := by
  have hlt := heap_size_of hb
  refine h.upd (w' := w.putObj (nth m c).block o') hw hl rfl rfl rfl (by simp [World.putObj]) (fun k hk => World.putObj_heap_other hk) (fun a => ?_) cs hlive hok
  by_cases e : a.block = (nth m c).block
  · rw [ho' _ a (by rw [e]; exact World.putObj_heap_same hlt), ho _ a (by rw [e]; exact hb)]
  · exact World.frozen?_of_block (World.putObj_heap_other e)
theorem fz_map {es : Array MapEntry} {k : Nat} (w : World) (a : Addr) (h : w.heap[a.block]? = some (.map es k)) : w.frozen? a = false := by simp [World.frozen?, h]
theorem fz_iter {b : Option Nat} {i k : Nat} {s : Array Nat} (w : World) (a : Addr) (h : w.heap[a.block]? = some (.mapIter b i s k)) : w.frozen? a = false := by simp [World.frozen?, h]

theorem mapE_ok {P : Program} {S : Sx} {w0 w : World} {n : Nat} {tm : Tm} {m : List (Ck C)} {a : Act} (h : ActOK (ads m) n tm a) (hm : MemOK S w0 w m) {al : List (Nat × Bool)} (ha : AlOK tm al) {o : Oper}
    {K : SV → List (Ck C) → Tr} (hl : mapE P tm m al o.op K) : Left P S w0 tm m w (execOp a.eval o) K := by
  obtain ⟨dst, op, type, pos, after, guard⟩ := o
  simp only at hl
  cases op <;> simp only [mapE] at hl <;> try (first | contradiction | exact False.elim hl)
  case makeMap t r =>
    split at hl <;> try (first | contradiction | exact False.elim hl)
    rename_i kt vt ht hr hc
    simp only [Bool.and_eq_true] at hc
    have hrun : (execOp a.eval ⟨dst, .makeMap t r, type, pos, after, guard⟩).run P w = .ok (.value (.map (some w.heap.size))) (w.alloc (.map #[] 0)) := by
      cases r with
      | none => simp [execOp, run_makeMap]
      | some x =>
        simp only at hr
        unfold isInt at hr
        split at hr
        · rename_i k i hx
          have ex := ev_ok h hm.glob ha _ _ hx
          simp [execOp, ex, SV.va, run_makeMap' ht]
        · cases hr
    have hok : Ck.ok (ads (m ++ [(⟨w.heap.size, 0, 0, true, none, .mp kt vt [] 0⟩ : Ck C)])) (w.alloc (.map #[] 0)) (⟨w.heap.size, 0, 0, true, none, .mp kt vt [] 0⟩ : Ck C) := heap_alloc_at w _
    refine ⟨_, _, _, .inl ?_, hm.newO hc.1 (.map #[] 0) fz_map 0 _ hok, hl w.heap.size, ads_append _ _, by simp, .inr hc.2⟩
    have : ads (m ++ [(⟨w.heap.size, 0, 0, true, none, .mp kt vt [] 0⟩ : Ck C)]) m.length = ⟨w.heap.size, 0, 0⟩ := ads_append_new _ _
    rw [hrun]; simp [SV.va, this]
  case mapUpdate t x k v =>
    split at hl <;> try (first | contradiction | exact False.elim hl)
    rename_i kt vt c kv vv ht hx hk hv
    split at hl <;> try (first | contradiction | exact False.elim hl)
    rename_i tk tv l clk hc
    split at hl <;> try (first | contradiction | exact False.elim hl)
    rename_i q y hb hq hy
    simp only [Bool.and_eq_true] at hb
    have e1 := Nat.eq_of_beq_eq_true hb.2.1
    have e2 := Nat.eq_of_beq_eq_true hb.2.2
    subst e1; subst e2
    obtain ⟨hK, hl⟩ := hl
    have ex := ev_ok h hm.glob ha _ _ hx
    have ek := ev_ok h hm.glob ha _ _ hk
    have ev' := ev_ok h hm.glob ha _ _ hv
    rw [← decV_ok hq (ads m)] at ek
    rw [← decV_ok hy (ads m)] at ev'
    have hlv : (nth m c).live = true := by unfold Ck.live; rw [hc]
    have hbl := mp_heap hm hc
    have hr := run_mapPut ht hK hbl q y
    have hlt := heap_size_of hbl
    refine ⟨_, _, .undef, .inr ⟨?_, rfl⟩, hm.putO hb.1 hlv hbl fz_map (o' := .map ((mput (C kt) (C vt) l q y clk).map (entryOf (C kt) (C vt))).toArray (mclk (C kt) (C vt) l q clk)) fz_map (.mp kt vt (mput (C kt) (C vt) l q y clk) (mclk (C kt) (C vt) l q clk)) rfl (by simp only [Ck.ok]; exact World.putObj_heap_same hlt), hl, fun k _ => by rw [ads_setCk], by rw [length_setCk]; exact Nat.le_refl _, .inl ⟨length_setCk .., ads_setCk ..⟩⟩
    simp [execOp, ex, ek, ev', SV.va, hr]
    rfl
  case mapEntry t x k =>
    split at hl <;> try (first | contradiction | exact False.elim hl)
    rename_i kt vt c kv ht hx hk
    split at hl <;> try (first | contradiction | exact False.elim hl)
    rename_i tk tv l clk hc
    split at hl <;> try (first | contradiction | exact False.elim hl)
    rename_i q hb hq
    simp only [Bool.and_eq_true] at hb
    have e1 := Nat.eq_of_beq_eq_true hb.2.1
    have e2 := Nat.eq_of_beq_eq_true hb.2.2
    subst e1; subst e2
    obtain ⟨⟨hK, hZ⟩, hl⟩ := hl
    have ex := ev_ok h hm.glob ha _ _ hx
    have ek := ev_ok h hm.glob ha _ _ hk
    rw [← decV_ok hq (ads m)] at ek
    have hlv : (nth m c).live = true := by unfold Ck.live; rw [hc]
    have hbl := mp_heap hm hc
    have hr := run_mapEntry ht hK hZ hbl q
    have hlt := heap_size_of hbl
    refine ⟨_, _, _, .inl ?_, hm.putO hb.1 hlv hbl fz_map (o' := .map ((mput (C kt) (C vt) l q (mget (C kt) (C vt) l q) clk).map (entryOf (C kt) (C vt))).toArray (mclk (C kt) (C vt) l q clk)) fz_map (.mp kt vt (mput (C kt) (C vt) l q (mget (C kt) (C vt) l q) clk) (mclk (C kt) (C vt) l q clk)) rfl (by simp only [Ck.ok]; exact World.putObj_heap_same hlt), hl, fun k _ => by rw [ads_setCk], by rw [length_setCk]; exact Nat.le_refl _, .inl ⟨length_setCk .., ads_setCk ..⟩⟩
    simp [execOp, ex, ek, SV.va, SV.vas, hr, encV_va]
    rfl
  case entryStore t x s v =>
    split at hl <;> try (first | contradiction | exact False.elim hl)
    rename_i c k n vv hx hs hv
    split at hl <;> try (first | contradiction | exact False.elim hl)
    rename_i tk tv l clk hc
    split at hl <;> try (first | contradiction | exact False.elim hl)
    rename_i y hw hy
    obtain ⟨⟨hn, hst⟩, hl⟩ := hl
    have ex := ev_ok h hm.glob ha _ _ hx
    have es := ev_ok h hm.glob ha _ _ hs
    have ev' := ev_ok h hm.glob ha _ _ hv
    rw [← decV_ok hy (ads m)] at ev'
    have hlv : (nth m c).live = true := by unfold Ck.live; rw [hc]
    have hbl := mp_heap hm hc
    have hr := run_entryStore (P := P) (t := t) hbl hn hst k y
    have hlt := heap_size_of hbl
    refine ⟨_, _, .undef, .inr ⟨?_, rfl⟩, hm.putO hw hlv hbl fz_map (o' := .map ((mset (C tk) (C tv) n.toNat y l).map (entryOf (C tk) (C tv))).toArray clk) fz_map (.mp tk tv (mset (C tk) (C tv) n.toNat y l) clk) rfl (by simp only [Ck.ok]; exact World.putObj_heap_same hlt), hl, fun k _ => by rw [ads_setCk], by rw [length_setCk]; exact Nat.le_refl _, .inl ⟨length_setCk .., ads_setCk ..⟩⟩
    simp [execOp, ex, es, ev', SV.va, hr]
    rfl
  case call c =>
    obtain ⟨callee, args, argTypes⟩ := c
    simp only at hl
    split at hl <;> try (first | contradiction | exact False.elim hl)
    split at hl <;> try (first | contradiction | exact False.elim hl)
    rename_i t t' x k hts hxs
    split at hl <;> try (first | contradiction | exact False.elim hl)
    rename_i kt vt c kv ht hx hk
    split at hl <;> try (first | contradiction | exact False.elim hl)
    rename_i tk tv l clk hc
    split at hl <;> try (first | contradiction | exact False.elim hl)
    rename_i q hb hq
    simp only [Bool.and_eq_true] at hb
    have e1 := Nat.eq_of_beq_eq_true hb.2.1
    have e2 := Nat.eq_of_beq_eq_true hb.2.2
    subst e1; subst e2
    obtain ⟨hK, hl⟩ := hl
    have ex := ev_ok h hm.glob ha _ _ hx
    have ek := ev_ok h hm.glob ha _ _ hk
    rw [← decV_ok hq (ads m)] at ek
    have e1 : args = #[x, k] := by apply Array.ext'; simpa using hxs
    have e2 : argTypes = #[t, t'] := by apply Array.ext'; simpa using hts
    subst e1; subst e2
    have hlv : (nth m c).live = true := by unfold Ck.live; rw [hc]
    have hbl := mp_heap hm hc
    have hr := run_mapDel (k := t') (ty := type) ht hK hbl q
    have hlt := heap_size_of hbl
    refine ⟨_, _, .tup [], .inl ?_, hm.putO hb.1 hlv hbl fz_map (o' := .map ((mdel (C kt) (C vt) l q).map (entryOf (C kt) (C vt))).toArray clk) fz_map (.mp kt vt (mdel (C kt) (C vt) l q) clk) rfl (by simp only [Ck.ok]; exact World.putObj_heap_same hlt), hl, fun k _ => by rw [ads_setCk], by rw [length_setCk]; exact Nat.le_refl _, .inl ⟨length_setCk .., ads_setCk ..⟩⟩
    simp [execOp, resolve, invoke, builtin, ex, ek, SV.va, SV.vas, hr]
    rfl
  case range t x =>
    split at hl <;> try (first | contradiction | exact False.elim hl)
    rename_i kt vt c ht hx
    split at hl <;> try (first | contradiction | exact False.elim hl)
    rename_i tk tv l clk hc
    split at hl <;> try (first | contradiction | exact False.elim hl)
    rename_i hb
    simp only [Bool.and_eq_true] at hb
    have hcl : c < m.length := by simpa using hb.2
    have ex := ev_ok h hm.glob ha _ _ hx
    have hr := run_range (P := P) ht (mp_heap hm hc)
    have hok : Ck.ok (ads (m ++ [(⟨w.heap.size, 0, 0, true, none, .it c [] clk⟩ : Ck C)])) (w.alloc (.mapIter (some (ads m c).block) clk #[] clk)) (⟨w.heap.size, 0, 0, true, none, .it c [] clk⟩ : Ck C) := by
      show (w.alloc _).heap[w.heap.size]? = some (.mapIter (some (ads (m ++ [(⟨w.heap.size, 0, 0, true, none, .it c [] clk⟩ : Ck C)]) c).block) clk #[] clk)
      rw [← ads_append m _ c hcl]; exact heap_alloc_at w _
    refine ⟨_, _, _, .inl ?_, hm.newO hb.1.1 (.mapIter (some (ads m c).block) clk #[] clk) fz_iter 0 _ hok, hl w.heap.size, ads_append _ _, by simp, .inr hb.1.2⟩
    have : ads (m ++ [(⟨w.heap.size, 0, 0, true, none, .it c [] clk⟩ : Ck C)]) m.length = ⟨w.heap.size, 0, 0⟩ := ads_append_new _ _
    simp [execOp, ex, SV.va, hr, this, Ad.at]
  case next it isS =>
    cases isS with
    | true => exact False.elim hl
    | false =>
      simp only at hl
      split at hl <;> try (first | contradiction | exact False.elim hl)
      rename_i ci hit
      split at hl <;> try (first | contradiction | exact False.elim hl)
      rename_i mc seen clk hic hiw
      split at hl <;> try (first | contradiction | exact False.elim hl)
      rename_i tk tv l clk' hmc
      obtain ⟨⟨hbase, hclk, hold⟩, hdone, hmore⟩ := hl
      subst hclk
      have ei := ev_ok h hm.glob ha _ _ hit
      have hlv : (nth m ci).live = true := by unfold Ck.live; rw [hic]
      have hri := hm.ok _ (nth_mem (lt_of_live hlv))
      simp only [Ck.ok, hic] at hri
      obtain ⟨k, hk⟩ := run_next (P := P) (ty := type) hri (mp_heap hm hmc) hold
      have ea : (ads m ci).at 0 0 = ⟨(nth m ci).block, 0, none⟩ := by simp [ads, Ck.ad, Ad.at, hbase]
      rcases hk with ⟨hall, hr⟩ | ⟨e, he, hne, hr⟩
      · refine ⟨_, m, _, .inl ?_, hm.drawn k, hdone hall, fun _ _ => rfl, Nat.le_refl _, .inl ⟨rfl, rfl⟩⟩
        simp [execOp, ei, SV.va, SV.vas, ea, hr, SB.val]
      · have hm' := hm.drawn k
        have hlt := heap_size_of hri
        refine ⟨_, _, _, .inl ?_, hm'.putO hiw hlv hri fz_iter (o' := .mapIter (some (ads m mc).block) clk' (seen ++ [e.2.2]).toArray clk') fz_iter (.it mc (seen ++ [e.2.2]) clk') rfl (by simp only [Ck.ok]; exact World.putObj_heap_same hlt), hmore e ⟨he, hne⟩, fun k _ => by rw [ads_setCk], by rw [length_setCk]; exact Nat.le_refl _, .inl ⟨length_setCk .., ads_setCk ..⟩⟩
        simp [execOp, ei, SV.va, SV.vas, ea, hr, SB.val, encV_va]
end Go.Vx
namespace Go.Vx
open Go
variable {C : Nat → Codec}

def pickB (x : Bool) (A B : SB) : SB :=
  match A, B with
  | .t, .t => .t
  | .f, .f => .f
  | .t, .f => .tm x
  | .f, .t => .tm (!x)
  | .t, B => .tm (x || B.val)
  | .f, B => .tm (!x && B.val)
  | A, .f => .tm (x && A.val)
  | A, .t => .tm (!x || A.val)
  | A, B => .tm (bif x then A.val else B.val)
theorem pickB_ok (x : Bool) (A B : SB) : (pickB x A B).val = if x then A.val else B.val := by
  cases x <;> cases A <;> cases B <;> simp [pickB, SB.val]

def pickP (tm : Tm) (m : List (Ck C)) (al : List (Nat × Bool)) (o : Op) : Ans :=
  match o with
  | .pick (.tmp tc) a b => match ev tm m al (.tmp tc) with
    | some (.bool .t) => (ev tm m al a).map fun v => ([], v)
    | some (.bool .f) => (ev tm m al b).map fun v => ([], v)
    | some (.bool (.tm x)) => match ev tm m (al ++ [(tc, true)]) a, ev tm m (al ++ [(tc, false)]) b with
      | some (.bool A), some (.bool B) => some ([], .bool (pickB x A B))
      | some .undef, some (.bool B) => some ([x = false], .bool B)
      | some (.bool A), some .undef => some ([x = true], .bool A)
      | _, _ => none
    | _ => none
  | _ => none

theorem pickP_ok {P : Program} {n : Nat} {tm : Tm} {m : List (Ck C)} {a : Act} (h : ActOK (ads m) n tm a) (hg : GlOK m) {al : List (Nat × Bool)} (ha : AlOK tm al) {o : Oper} {ps : List Prop} {r : SV}
    (hp : pickP tm m al o.op = some (ps, r)) (hps : allOf ps) (w : World) : (execOp a.eval o).run P w = .ok (.value (r.va (ads m))) w := by
  obtain ⟨dst, op, ty, pos, after, g⟩ := o
  simp only at hp
  cases op <;> simp only [pickP] at hp <;> try contradiction
  rename_i c x y
  cases c <;> simp only at hp <;> try contradiction
  rename_i tc
  split at hp <;> try (first | contradiction | exact False.elim hp)
  · rename_i hc
    cases hx : ev tm m al x with
    | none => simp [hx] at hp
    | some v =>
      simp only [hx, Option.map_some, Option.some.injEq, Prod.mk.injEq] at hp
      obtain ⟨rfl, rfl⟩ := hp
      simp [execOp, ev_ok h hg ha _ _ hc, ev_ok h hg ha _ _ hx, SV.va, SB.val, asBool]
  · rename_i hc
    cases hy : ev tm m al y with
    | none => simp [hy] at hp
    | some v =>
      simp only [hy, Option.map_some, Option.some.injEq, Prod.mk.injEq] at hp
      obtain ⟨rfl, rfl⟩ := hp
      simp [execOp, ev_ok h hg ha _ _ hc, ev_ok h hg ha _ _ hy, SV.va, SB.val, asBool]
  · rename_i b hc
    have hcond : condAt tm tc = some b := by
      simp only [ev] at hc
      unfold condAt
      cases hg' : get tm tc with
      | junk => simp [hg', strip] at hc
      | cnd cs v =>
        simp only [hg', strip] at hc
        split at hc
        · cases v <;> simp_all [SB.val]
        · cases hc
      | bool s => simp only [hg', strip, Option.some.injEq, SV.bool.injEq] at hc; simp [hc, SB.val]
      | _ => simp [hg', strip] at hc
    have hval := ev_ok h hg ha _ _ hc
    have ha' : AlOK tm (al ++ [(tc, b)]) := by
      intro p hp
      rcases List.mem_append.1 hp with hp | hp
      · exact ha p hp
      · simp at hp; subst hp; exact hcond
    split at hp <;> try (first | contradiction | exact False.elim hp)
    · rename_i A B hA hB
      simp only [Option.some.injEq, Prod.mk.injEq] at hp
      obtain ⟨rfl, rfl⟩ := hp
      cases b with
      | true =>
        have := ev_ok h hg ha' _ _ hA
        have hv : a.eval (.tmp tc) = .bool true := hval
        simp [execOp, hv, this, SV.va, asBool, pickB_ok]
      | false =>
        have := ev_ok h hg ha' _ _ hB
        have hv : a.eval (.tmp tc) = .bool false := hval
        simp [execOp, hv, this, SV.va, asBool, pickB_ok]
    · rename_i B hA hB
      simp only [Option.some.injEq, Prod.mk.injEq] at hp
      obtain ⟨rfl, rfl⟩ := hp
      have hb : b = false := hps.1
      subst hb
      have := ev_ok h hg ha' _ _ hB
      have hv : a.eval (.tmp tc) = .bool false := hval
      simp [execOp, hv, this, SV.va, asBool]
    · rename_i A hA hB
      simp only [Option.some.injEq, Prod.mk.injEq] at hp
      obtain ⟨rfl, rfl⟩ := hp
      have hb : b = true := hps.1
      subst hb
      have := ev_ok h hg ha' _ _ hA
      have hv : a.eval (.tmp tc) = .bool true := hval
      simp [execOp, hv, this, SV.va, asBool]

/-- The same with ways that part: two operations that come up at once, each with what follows when it is taken first. -/
inductive PTree where
  | nil
  | p (i : Nat) (r : PTree)
  | q (i : Nat) (r : PTree)
  | e (i : Nat) (r : PTree)
  | f (i : Nat) (r : PTree)
  | two (i : Nat) (a : PTree) (j : Nat) (b : PTree)
/-- How a region that draws is gone through: the operation's number, and how it is taken. -/
inductive Tk where
  | p (i : Nat)
  | q (i : Nat)
  | e (i : Nat)
  | f (i : Nat)
  | t (r : PTree)
def PTree.of : List Tk → PTree
  | [] => .nil
  | .p i :: r => .p i (PTree.of r)
  | .q i :: r => .q i (PTree.of r)
  | .e i :: r => .e i (PTree.of r)
  | .f i :: r => .f i (PTree.of r)
  | .t r :: _ => r
def PTree.len : PTree → Nat
  | .nil => 0
  | .p _ r => r.len + 1
  | .q _ r => r.len + 1
  | .e _ r => r.len + 1
  | .f _ r => r.len + 1
  | .two _ a _ _ => a.len + 1

/-- What a function's evaluation knows: contracts, the number of slots. -/
structure Env (P : Program) (C : Nat → Codec) where
  fcs : List (Fc P C)
  pcs : List (Pc P C)
  n : Nat
  plans : List (Nat × List Nat × List Tk) := []

/-- The address lies in an object that is known. -/
def Plain (C : Nat → Codec) (a : Addr) : Prop := ∃ (g : Nat) (c : Array Value) (t : TypeId), (a.block, Obj.cells c t (0, 0)) ∈ (C g).gpins
/-- '==' of two interface values that hold addresses of such objects. -/
def eqPtr (P : Program) (C : Nat → Codec) (t1 t2 : TypeId) (a b : Addr) : Option (List Prop × SB) :=
  match Nat.beq t1 t2 with
  | false => some ([], .f)
  | true => match P.underlying t1, P.info? t1 with
    | some (.pointer te), some i => match P.info? te with
      | some j => match i.comparable, Nat.beq j.size 0 with
        | true, false => some ([Plain C a, Plain C b], .tm (decide (a = b)))
        | _, _ => none
      | none => none
    | _, _ => none
def eqQ (P : Program) (tm : Tm) (m : List (Ck C)) (al : List (Nat × Bool)) (o : Op) : Ans :=
  match o with
  | .binOp op t x y _ => match ev tm m al x, ev tm m al y with
    | some (.ifc t1 (.val (.pointer (some a)))), some (.ifc t2 (.val (.pointer (some b)))) => match P.underlying t with
      | some (.interface _) => match op with
        | .eql => (eqPtr P C t1 t2 a b).map fun (ps, s) => (ps, .bool s)
        | .neq => (eqPtr P C t1 t2 a b).map fun (ps, s) => (ps, .bool s.neg)
        | _ => none
      | _ => none
    | _, _ => none
  | _ => none

theorem eqPtr_ok {P : Program} {S : Sx} {w0 w : World} {m : List (Ck C)} (hm : MemOK S w0 w m) {t : TypeId} {ms : Array (String × TypeId)} (ht : P.underlying t = some (.interface ms)) {t1 t2 : TypeId} {a b : Addr} {ps : List Prop} {s : SB}
    (h : eqPtr P C t1 t2 a b = some (ps, s)) (hp : allOf ps) : (Op.equal t (.iface t1 (.pointer (some a))) (.iface t2 (.pointer (some b)))).run P w = .ok s.val w := by
  unfold eqPtr at h
  split at h
  · rename_i hne
    simp only [Option.some.injEq, Prod.mk.injEq] at h
    obtain ⟨_, rfl⟩ := h
    have hne : t1 ≠ t2 := Nat.ne_of_beq_eq_false hne
    have key : ∀ d : Nat, (Op.equalIn (d + 1) t (.iface t1 (.pointer (some a))) (.iface t2 (.pointer (some b)))).run P w = .ok false w := fun d => by
      simp [Op.equalIn, run_underlying' ht, hne]
    exact key 9999
  · rename_i he
    have he : t1 = t2 := Nat.eq_of_beq_eq_true he
    subst he
    split at h <;> try contradiction
    rename_i te i hu hi
    split at h <;> try contradiction
    rename_i j hj
    split at h <;> try contradiction
    rename_i hc hs
    simp only [Option.some.injEq, Prod.mk.injEq] at h
    obtain ⟨rfl, rfl⟩ := h
    have hs : j.size ≠ 0 := Nat.ne_of_beq_eq_false hs
    obtain ⟨⟨g, c, u, hg⟩, ⟨g', c', u', hg'⟩, _⟩ := hp
    have ha := (hm.more.gp g _ hg).1
    have hb := (hm.more.gp g' _ hg').1
    by_cases hab : a = b
    · subst hab
      simp only [SB.val, decide_true]
      exact run_equalIn_iface_ptr_same w 9998 a ht hu hi hc hj
    · simp only [Op.equal, Op.maxDepth, run_equalIn_iface_ptr_other w 9998 ht hu hi hc hj hs hab ha hb, SB.val, decide_eq_false hab]

theorem eqQ_ok {P : Program} {S : Sx} {w0 w : World} {n : Nat} {tm : Tm} {m : List (Ck C)} {a : Act} (h : ActOK (ads m) n tm a) (hm : MemOK S w0 w m) {al : List (Nat × Bool)} (ha : AlOK tm al) {o : Oper} {ps : List Prop} {r : SV}
    (hl : eqQ P tm m al o.op = some (ps, r)) (hp : allOf ps) : (execOp a.eval o).run P w = .ok (.value (r.va (ads m))) w := by
  obtain ⟨dst, op, type, pos, after, guard⟩ := o
  simp only at hl
  cases op <;> simp only [eqQ] at hl <;> try contradiction
  case binOp bo t x y yt =>
    split at hl <;> try contradiction
    rename_i t1 a1 t2 b1 hx hy
    split at hl <;> try contradiction
    rename_i ms ht
    have ex := ev_ok h hm.glob ha _ _ hx
    have ey := ev_ok h hm.glob ha _ _ hy
    cases bo <;> simp only at hl <;> try contradiction
    · cases he : eqPtr P C t1 t2 a1 b1 with
      | none => simp [he] at hl
      | some q =>
        obtain ⟨qs, s⟩ := q
        simp only [he, Option.map_some, Option.some.injEq, Prod.mk.injEq] at hl
        obtain ⟨rfl, rfl⟩ := hl
        have := eqPtr_ok hm ht he hp
        simp [execOp, ex, ey, SV.va, eqGuard, binOp, this]
    · cases he : eqPtr P C t1 t2 a1 b1 with
      | none => simp [he] at hl
      | some q =>
        obtain ⟨qs, s⟩ := q
        simp only [he, Option.map_some, Option.some.injEq, Prod.mk.injEq] at hl
        obtain ⟨rfl, rfl⟩ := hl
        have := eqPtr_ok hm ht he hp
        simp [execOp, ex, ey, SV.va, eqGuard, binOp, this]
        cases s <;> simp [SB.val, SB.neg]

/-- It only computes, in whatever world. -/
def pureP (P : Program) (tm : Tm) (m : List (Ck C)) (al : List (Nat × Bool)) (o : Op) : Ans :=
  match pickP tm m al o with
  | some r => some r
  | none => pev P (fun c => (nth m c).sz) (ev tm m al) o
/-- It reads. -/
def pureQ {P : Program} (E : Env P C) (tm : Tm) (m : List (Ck C)) (al : List (Nat × Bool)) (o : Op) : Ans :=
  match lev P tm m al o with
  | some r => some r
  | none => match eqQ P tm m al o with
    | some r => some r
    | none => match mapQ P tm m al o with
      | some r => some r
      | none => callQ E.pcs tm m al o

theorem pureP_ok {P : Program} {n : Nat} {tm : Tm} {m : List (Ck C)} {a : Act} (h : ActOK (ads m) n tm a) (hg : GlOK m) {al : List (Nat × Bool)} (ha : AlOK tm al) {o : Oper} {ps : List Prop} {r : SV}
    (hp : pureP P tm m al o.op = some (ps, r)) (hps : allOf ps) (w : World) : (execOp a.eval o).run P w = .ok (.value (r.va (ads m))) w := by
  unfold pureP at hp
  split at hp
  · rename_i r' hr
    simp only [Option.some.injEq] at hp; subst hp
    exact pickP_ok h hg ha hr hps w
  · exact pev_ok hp hps (fun _ => rfl) (ev_ok h hg ha) w

/-- An operation that reads: one value in every world that these chunks fit. -/
def Reads (P : Program) (S : Sx) (w0 : World) (m : List (Ck C)) (o : Oper) (a : Act) (v : Value) : Prop :=
  ∀ w, MemOK S w0 w m → (execOp a.eval o).run P w = .ok (.value v) w ∨
    ∃ f vals, (execOp a.eval o).run P w = .ok (.enter f vals) w ∧ Calls P f vals w fun e w' => e = .returned v ∧ MemOK S w0 w' m

theorem pureQ_ok {P : Program} {S : Sx} {w0 : World} {E : Env P C} {n : Nat} {tm : Tm} {m : List (Ck C)} {a : Act} (h : ActOK (ads m) n tm a) {al : List (Nat × Bool)} (ha : AlOK tm al) {o : Oper} {ps : List Prop} {r : SV}
    (hp : pureQ E tm m al o.op = some (ps, r)) (hps : allOf ps) : Reads P S w0 m o a (r.va (ads m)) := by
  intro w hm
  unfold pureQ at hp
  split at hp
  · rename_i r' hr
    simp only [Option.some.injEq] at hp; subst hp
    exact .inl (lev_ok h hm ha hr hps)
  · split at hp
    · rename_i r' hr
      simp only [Option.some.injEq] at hp; subst hp
      exact .inl (eqQ_ok h hm ha hr hps)
    · split at hp
      · rename_i r' hr
        simp only [Option.some.injEq] at hp; subst hp
        exact .inl (mapQ_ok h hm ha hr hps)
      · exact .inr (callQ_ok h hm ha hp hps)

theorem Reads.wp {P : Program} {S : Sx} {w0 w : World} {m : List (Ck C)} {o : Oper} {a : Act} {v : Value} (h : Reads P S w0 m o a v) (hm : MemOK S w0 w m)
    {next : Act → World → Prop} {Q : Exit → Act → World → Prop} (hn : ∀ w', MemOK S w0 w' m → next (a.put o.dst v) w') : o.wp P a w next Q := by
  unfold Oper.wp
  rcases h w hm with h1 | ⟨f, vals, h1, h2⟩
  · rw [h1]; exact hn w hm
  · rw [h1]
    exact h2.mono fun e w' ⟨he, hm'⟩ => by subst he; exact hn w' hm'

def imp : List (Nat × Bool × Bool) → Prop → Prop
  | [], p => p
  | (_, w, b) :: r, p => b = w → imp r p
def impT : List (Nat × Bool × Bool) → Prop → Tr
  | [], p => .lf p
  | (_, w, b) :: r, p => .imp (b = w) (impT r p)
theorem impT_imp : ∀ {cs : List (Nat × Bool × Bool)} {p : Prop}, (impT cs p).holds → imp cs p
  | [], _, h => h
  | (_, _, _) :: _, _, h => fun e => impT_imp (h e)
def asks (cs : List (Nat × Bool × Bool)) : List Prop → Tr → Tr
  | [], X => X
  | p :: r, X => .and (impT cs p) (asks cs r X)
theorem imp_ok : ∀ {cs : List (Nat × Bool × Bool)} {p : Prop}, imp cs p → holds cs = true → p
  | [], _, h, _ => h
  | (_, w, b) :: r, p, h, hh => by
    simp only [holds, Bool.and_eq_true, beq_iff_eq] at hh
    exact imp_ok (h hh.1) hh.2
theorem asks_ok : ∀ {cs : List (Nat × Bool × Bool)} {ps : List Prop} {X : Tr}, asks cs ps X → X.holds ∧ (holds cs = true → allOf ps)
  | _, [], _, h => ⟨h, fun _ => trivial⟩
  | _, _ :: _, _, h => ⟨(asks_ok h.2).1, fun hh => ⟨imp_ok (impT_imp h.1) hh, (asks_ok h.2).2 hh⟩⟩

def alOf (cs : List (Nat × Bool × Bool)) : List (Nat × Bool) := cs.map fun c => (c.1, c.2.1)
theorem alOf_ok {tm : Tm} {cs : List (Nat × Bool × Bool)} (h : ∀ c ∈ cs, condAt tm c.1 = some c.2.2) (hh : holds cs = true) : AlOK tm (alOf cs) := by
  intro p hp
  obtain ⟨c, hc, rfl⟩ := List.mem_map.1 hp
  have : c.2.2 = c.2.1 := by
    clear h hp
    induction cs with
    | nil => cases hc
    | cons x r ih =>
      obtain ⟨t, w, b⟩ := x
      simp only [holds, Bool.and_eq_true, beq_iff_eq] at hh
      rcases List.mem_cons.1 hc with rfl | hc
      · exact hh.1
      · exact ih hh.2 hc
  rw [h c hc, this]

def callOf : Op → Option Call
  | .call c => match c.callee with
    | .builtin _ => none
    | _ => some c
  | _ => none
theorem callOf_ok {o : Op} {c : Call} (h : callOf o = some c) : o = .call c := by
  unfold callOf at h
  split at h
  · split at h
    · cases h
    · simp only [Option.some.injEq] at h; rw [h]
  · cases h
def onMaps : Op → Bool
  | .makeMap _ _ => true
  | .mapUpdate _ _ _ _ => true
  | .mapEntry _ _ _ => true
  | .entryStore _ _ _ _ => true
  | .range _ _ => true
  | .next _ _ => true
  | .call c => match c.callee with
    | .builtin .delete => true
    | _ => false
  | _ => false
def eff1 {P : Program} (E : Env P C) (tm : Tm) (m : List (Ck C)) (o : Op) (K : SV → List (Ck C) → Tr) : Tr :=
  match callOf o with
  | some c => callP E.fcs tm m [] c K
  | none => match onMaps o with
    | true => mapE P tm m [] o K
    | false => eev P tm m [] o K

def effG {P : Program} (E : Env P C) (ops : Array Oper) (o : Oper) : Nat → Tm → List (Ck C) → (Tm → List (Ck C) → Tr) → Tr
  | fuel, tm, m, K => match gd ops tm o.guard with
    | .lost => .no
    | .skip => match put? E.n tm o.dst [] .undef with
      | some tm' => K tm' m
      | none => .no
    | .run [] => eff1 E tm m o.op fun v m' => match put? E.n tm o.dst [] v with
      | some tm' => K tm' m'
      | none => .no
    | .run ((t, _, _) :: _) => match fuel with
      | 0 => .no
      | fuel + 1 => match get tm t with
        | .bool (.tm b) => .and (.imp (b = true) (fTm (know t true tm) fun tm' => effG E ops o fuel tm' m K)) (.imp (b = false) (fTm (know t false tm) fun tm' => effG E ops o fuel tm' m K))
        | _ => .no

theorem eev_ok {P : Program} {S : Sx} {w0 w : World} {n : Nat} {tm : Tm} {m : List (Ck C)} {a : Act} (h : ActOK (ads m) n tm a) (hm : MemOK S w0 w m) {al : List (Nat × Bool)} (ha : AlOK tm al) {o : Oper}
    {K : SV → List (Ck C) → Tr} (hl : eev P tm m al o.op K) : Left P S w0 tm m w (execOp a.eval o) K := by
  obtain ⟨dst, op, ty, pos, after, g⟩ := o
  simp only at hl
  cases op
  case store => exact eev_store h hm ha hl
  case alloc => exact eev_alloc hm hl
  case box => exact eev_box h hm ha hl
  case makeSlice => exact eev_make h hm ha hl
  case buildSlice => exact eev_buildSlice h hm ha hl
  case call => exact eev_append h hm ha hl
  all_goals exact hl.elim

theorem Left.opTo {P : Program} {S : Sx} {w0 w : World} {n : Nat} {tm : Tm} {m : List (Ck C)} {o : Oper} {a : Act} {K : SV → List (Ck C) → Tr} (h : ActOK (ads m) n tm a)
    (hl : Left P S w0 tm m w (execOp a.eval o) K) : OpTo P S w0 n tm m o a w K := by
  obtain ⟨w', m', r, hr, hm', hK, hads, hlen, hlt⟩ := hl.ex
  intro next Q hn
  have ha : ActOK (ads m') n tm a := by
    rcases hlt with ⟨_, e⟩ | hlt
    · rw [e]; exact h
    · exact h.ads hads hlt
  unfold Oper.wp
  rcases hr with hr | ⟨hr, rfl⟩
  · rw [hr]; exact hn _ _ _ _ hK hm' ha rfl ⟨hlen, hads⟩
  · rw [hr]; exact hn _ _ _ _ hK hm' ha rfl ⟨hlen, hads⟩

theorem eff1_ok {P : Program} {S : Sx} {w0 w : World} {E : Env P C} {o : Oper} {tm : Tm} {m : List (Ck C)} {K : Tm → List (Ck C) → Tr}
    (hs : eff1 E tm m o.op fun v m' => match put? E.n tm o.dst [] v with | some tm' => K tm' m' | none => .no) {a : Act}
    (h : ActOK (ads m) E.n tm a) (hm : MemOK S w0 w m) {next : Act → World → Prop} {Q : Exit → Act → World → Prop}
    (hn : ∀ tm' m' a' w', K tm' m' → ActOK (ads m') E.n tm' a' → MemOK S w0 w' m' → (m.length ≤ m'.length ∧ ∀ k, k < m.length → ads m k = ads m' k) → next a' w') : o.wp P a w next Q := by
  have fin : OpTo P S w0 E.n tm m o a w (fun v m' => match put? E.n tm o.dst [] v with | some tm' => K tm' m' | none => .no) → o.wp P a w next Q := by
    intro ho
    refine ho next Q ?_
    intro r m' w' v hK hm' ha' hv hads
    dsimp only at hK
    split at hK <;> try (first | contradiction | exact False.elim hK)
    rename_i tm' hp
    exact hn _ _ _ _ hK (put_ok ha' hp (by simp) _ hv) hm' hads
  have hnil : AlOK tm [] := by intro p hp; cases hp
  unfold eff1 at hs
  split at hs
  · rename_i c hc
    obtain ⟨dst, op, ty, pos, after, g⟩ := o
    have e := callOf_ok hc
    simp only at e
    subst e
    exact fin (callP_ok h hm hnil hs)
  · split at hs
    · exact fin ((mapE_ok h hm hnil hs).opTo h)
    · exact fin ((eev_ok h hm hnil hs).opTo h)

theorem effG_ok {P : Program} {S : Sx} {w0 w : World} {E : Env P C} {ops : Array Oper} {o : Oper} {m : List (Ck C)} {K : Tm → List (Ck C) → Tr} {a : Act}
    (hm : MemOK S w0 w m) {next : Act → World → Prop} {Q : Exit → Act → World → Prop}
    (hn : ∀ tm' m' a' w', K tm' m' → ActOK (ads m') E.n tm' a' → MemOK S w0 w' m' → (m.length ≤ m'.length ∧ ∀ k, k < m.length → ads m k = ads m' k) → next a' w') : ∀ (fuel : Nat) (tm : Tm), effG E ops o fuel tm m K → ActOK (ads m) E.n tm a →
    (Region.wanted o (yielded ops a.tmps) = true → o.wp P a w next Q) ∧ (Region.wanted o (yielded ops a.tmps) = false → next (a.put o.dst Go.undef) w)
  | fuel, tm, hs, h => by
    have h1 : ∀ hg : gd ops tm o.guard = .skip, ∀ tm', put? E.n tm o.dst [] .undef = some tm' → K tm' m → (Region.wanted o (yielded ops a.tmps) = true → o.wp P a w next Q) ∧ (Region.wanted o (yielded ops a.tmps) = false → next (a.put o.dst Go.undef) w) := by
      intro hg tm' hp hk
      have hw := gd_skip h hg
      exact ⟨fun e => (by rw [hw] at e; cases e), fun _ => hn _ _ _ _ hk (put_ok h hp (by simp) _ rfl) hm ⟨Nat.le_refl _, fun _ _ => rfl⟩⟩
    have h2 : gd ops tm o.guard = .run [] → (eff1 E tm m o.op fun v m' => match put? E.n tm o.dst [] v with | some tm' => K tm' m' | none => .no) →
        (Region.wanted o (yielded ops a.tmps) = true → o.wp P a w next Q) ∧ (Region.wanted o (yielded ops a.tmps) = false → next (a.put o.dst Go.undef) w) := by
      intro hg hk
      obtain ⟨hw, _⟩ := gd_run h hg
      exact ⟨fun _ => eff1_ok hk h hm hn, fun e => (by rw [hw] at e; cases e)⟩
    cases fuel with
    | zero =>
      unfold effG at hs
      split at hs <;> try (first | contradiction | exact False.elim hs)
      · rename_i hg
        split at hs <;> try (first | contradiction | exact False.elim hs)
        rename_i tm' hp
        exact h1 hg tm' hp hs
      · rename_i hg
        exact h2 hg hs
    | succ fuel =>
      unfold effG at hs
      split at hs <;> try (first | contradiction | exact False.elim hs)
      · rename_i hg
        split at hs <;> try (first | contradiction | exact False.elim hs)
        rename_i tm' hp
        exact h1 hg tm' hp hs
      · rename_i hg
        exact h2 hg hs
      · simp only at hs
        split at hs <;> try (first | contradiction | exact False.elim hs)
        rename_i b ht
        have hk := know_ok h ht
        cases b with
        | true => exact effG_ok hm hn fuel _ (by simpa only [fTm_eq] using hs.1 rfl) hk
        | false => exact effG_ok hm hn fuel _ (by simpa only [fTm_eq] using hs.2 rfl) hk

/-- One operation. -/
def stepP {P : Program} (E : Env P C) (ops : Array Oper) (o : Oper) (tm : Tm) (m : List (Ck C)) (K : Tm → List (Ck C) → Tr) : Tr :=
  match gd ops tm o.guard with
  | .lost => .no
  | .skip => match put? E.n tm o.dst [] .undef with
    | some tm' => K tm' m
    | none => .no
  | .run cs => match pureP P tm m (alOf cs) o.op with
    | some (ps, v) => match put? E.n tm o.dst cs v with
      | some tm' => asks cs ps (K tm' m)
      | none => .no
    | none => match pureQ E tm m (alOf cs) o.op with
      | some (ps, v) => match put? E.n tm o.dst cs v with
        | some tm' => asks cs ps (K tm' m)
        | none => .no
      | none => effG E ops o 8 tm m K

def sops {P : Program} (E : Env P C) (ops : Array Oper) : List Oper → Tm → List (Ck C) → (Tm → List (Ck C) → Tr) → Tr
  | [], tm, m, K => K tm m
  | o :: r, tm, m, K => stepP E ops o tm m fun tm' m' => fTm1 tm' fun tm' => fM m' fun m' => sops E ops r tm' m' K

theorem stepP_ok {P : Program} {S : Sx} {w0 w : World} {E : Env P C} {ops : Array Oper} {o : Oper} {tm : Tm} {m : List (Ck C)} {K : Tm → List (Ck C) → Tr} (hs : stepP E ops o tm m K) {a : Act}
    (h : ActOK (ads m) E.n tm a) (hm : MemOK S w0 w m) {next : Act → World → Prop} {Q : Exit → Act → World → Prop}
    (hn : ∀ tm' m' a' w', K tm' m' → ActOK (ads m') E.n tm' a' → MemOK S w0 w' m' → (m.length ≤ m'.length ∧ ∀ k, k < m.length → ads m k = ads m' k) → next a' w') :
    (Region.wanted o (yielded ops a.tmps) = true → o.wp P a w next Q) ∧ (Region.wanted o (yielded ops a.tmps) = false → next (a.put o.dst Go.undef) w) := by
  unfold stepP at hs
  split at hs <;> try (first | contradiction | exact False.elim hs)
  · rename_i hg
    have hw := gd_skip h hg
    split at hs <;> try (first | contradiction | exact False.elim hs)
    rename_i tm' hp
    refine ⟨fun e => (by rw [hw] at e; cases e), fun _ => hn _ _ _ _ hs (put_ok h hp (by simp) _ rfl) hm ⟨Nat.le_refl _, fun _ _ => rfl⟩⟩
  · rename_i cs hg
    obtain ⟨hw, hcs⟩ := gd_run h hg
    split at hs
    · rename_i ps v hpu
      split at hs <;> try (first | contradiction | exact False.elim hs)
      rename_i tm' hp
      obtain ⟨hK, hps⟩ := asks_ok hs
      refine ⟨fun e => ?_, fun e => ?_⟩
      · rw [hw] at e
        have hr := pureP_ok h hm.glob (alOf_ok hcs e) hpu (hps e) w
        unfold Oper.wp
        rw [hr]
        refine hn _ _ _ _ hK (put_ok h hp hcs _ ?_) hm ⟨Nat.le_refl _, fun _ _ => rfl⟩
        cases cs with
        | nil => rfl
        | cons c r => simp [mkc, SV.va, e]
      · rw [hw] at e
        refine hn _ _ _ _ hK (put_ok h hp hcs _ ?_) hm ⟨Nat.le_refl _, fun _ _ => rfl⟩
        cases cs with
        | nil => cases e
        | cons c r => simp [mkc, SV.va, e]
    · split at hs
      · rename_i ps v hpu
        split at hs <;> try (first | contradiction | exact False.elim hs)
        rename_i tm' hp
        obtain ⟨hK, hps⟩ := asks_ok hs
        refine ⟨fun e => ?_, fun e => ?_⟩
        · rw [hw] at e
          have hr := pureQ_ok (S := S) (w0 := w0) h (alOf_ok hcs e) hpu (hps e)
          refine hr.wp hm fun w' hm' => ?_
          refine hn _ _ _ _ hK (put_ok h hp hcs _ ?_) hm' ⟨Nat.le_refl _, fun _ _ => rfl⟩
          cases cs with
          | nil => rfl
          | cons c r => simp [mkc, SV.va, e]
        · rw [hw] at e
          refine hn _ _ _ _ hK (put_ok h hp hcs _ ?_) hm ⟨Nat.le_refl _, fun _ _ => rfl⟩
          cases cs with
          | nil => cases e
          | cons c r => simp [mkc, SV.va, e]
      · exact effG_ok hm hn 8 tm hs h

end Go.Vx
namespace Go.Vx
open Go
section
variable {P : Program} {ops : Array Oper} {T : Array Bool → World → Prop} {T0 Cl : World → Prop} {Q : Exit → Act → World → Prop} {E : Nat → Bool}

/-- As 'wpAny', with what holds of every world on the way. -/
def wpAT (P : Program) (ops : Array Oper) (T : Array Bool → World → Prop) (Q : Exit → Act → World → Prop) : Nat → Array Bool → Act → World → Prop
  | 0, listed, a, w => T listed w ∧ Region.ready .any ops listed = [] ∧ Q .normal a w
  | fuel + 1, listed, a, w =>
    T listed w ∧ (Region.ready .any ops listed = [] → Q .normal a w) ∧
    ∀ i ∈ Region.ready .any ops listed, wpOp P ops Q i (wpAT P ops T Q fuel (listed.setIfInBounds i true)) a w

theorem wpAT_any : ∀ (fuel : Nat) (listed : Array Bool) (a : Act) (w : World), wpAT P ops T Q fuel listed a w → wpAny P .any ops Q fuel listed a w
  | 0, _, _, _, h => ⟨h.2.1, h.2.2⟩
  | fuel + 1, _, _, _, h => ⟨h.2.1, fun i hi => wpOp_mono (fun a' w' hk => wpAT_any fuel _ a' w' hk) (h.2.2 i hi)⟩
theorem wpAT_T {fuel : Nat} {listed : Array Bool} {a : Act} {w : World} (h : wpAT P ops T Q fuel listed a w) : T listed w := by
  cases fuel with
  | zero => exact h.1
  | succ _ => exact h.1

/-- It gives v in every world of T0. -/
def YieldsT (P : Program) (ops : Array Oper) (T0 : World → Prop) (o : Oper) (v : Value) (a : Act) : Prop :=
  (Region.wanted o (yielded ops a.tmps) = true ∧ ∀ w, T0 w → (execOp a.eval o).run P w = .ok (.value v) w) ∨
  (Region.wanted o (yielded ops a.tmps) = false ∧ v = undef)
theorem YieldsT.of_same {o : Oper} {v : Value} {a a' : Act} (hy : YieldsT P ops T0 o v a) (he : execOp a'.eval o = execOp a.eval o)
    (hw : Region.wanted o (yielded ops a'.tmps) = Region.wanted o (yielded ops a.tmps)) : YieldsT P ops T0 o v a' := by
  unfold YieldsT at *; rw [he, hw]; exact hy
theorem YieldsT.wpOp {i : Nat} {o : Oper} {v : Value} {a : Act} (hi : ops[i]? = some o) (hy : YieldsT P ops T0 o v a) {K : Act → World → Prop} {w : World} (hw' : T0 w) (h : K (a.put o.dst v) w) : wpOp P ops Q i K a w := by
  unfold Go.wpOp
  simp only [hi]
  rcases hy with ⟨hw, hv⟩ | ⟨hw, rfl⟩
  · simp only [hw, if_true, Oper.wp, hv w hw', Oper.upon]; exact .inl h
  · simp only [hw, Bool.false_eq_true, if_false]; exact h

/-- Whatever order is picked: what is quiet comes as it will, what is not leads on. -/
def Hy (P : Program) (ops : Array Oper) (E : Nat → Bool) (T : Array Bool → World → Prop) (Cl : World → Prop) (Q : Exit → Act → World → Prop) : Nat → Array Bool → Act → Prop
  | 0, listed, a => Region.ready .any ops listed = [] ∧ ∀ w, Cl w → Q .normal a w
  | fuel + 1, listed, a =>
    (Region.ready .any ops listed = [] → ∀ w, Cl w → Q .normal a w) ∧
    ∀ i ∈ Region.ready .any ops listed, if E i = true then (∀ w, Cl w → wpOp P ops Q i (wpAT P ops T Q fuel (listed.setIfInBounds i true)) a w)
      else qOp P ops Cl i (Hy P ops E T Cl Q fuel (listed.setIfInBounds i true)) a

theorem getD_set_le {l : Array Bool} {i j : Nat} (h : l.getD j false = true) : (l.setIfInBounds i true).getD j false = true := by
  by_cases hij : i = j
  · subst hij
    rcases Nat.lt_or_ge i l.size with h' | h'
    · simp [h']
    · simp [Array.getElem?_eq_none h'] at h
  · rw [getD_set_ne false hij]; exact h

theorem Hy_sound : ∀ (fuel : Nat) (listed : Array Bool) (a : Act) (w : World), (∀ l w, (∀ j, listed.getD j false = true → l.getD j false = true) → Cl w → T l w) → Hy P ops E T Cl Q fuel listed a → Cl w → wpAT P ops T Q fuel listed a w
  | 0, _, _, _, hCT, h, hw => ⟨hCT _ _ (fun _ h => h) hw, h.1, h.2 _ hw⟩
  | fuel + 1, listed, a, w, hCT, h, hw => by
    refine ⟨hCT _ _ (fun _ h => h) hw, fun h0 => h.1 h0 _ hw, fun i hi => ?_⟩
    have := h.2 i hi
    split at this
    · exact this w hw
    · exact wpOp_of_qOp hw (fun a' w' hw' hk => Hy_sound fuel _ a' w' (fun l w hl hc => hCT l w (fun j hj => hl j (getD_set_le hj)) hc) hk hw') this

theorem wpOp_put' {j : Nat} {oi oj : Oper} {v : Value} (hj : ops[j]? = some oj) (hap : oi.apart ops oj = true) (hsj : ∀ cs b, oj.op ≠ .select cs b)
    (hQ : ∀ c a w, Q (.panic c) (a.put oi.dst v) w → Q (.panic c) a w) {Y : Act → Prop} (hY : ∀ a, Y a → ∀ u, Y (a.put oj.dst u)) (hYd : ∀ a, Y a → ∀ d, Y { a with defers := d :: a.defers }) {K : Act → World → Prop} {a : Act} {w : World}
    (hy : Y a) (h : wpOp P ops Q j K (a.put oi.dst v) w) : wpOp P ops Q j (fun a' w' => Y a' ∧ K (a'.put oi.dst v) w') a w := by
  obtain ⟨h1, h2, h3⟩ := Oper.apart_spec hap
  unfold wpOp at *
  simp only [hj] at *
  rw [wanted_put oj a oi.dst v h1] at h
  split
  · rename_i hw
    simp only [hw, if_true] at h
    rcases h with h | ⟨hasks, hlets⟩
    case inr => exact .inr ⟨by unfold Oper.asks at *; rw [execOp_put oj hsj a oi.dst v h1] at hasks; exact hasks, hlets⟩
    refine .inl ?_
    unfold Oper.wp at *
    rw [execOp_put oj hsj a oi.dst v h1] at h
    generalize (execOp a.eval oj).run P w = r at *
    cases r with
    | ok n w' =>
      cases n <;> simp only [Oper.upon] at h ⊢
      case value u => exact ⟨hY a hy u, by rw [← Act.put_comm a v u h2]; exact h⟩
      case skip => exact ⟨hY a hy _, by rw [← Act.put_comm a v undef h2]; exact h⟩
      case defer d =>
        refine ⟨hY _ (hYd a hy d) _, ?_⟩
        rw [← Act.put_comm _ v undef h2, ← Act.put_defers]
        exact h
      case enter f args =>
        refine Calls.mono h fun e w'' he => ?_
        cases e with
        | returned u => exact ⟨hY a hy u, by rw [← Act.put_comm a v u h2]; exact he⟩
        | panicked c => exact hQ _ _ _ he
        | outgrown => exact he
      case row row args => exact Rows.mono h fun u w'' he => ⟨hY a hy u, by rw [← Act.put_comm a v u h2]; exact he⟩
    | halt x w' =>
      cases x <;> simp only [Oper.upon] at h ⊢
      case panic u => exact hQ _ _ _ h
  · rename_i hw
    simp only [hw] at h
    exact ⟨hY a hy _, by rw [← Act.put_comm a v undef h2]; exact h⟩

/-- A property of the state that an apart operation does not turn goes along. -/
theorem qOp_put' {j : Nat} {oi oj : Oper} {v : Value} (hj : ops[j]? = some oj) (hap : oi.apart ops oj = true)
    (hsj : ∀ cs b, oj.op ≠ .select cs b) {Y : Act → Prop} (hY : ∀ a, Y a → ∀ u, Y (a.put oj.dst u)) {K : Act → Prop} {a : Act}
    (hy : Y a) (h : qOp P ops Cl j K (a.put oi.dst v)) :
    qOp P ops Cl j (fun a' => Y a' ∧ K (a'.put oi.dst v)) a := by
  obtain ⟨h1, h2, h3⟩ := Oper.apart_spec hap
  unfold qOp at *
  simp only [hj] at *
  rw [wanted_put oj a oi.dst v h1] at h
  split
  · rename_i hw
    simp only [hw, if_true] at h
    obtain ⟨u, hu, hn⟩ := h
    refine ⟨u, fun w hw' => ?_, hY a hy u, by rw [← Act.put_comm a v u h2]; exact hn⟩
    have := hu w hw'
    unfold Oper.quietAt at *
    rwa [execOp_put oj hsj a oi.dst v h1] at this
  · rename_i hw
    simp only [hw] at h
    exact ⟨hY a hy _, by rw [← Act.put_comm a v undef h2]; exact h⟩

theorem ready_no {i : Nat} {oj : Oper} {listed : Array Bool} (hi : listed.getD i true = false) (hall : ∀ e ∈ oj.after, Region.binds .any e = true → listed.getD e.on false = true) : ∀ e ∈ oj.after, Region.binds .any e = true → e.on ≠ i := by
  intro e he hb heq
  have h1 := hall e he hb
  rw [heq] at h1
  rcases Nat.lt_or_ge i listed.size with h' | h'
  · simp [h'] at hi h1; rw [hi] at h1; cases h1
  · simp [Array.getElem?_eq_none h'] at h1

theorem YieldsT.qOp (hCT : ∀ w, Cl w → T0 w) {i : Nat} {o : Oper} {v : Value} {a : Act} (hi : ops[i]? = some o) (hy : YieldsT P ops T0 o v a) {K : Act → Prop} (h : K (a.put o.dst v)) : qOp P ops Cl i K a := by
  unfold Go.qOp
  simp only [hi]
  rcases hy with ⟨hw, hv⟩ | ⟨hw, rfl⟩
  · simp only [hw, if_true]; exact ⟨v, fun w hw => by unfold Oper.quietAt; rw [hv w (hCT w hw)]; exact ⟨rfl, rfl⟩, h⟩
  · simp only [hw, Bool.false_eq_true, if_false]; exact h

theorem sub_step {i j : Nat} {oj : Oper} {listed Z : Array Bool} (hZ : ∀ j oj, ops[j]? = some oj → j ≠ i → Z.getD j false = false → ∃ e ∈ oj.after, Region.binds .any e = true ∧ Z.getD e.on false = false)
    (hoj : ops[j]? = some oj) (hji : j ≠ i) (hall : ∀ e ∈ oj.after, Region.binds .any e = true → listed.getD e.on false = true) (hLZ : ∀ j, listed.getD j false = true → Z.getD j false = true) :
    ∀ k, (listed.setIfInBounds j true).getD k false = true → Z.getD k false = true := by
  have hjZ : Z.getD j false = true := by
    cases hz : Z.getD j false with
    | true => rfl
    | false =>
      obtain ⟨e, he, hb, hez⟩ := hZ j oj hoj hji hz
      have := hLZ e.on (hall e he hb)
      rw [hez] at this; cases this
  intro k hk
  by_cases hjk : j = k
  · subst hjk; exact hjZ
  · rw [getD_set_ne false hjk] at hk; exact hLZ k hk

theorem wpAT_first {i : Nat} {oi : Oper} {v : Value} (Z : Array Bool) (hZ : ∀ j oj, ops[j]? = some oj → j ≠ i → Z.getD j false = false → ∃ e ∈ oj.after, Region.binds .any e = true ∧ Z.getD e.on false = false)
    (hT : ∀ l w, (∀ j, l.getD j false = true → Z.getD j false = true) → T l w → T0 w) (hTi : ∀ l w, T (l.setIfInBounds i true) w → T l w) (hi : ops[i]? = some oi) (hsel : ∀ (j : Nat) (o : Oper) cs b, ops[j]? = some o → o.op ≠ .select cs b)
    (hQ : ∀ c a w, Q (.panic c) (a.put oi.dst v) w → Q (.panic c) a w) :
    ∀ (fuel : Nat) (listed : Array Bool) (a : Act) (w : World),
      (∀ j oj, ops[j]? = some oj → j ≠ i → listed.getD j true = false → (∀ e ∈ oj.after, Region.binds .any e = true → e.on ≠ i) → oi.apart ops oj = true) →
      (∀ j, listed.getD j false = true → Z.getD j false = true) → i ∈ Region.ready .any ops listed → YieldsT P ops T0 oi v a →
      wpAT P ops T Q fuel (listed.setIfInBounds i true) (a.put oi.dst v) w → wpAT P ops T Q (fuel + 1) listed a w := by
  intro fuel
  induction fuel with
  | zero =>
    intro listed a w _ hLZ hr hy H
    refine ⟨hTi _ _ H.1, fun h => (by rw [h] at hr; cases hr), fun j hj => ?_⟩
    by_cases hji : j = i
    · subst hji; exact hy.wpOp hi (hT _ _ hLZ (hTi _ _ H.1)) H
    · have := ready_mono hj hji
      rw [H.2.1] at this
      cases this
  | succ fuel ih =>
    intro listed a w hfree hLZ hr hy H
    refine ⟨hTi _ _ H.1, fun h => (by rw [h] at hr; cases hr), fun j hj => ?_⟩
    by_cases hji : j = i
    · subst hji; exact hy.wpOp hi (hT _ _ hLZ (hTi _ _ H.1)) H
    · have h1 := H.2.2 j (ready_mono hj hji)
      obtain ⟨hjun, oj, hoj, hall⟩ := mem_ready.1 hj
      have hnot := ready_no (mem_ready.1 hr).1 hall
      have hap := hfree j oj hoj hji hjun hnot
      have hfree' : ∀ k ok, ops[k]? = some ok → k ≠ i → (listed.setIfInBounds j true).getD k true = false →
          (∀ e ∈ ok.after, Region.binds .any e = true → e.on ≠ i) → oi.apart ops ok = true := fun k ok hk hki hun hno => by
        refine hfree k ok hk hki ?_ hno
        by_cases hjk : j = k
        · subst hjk; exact hjun
        · rw [getD_set_ne true hjk] at hun; exact hun
      have h2 := wpOp_put' hoj hap (fun cs b => hsel j oj cs b hoj) hQ (Y := fun a => YieldsT P ops T0 oi v a)
        (fun a hy u => hy.of_same (execOp_put oi (fun cs b => hsel i oi cs b hi) a oj.dst u (Oper.apart_spec hap).2.2) (wanted_put oi a oj.dst u (Oper.apart_spec hap).2.2))
        (fun a hy d => hy.of_same rfl rfl) hy h1
      refine wpOp_mono (fun a' w' h3 => ih (listed.setIfInBounds j true) a' w' hfree' (sub_step hZ hoj hji hall hLZ) (ready_mono hr (Ne.symm hji)) h3.1 ?_) h2
      rw [Array.setIfInBounds_comm _ _ hji]
      exact h3.2

/-- What computes alone may be taken first. -/
theorem Hy_first_P (hCT : ∀ w, Cl w → T0 w) (Z : Array Bool) {i : Nat} {oi : Oper} {v : Value} (hZ : ∀ j oj, ops[j]? = some oj → j ≠ i → Z.getD j false = false → ∃ e ∈ oj.after, Region.binds .any e = true ∧ Z.getD e.on false = false)
    (hT : ∀ l w, (∀ j, l.getD j false = true → Z.getD j false = true) → T l w → T0 w) (hTi : ∀ l w, T (l.setIfInBounds i true) w → T l w) (hi : ops[i]? = some oi) (hsel : ∀ (j : Nat) (o : Oper) cs b, ops[j]? = some o → o.op ≠ .select cs b) (hEi : E i = false)
    (hQ : ∀ c a w, Q (.panic c) (a.put oi.dst v) w → Q (.panic c) a w) :
    ∀ (fuel : Nat) (listed : Array Bool) (a : Act),
      (∀ j oj, ops[j]? = some oj → j ≠ i → listed.getD j true = false → (∀ e ∈ oj.after, Region.binds .any e = true → e.on ≠ i) → oi.apart ops oj = true) →
      (∀ j, listed.getD j false = true → Z.getD j false = true) → i ∈ Region.ready .any ops listed → YieldsT P ops T0 oi v a →
      Hy P ops E T Cl Q fuel (listed.setIfInBounds i true) (a.put oi.dst v) → Hy P ops E T Cl Q (fuel + 1) listed a := by
  intro fuel
  induction fuel with
  | zero =>
    intro listed a _ _ hr hy H
    refine ⟨fun h => (by rw [h] at hr; cases hr), fun j hj => ?_⟩
    by_cases hji : j = i
    · subst hji; rw [if_neg (by simp [hEi])]; exact hy.qOp hCT hi H
    · have := ready_mono hj hji
      rw [H.1] at this
      cases this
  | succ fuel ih =>
    intro listed a hfree hLZ hr hy H
    refine ⟨fun h => (by rw [h] at hr; cases hr), fun j hj => ?_⟩
    by_cases hji : j = i
    · subst hji; rw [if_neg (by simp [hEi])]; exact hy.qOp hCT hi H
    · have h1 := H.2 j (ready_mono hj hji)
      obtain ⟨hjun, oj, hoj, hall⟩ := mem_ready.1 hj
      have hnot := ready_no (mem_ready.1 hr).1 hall
      have hap := hfree j oj hoj hji hjun hnot
      have hfree' : ∀ k ok, ops[k]? = some ok → k ≠ i → (listed.setIfInBounds j true).getD k true = false →
          (∀ e ∈ ok.after, Region.binds .any e = true → e.on ≠ i) → oi.apart ops ok = true := fun k ok hk hki hun hno => by
        refine hfree k ok hk hki ?_ hno
        by_cases hjk : j = k
        · subst hjk; exact hjun
        · rw [getD_set_ne true hjk] at hun; exact hun
      have hr' := ready_mono hr (Ne.symm hji)
      split at h1
      · rename_i hE
        rw [if_pos hE]
        intro w hw
        have h2 := wpOp_put' hoj hap (fun cs b => hsel j oj cs b hoj) hQ (Y := fun a => YieldsT P ops T0 oi v a)
          (fun a hy u => hy.of_same (execOp_put oi (fun cs b => hsel i oi cs b hi) a oj.dst u (Oper.apart_spec hap).2.2) (wanted_put oi a oj.dst u (Oper.apart_spec hap).2.2))
          (fun a hy d => hy.of_same rfl rfl) hy (h1 w hw)
        refine wpOp_mono (fun a' w' h3 => ?_) h2
        refine wpAT_first Z hZ hT hTi hi hsel hQ fuel _ a' w' hfree' (sub_step hZ hoj hji hall hLZ) hr' h3.1 ?_
        rw [Array.setIfInBounds_comm _ _ hji]
        exact h3.2
      · rename_i hE
        rw [if_neg hE]
        have h2 := qOp_put' hoj hap (fun cs b => hsel j oj cs b hoj) (Y := fun a => YieldsT P ops T0 oi v a)
          (fun a hy u => hy.of_same (execOp_put oi (fun cs b => hsel i oi cs b hi) a oj.dst u (Oper.apart_spec hap).2.2) (wanted_put oi a oj.dst u (Oper.apart_spec hap).2.2)) hy h1
        refine qOp_mono (fun a' h3 => ih (listed.setIfInBounds j true) a' hfree' (sub_step hZ hoj hji hall hLZ) hr' h3.1 ?_) h2
        rw [Array.setIfInBounds_comm _ _ hji]
        exact h3.2

/-- What only reads may be taken first, where nothing with an effect can come ahead of it. -/
theorem Hy_first_Q {i : Nat} {oi : Oper} {v : Value} (hi : ops[i]? = some oi) (hsel : ∀ (j : Nat) (o : Oper) cs b, ops[j]? = some o → o.op ≠ .select cs b) (hEi : E i = false) (Z : Array Bool)
    (hZ : ∀ j oj, ops[j]? = some oj → j ≠ i → Z.getD j false = false → ∃ e ∈ oj.after, Region.binds .any e = true ∧ Z.getD e.on false = false) :
    ∀ (fuel : Nat) (listed : Array Bool) (a : Act),
      (∀ j oj, ops[j]? = some oj → j ≠ i → listed.getD j true = false → (∀ e ∈ oj.after, Region.binds .any e = true → e.on ≠ i) → oi.apart ops oj = true) →
      (∀ j, listed.getD j false = true → Z.getD j false = true) → (∀ j, listed.getD j true = false → Z.getD j false = true → E j = false) →
      i ∈ Region.ready .any ops listed → YieldsIn P ops Cl oi v a →
      Hy P ops E T Cl Q fuel (listed.setIfInBounds i true) (a.put oi.dst v) → Hy P ops E T Cl Q (fuel + 1) listed a := by
  intro fuel
  induction fuel with
  | zero =>
    intro listed a _ _ _ hr hy H
    refine ⟨fun h => (by rw [h] at hr; cases hr), fun j hj => ?_⟩
    by_cases hji : j = i
    · subst hji; rw [if_neg (by simp [hEi])]; exact hy.qOp hi H
    · have := ready_mono hj hji
      rw [H.1] at this
      cases this
  | succ fuel ih =>
    intro listed a hfree hLZ hEZ hr hy H
    refine ⟨fun h => (by rw [h] at hr; cases hr), fun j hj => ?_⟩
    by_cases hji : j = i
    · subst hji; rw [if_neg (by simp [hEi])]; exact hy.qOp hi H
    · have h1 := H.2 j (ready_mono hj hji)
      obtain ⟨hjun, oj, hoj, hall⟩ := mem_ready.1 hj
      have hnot := ready_no (mem_ready.1 hr).1 hall
      have hap := hfree j oj hoj hji hjun hnot
      have hjZ : Z.getD j false = true := by
        cases hz : Z.getD j false with
        | true => rfl
        | false =>
          obtain ⟨e, he, hb, hez⟩ := hZ j oj hoj hji hz
          have := hLZ e.on (hall e he hb)
          rw [hez] at this; cases this
      have hEj := hEZ j hjun hjZ
      rw [if_neg (by simp [hEj])] at h1 ⊢
      have hfree' : ∀ k ok, ops[k]? = some ok → k ≠ i → (listed.setIfInBounds j true).getD k true = false →
          (∀ e ∈ ok.after, Region.binds .any e = true → e.on ≠ i) → oi.apart ops ok = true := fun k ok hk hki hun hno => by
        refine hfree k ok hk hki ?_ hno
        by_cases hjk : j = k
        · subst hjk; exact hjun
        · rw [getD_set_ne true hjk] at hun; exact hun
      have hr' := ready_mono hr (Ne.symm hji)
      have h2 := qOp_put' hoj hap (fun cs b => hsel j oj cs b hoj) (Y := fun a => YieldsIn P ops Cl oi v a)
        (fun a hy u => hy.of_same (execOp_put oi (fun cs b => hsel i oi cs b hi) a oj.dst u (Oper.apart_spec hap).2.2) (wanted_put oi a oj.dst u (Oper.apart_spec hap).2.2)) hy h1
      refine qOp_mono (fun a' h3 => ih (listed.setIfInBounds j true) a' hfree' ?_ ?_ hr' h3.1 ?_) h2
      · intro k hk
        by_cases hjk : j = k
        · subst hjk; exact hjZ
        · rw [getD_set_ne false hjk] at hk; exact hLZ k hk
      · intro k hk hkz
        by_cases hjk : j = k
        · subst hjk; exact hEj
        · rw [getD_set_ne true hjk] at hk; exact hEZ k hk hkz
      · rw [Array.setIfInBounds_comm _ _ hji]
        exact h3.2
end

/-- May an operation have an effect. -/
def kindE : Op → Bool
  | .move _ | .assign _ | .pick _ _ _ | .nilCheck _ | .binOp _ _ _ _ _ | .unOp _ _ _ | .fieldAddr _ _ _ | .field _ _ _ | .indexAddr _ _ _ | .index _ _ _ | .slice _ _ _ _ _ | .makeInterface _ _ | .makeFunc _ _ _ | .extract _ _
  | .typeAssert _ _ _ _ | .convert _ _ _ | .build _ _ | .load _ _ | .lookup _ _ _ _ | .entry _ => false
  | .call c => match c.callee with
    | .builtin .len => false
    | .builtin .cap => false
    | .builtin .min => false
    | .builtin .max => false
    | _ => true
  | _ => true
def kindL : Op → Bool
  | .load _ _ => true
  | .lookup _ _ _ _ => true
  | .entry _ => true
  | _ => false

def kE (ops : Array Oper) (i : Nat) : Bool := ((ops[i]?).map fun o => kindE o.op).getD true
def kL (ops : Array Oper) (i : Nat) : Bool := ((ops[i]?).map fun o => kindL o.op).getD false

/-- What can come up while i does not. -/
def reach (ops : Array Oper) (i : Nat) : Nat → Array Bool → Array Bool
  | 0, Z => Z
  | n + 1, Z => reach ops i n (((Region.ready .any ops Z).filter fun j => !(Nat.beq j i)).foldl (fun Z j => Z.setIfInBounds j true) Z)

def planGo (ops : Array Oper) : Nat → Array Bool → List Tk
  | 0, _ => []
  | n + 1, listed => match Region.ready .any ops listed with
    | [] => []
    | R => match R.find? fun i => !kE ops i && !kL ops i with
      | some i => .p i :: planGo ops n (listed.setIfInBounds i true)
      | none => match R.find? fun i => !kE ops i with
        | some i => .q i :: planGo ops n (listed.setIfInBounds i true)
        | none => match R with
          | i :: _ => .e i :: planGo ops n (listed.setIfInBounds i true)
          | [] => []
def plan (ops : Array Oper) : List Tk := planGo ops ops.size (Array.replicate ops.size false)

def allIx (ops : Array Oper) (f : Nat → Bool) : Bool := (List.range ops.size).all f

/-- The operations that a plan takes as ones with an effect. -/
def effs : PTree → List Nat
  | .nil => []
  | .e i r => i :: effs r
  | .f i r => i :: effs r
  | .p _ r => effs r
  | .q _ r => effs r
  | .two i a j _ => i :: j :: effs a
def kW (W : List Nat) (i : Nat) : Bool := W.contains i
def reachOK (ops : Array Oper) (W : List Nat) (i : Nat) (listed Z : Array Bool) : Bool :=
  allIx ops (fun j => Nat.beq j i || Z.getD j false || (((ops[j]?).map fun o => o.after.any fun e => Region.binds .any e && !(Z.getD e.on false)).getD true)) &&
  allIx ops (fun j => (!(listed.getD j false) || Z.getD j false) && (listed.getD j true || !(Z.getD j false) || !kW W j))
def lates : PTree → List Nat
  | .nil => []
  | .f i r => i :: lates r
  | .p _ r => lates r
  | .q _ r => lates r
  | .e _ r => lates r
  | .two _ a _ b => lates a ++ lates b
def reachP (ops : Array Oper) (L : List Nat) (late : Bool) (i : Nat) (listed Z : Array Bool) : Bool :=
  allIx ops (fun j => Nat.beq j i || Z.getD j false || (((ops[j]?).map fun o => o.after.any fun e => Region.binds .any e && !(Z.getD e.on false)).getD true)) &&
  allIx ops (fun j => !(listed.getD j false) || Z.getD j false) && (late || L.all fun f => !(Z.getD f false)) && !(L.contains i)
/-- The plan holds. -/
def planOK (ops : Array Oper) (W L : List Nat) : Bool → PTree → Array Bool → Bool
  | _, .nil, listed => (Region.ready .any ops listed).isEmpty
  | late, .p i r, listed => (Region.ready .any ops listed).contains i && Region.free .any ops listed i && !kW W i &&
      reachP ops L late i listed (if late || L.isEmpty then Array.replicate ops.size true else reach ops i ops.size listed) && planOK ops W L late r (listed.setIfInBounds i true)
  | late, .q i r, listed => (Region.ready .any ops listed).contains i && Region.free .any ops listed i && !kW W i && reachOK ops W i listed (reach ops i ops.size listed) && planOK ops W L late r (listed.setIfInBounds i true)
  | late, .e i r, listed => (match Region.ready .any ops listed with
      | [j] => Nat.beq j i
      | _ => false) && kW W i && planOK ops W L late r (listed.setIfInBounds i true)
  | _, .f i r, listed => (match Region.ready .any ops listed with
      | [j] => Nat.beq j i
      | _ => false) && kW W i && L.contains i && planOK ops W L true r (listed.setIfInBounds i true)
  | late, .two i a j b, listed => (match Region.ready .any ops listed with
      | [x, y] => Nat.beq x i && Nat.beq y j
      | _ => false) && kW W i && kW W j && Nat.beq a.len b.len && planOK ops W L late a (listed.setIfInBounds i true) && planOK ops W L late b (listed.setIfInBounds j true)

def planned (ops : Array Oper) (l : PTree) : Bool := Region.noSelect ops && planOK ops (effs l) (lates l) false l (Array.replicate ops.size false) && Nat.beq l.len ops.size
def findPlan (id : Nat) : List (Nat × List Nat × List Tk) → Option (List Nat × PTree)
  | [] => none
  | (k, F, l) :: r => if Nat.beq k id then some (F, PTree.of l) else findPlan id r

variable {C : Nat → Codec}

def inL (k : Nat) : List Nat → Bool
  | [] => false
  | x :: r => Nat.beq x k || inL k r
/-- It reads a chunk that nothing in the region turns. -/
def levF (P : Program) (tm : Tm) (m : List (Ck C)) (F : List Nat) (m0 : List (Ck C)) (al : List (Nat × Bool)) (o : Op) : Ans :=
  match o with
  | .load t a => match ev tm m al a with
    | some (.ptr c i f) => if inL c F && Nat.blt c m0.length then match loadSV P m0 t c i f with
        | some (ps, v) => if SV.lt m0.length v then some (ps, v) else none
        | none => none
      else none
    | some (.gp g) => match aggTy P t, (C g).gv with
      | some false, some v => some ([], v)
      | _, _ => none
    | _ => none
  | _ => none
/-- One operation that only computes, or reads what stays. -/
def stepC {P : Program} (E : Env P C) (ops : Array Oper) (F : List Nat) (m0 : List (Ck C)) (o : Oper) (tm : Tm) (m : List (Ck C)) (K : Tm → Tr) : Tr :=
  match gd ops tm o.guard with
  | .lost => .no
  | .skip => match put? E.n tm o.dst [] .undef with
    | some tm' => K tm'
    | none => .no
  | .run cs => match pureP P tm m (alOf cs) o.op with
    | some (ps, v) => match put? E.n tm o.dst cs v with
      | some tm' => asks cs ps (K tm')
      | none => .no
    | none => match levF P tm m F m0 (alOf cs) o.op with
      | some (ps, v) => match put? E.n tm o.dst cs v with
        | some tm' => asks cs ps (K tm')
        | none => .no
      | none => match cs with
        | [] => .no
        | _ :: _ => match put? E.n tm o.dst [] .undef with
          | some tm' => asks cs [False] (K tm')
          | none => .no
/-- What must stay has stayed. -/
def stays (m0 m : List (Ck C)) : List Nat → Tr → Tr
  | [], X => X
  | c :: r, X => .and (.lf (nth m c = nth m0 c)) (stays m0 m r X)
def inMem (F : List Nat) (m : List (Ck C)) : Tr :=
  match memLt m.length m && F.all fun c => Nat.blt c m.length with
  | true => .yes
  | false => .no
/-- One operation that reads. -/
def stepL {P : Program} (E : Env P C) (ops : Array Oper) (o : Oper) (tm : Tm) (m : List (Ck C)) (K : Tm → Tr) : Tr :=
  match gd ops tm o.guard with
  | .lost => .no
  | .skip => match put? E.n tm o.dst [] .undef with
    | some tm' => K tm'
    | none => .no
  | .run cs => match pureQ E tm m (alOf cs) o.op with
    | some (ps, v) => match put? E.n tm o.dst cs v with
      | some tm' => asks cs ps (K tm')
      | none => .no
    | none => .no

def splan {P : Program} (E : Env P C) (ops : Array Oper) (F : List Nat) (m0 : List (Ck C)) : PTree → Tm → List (Ck C) → (Tm → List (Ck C) → Tr) → Tr
  | .nil, tm, m, K => K tm m
  | .p i r, tm, m, K => match ops[i]? with
    | some o => stepC E ops F m0 o tm m fun tm' => fTm1 tm' fun tm' => splan E ops F m0 r tm' m K
    | none => .no
  | .q i r, tm, m, K => match ops[i]? with
    | some o => stepL E ops o tm m fun tm' => fTm1 tm' fun tm' => splan E ops F m0 r tm' m K
    | none => .no
  | .e i r, tm, m, K => match ops[i]? with
    | some o => stepP E ops o tm m fun tm' m' => fTm1 tm' fun tm' => fM m' fun m' => stays m0 m' F (splan E ops F m0 r tm' m' K)
    | none => .no
  | .f i r, tm, m, K => match ops[i]? with
    | some o => stepP E ops o tm m fun tm' m' => fTm1 tm' fun tm' => fM m' fun m' => splan E ops [] m0 r tm' m' K
    | none => .no
  | .two i a j b, tm, m, K => match ops[i]?, ops[j]? with
    | some o, some o' => .and (stepP E ops o tm m fun tm' m' => fTm1 tm' fun tm' => fM m' fun m' => stays m0 m' F (splan E ops F m0 a tm' m' K))
        (stepP E ops o' tm m fun tm' m' => fTm1 tm' fun tm' => fM m' fun m' => stays m0 m' F (splan E ops F m0 b tm' m' K))
    | _, _ => .no

/-- What stays, in a world. -/
def Stay (F : List Nat) (m0 : List (Ck C)) (w : World) : Prop := (∀ c, inL c F = true → c < m0.length → Ck.ok (ads m0) w (nth m0 c)) ∧ ∀ g v, (C g).gv = some v → w.cell? ⟨g, 0, none⟩ = some (v.va noAd)

theorem stays_ok {m0 m : List (Ck C)} : ∀ {F : List Nat} {X : Tr}, stays m0 m F X → X.holds ∧ ∀ c, inL c F = true → nth m c = nth m0 c
  | [], X, h => ⟨h, fun c hc => by simp [inL] at hc⟩
  | x :: r, X, h => by
    obtain ⟨h1, h2⟩ := stays_ok h.2
    refine ⟨h1, fun c hc => ?_⟩
    simp only [inL, Bool.or_eq_true] at hc
    rcases hc with hc | hc
    · rw [← Nat.eq_of_beq_eq_true hc]; exact h.1
    · exact h2 c hc

theorem Stay.of {S : Sx} {w0 w : World} {F : List Nat} {m0 m : List (Ck C)} (hm : MemOK S w0 w m) (hlt : memLt m0.length m0 = true) (hs : ∀ c, inL c F = true → nth m c = nth m0 c) (ha : ∀ k, k < m0.length → ads m0 k = ads m k) : Stay F m0 w := by
  refine ⟨fun c hc hcl => ?_, fun g v hv => (hm.more.gv g v hv).1⟩
  have h1 := hs c hc
  cases hl : (nth m0 c).live with
  | false => unfold Ck.live at hl; unfold Ck.ok; split at hl <;> simp_all
  | true =>
    have h2 := hm.ok _ (nth_mem (lt_of_live (m := m) (c := c) (by rw [h1]; exact hl)))
    rw [h1] at h2
    exact Ck.ok_ads (fun k hk => (ha k hk).symm) (memLt_mem hlt (nth_mem hcl)) h2

theorem loadSV_ck {P : Program} {w : World} {m : List (Ck C)} {c : Nat} (hc : Ck.ok (ads m) w (nth m c)) {t i f : Nat} {ps : List Prop} {r : SV} (h : loadSV P m t c i f = some (ps, r)) (hp : allOf ps) :
    (loadVar t ((ads m c).at i f)).run P w = .ok (r.va (ads m)) w := by
  exact loadSV_okc hc h hp

theorem stepC_ok {P : Program} {E : Env P C} {ops : Array Oper} {F : List Nat} {m0 : List (Ck C)} {o : Oper} {tm : Tm} {m : List (Ck C)} (hg : GlOK m) (hads : ∀ k, k < m0.length → ads m0 k = ads m k) {K : Tm → Tr} (hs : stepC E ops F m0 o tm m K) {a : Act} (h : ActOK (ads m) E.n tm a) :
    ∃ v tm', YieldsT P ops (Stay F m0) o v a ∧ K tm' ∧ ActOK (ads m) E.n tm' (a.put o.dst v) := by
  unfold stepC at hs
  split at hs <;> try (first | contradiction | exact False.elim hs)
  · rename_i hgd
    have hw := gd_skip h hgd
    split at hs <;> try (first | contradiction | exact False.elim hs)
    rename_i tm' hp
    exact ⟨Go.undef, tm', .inr ⟨hw, rfl⟩, hs, put_ok h hp (by simp) _ rfl⟩
  · rename_i cs hgd
    obtain ⟨hw, hcs⟩ := gd_run h hgd
    have fin : ∀ (ps : List Prop) (v : SV) (tm' : Tm), put? E.n tm o.dst cs v = some tm' → asks cs ps (K tm') → (holds cs = true → allOf ps → ∀ w, Stay F m0 w → (execOp a.eval o).run P w = .ok (.value (v.va (ads m))) w) →
        ∃ v tm', YieldsT P ops (Stay F m0) o v a ∧ K tm' ∧ ActOK (ads m) E.n tm' (a.put o.dst v) := by
      intro ps v tm' hp hs hr
      obtain ⟨hK, hps⟩ := asks_ok hs
      cases e : holds cs with
      | true =>
        refine ⟨v.va (ads m), tm', .inl ⟨by rw [hw, e], fun w hT => hr e (hps e) w hT⟩, hK, put_ok h hp hcs _ ?_⟩
        cases cs with
        | nil => rfl
        | cons c r => simp [mkc, SV.va, e]
      | false =>
        refine ⟨Go.undef, tm', .inr ⟨by rw [hw, e], rfl⟩, hK, put_ok h hp hcs _ ?_⟩
        cases cs with
        | nil => cases e
        | cons c r => simp [mkc, SV.va, e]
    split at hs
    · rename_i ps v hpu
      split at hs <;> try (first | contradiction | exact False.elim hs)
      rename_i tm' hp
      exact fin ps v tm' hp hs fun e hps w _ => pureP_ok h hg (alOf_ok hcs e) hpu hps w
    · split at hs
      rotate_left
      · cases cs with
        | nil => exact False.elim hs
        | cons c1 c2 =>
          dsimp only at hs
          split at hs <;> try (first | contradiction | exact False.elim hs)
          rename_i tm' hp
          obtain ⟨hK, hno⟩ := asks_ok hs
          cases e : holds (c1 :: c2) with
          | true => exact (hno e).1.elim
          | false => exact ⟨Go.undef, tm', .inr ⟨by rw [hw, e], rfl⟩, hK, put_ok h hp (by simp) _ rfl⟩
      rename_i ps v hpu
      split at hs <;> try (first | contradiction | exact False.elim hs)
      rename_i tm' hp
      refine fin ps v tm' hp hs fun e hps w hT => ?_
      obtain ⟨dst, op, ty, pos, after, g⟩ := o
      simp only at hpu
      cases op <;> simp only [levF] at hpu <;> try contradiction
      rename_i t x
      split at hpu <;> try (first | contradiction | exact False.elim hpu)
      · rename_i c i f he
        split at hpu <;> try (first | contradiction | exact False.elim hpu)
        rename_i hcF
        simp only [Bool.and_eq_true] at hcF
        have hcl : c < m0.length := by simpa using hcF.2
        split at hpu <;> try (first | contradiction | exact False.elim hpu)
        rename_i ps' v' hld
        split at hpu <;> try (first | contradiction | exact False.elim hpu)
        rename_i hvl
        simp only [Option.some.injEq, Prod.mk.injEq] at hpu
        obtain ⟨rfl, rfl⟩ := hpu
        have h1 := ev_ok h hg (alOf_ok hcs e) _ _ he
        have h2 := loadSV_ck (hT.1 c hcF.1 hcl) hld hps
        rw [hads c hcl, SV.va_congr hads _ hvl] at h2
        simp [execOp, Instr.loadAt, h1, SV.va, Instr.sureAddr, h2]
      · rename_i g he
        have h1 := ev_ok h hg (alOf_ok hcs e) _ _ he
        split at hpu <;> try (first | contradiction | exact False.elim hpu)
        rename_i v' hag hv
        simp only [Option.some.injEq, Prod.mk.injEq] at hpu
        obtain ⟨_, rfl⟩ := hpu
        have hc := hT.2 g v' hv
        rw [(C g).gflat v' hv noAd (ads m)] at hc
        have h2 := run_loadVar (P := P) (w := w) (a := ⟨g, 0, none⟩) hag (vs := [v'.va (ads m)]) 0 (fun h => by cases h) (fun _ => by simp) (fun j u hj _ h2 => by
          have : j = 0 := by simp at h2; omega
          subst this
          simp only [List.getElem?_cons_zero, Option.some.injEq] at hj
          subst hj
          simpa [Addr.add] using hc)
        simp [execOp, Instr.loadAt, h1, SV.va, Instr.sureAddr, h2]

theorem stepL_ok {P : Program} {S : Sx} {w0 : World} {E : Env P C} {ops : Array Oper} {o : Oper} {tm : Tm} {m : List (Ck C)} {K : Tm → Tr} (hs : stepL E ops o tm m K) {a : Act} (h : ActOK (ads m) E.n tm a) :
    ∃ v tm', YieldsIn P ops (fun w => MemOK S w0 w m) o v a ∧ K tm' ∧ ActOK (ads m) E.n tm' (a.put o.dst v) := by
  unfold stepL at hs
  split at hs <;> try (first | contradiction | exact False.elim hs)
  · rename_i hgd
    have hw := gd_skip h hgd
    split at hs <;> try (first | contradiction | exact False.elim hs)
    rename_i tm' hp
    exact ⟨Go.undef, tm', .inr ⟨hw, rfl⟩, hs, put_ok h hp (by simp) _ rfl⟩
  · rename_i cs hgd
    obtain ⟨hw, hcs⟩ := gd_run h hgd
    split at hs <;> try (first | contradiction | exact False.elim hs)
    rename_i ps v hpu
    split at hs <;> try (first | contradiction | exact False.elim hs)
    rename_i tm' hp
    obtain ⟨hK, hps⟩ := asks_ok hs
    cases e : holds cs with
    | true =>
      refine ⟨v.va (ads m), tm', .inl ⟨by rw [hw, e], fun w hm => ?_⟩, hK, put_ok h hp hcs _ ?_⟩
      · rcases pureQ_ok (S := S) (w0 := w0) h (alOf_ok hcs e) hpu (hps e) w hm with hr | ⟨f, vals, hr, hc⟩
        · unfold Oper.quietAt; rw [hr]; exact ⟨rfl, rfl⟩
        · unfold Oper.quietAt; rw [hr]; exact ⟨rfl, hc⟩
      · cases cs with
        | nil => rfl
        | cons c r => simp [mkc, SV.va, e]
    | false =>
      refine ⟨Go.undef, tm', .inr ⟨by rw [hw, e], rfl⟩, hK, put_ok h hp hcs _ ?_⟩
      cases cs with
      | nil => cases e
      | cons c r => simp [mkc, SV.va, e]

theorem allIx_ok {ops : Array Oper} {f : Nat → Bool} (h : allIx ops f = true) : ∀ j, j < ops.size → f j = true := by
  intro j hj
  exact List.all_eq_true.1 h j (List.mem_range.2 hj)

/-- What holds on the way. -/
def TT (L : List Nat) (F : List Nat) (m0 : List (Ck C)) (l : Array Bool) (w : World) : Prop := ((∃ f ∈ L, l.getD f false = true) ∨ Stay F m0 w) ∧ Stay [] m0 w

theorem reachP_ok {ops : Array Oper} {L : List Nat} {late : Bool} {i : Nat} {listed Z : Array Bool} (hsz : listed.size = ops.size) (h : reachP ops L late i listed Z = true) :
    (∀ j oj, ops[j]? = some oj → j ≠ i → Z.getD j false = false → ∃ e ∈ oj.after, Region.binds .any e = true ∧ Z.getD e.on false = false) ∧
    (∀ j, listed.getD j false = true → Z.getD j false = true) ∧ (late = true ∨ ∀ f ∈ L, Z.getD f false = false) ∧ i ∉ L := by
  unfold reachP at h
  simp only [Bool.and_eq_true, Bool.or_eq_true, Bool.not_eq_true', List.all_eq_true] at h
  obtain ⟨⟨⟨h1, h2⟩, h3⟩, h4⟩ := h
  refine ⟨?_, ?_, h3, by simpa using h4⟩
  · intro j oj hoj hji hz
    have hj : j < ops.size := (Array.getElem?_eq_some_iff.1 hoj).1
    have := allIx_ok h1 j hj
    simp only [hoj, hz, Bool.or_false, Option.map_some, Option.getD_some, Bool.or_eq_true] at this
    rcases this with this | this
    · exact absurd (Nat.eq_of_beq_eq_true this) hji
    · obtain ⟨e, he, hb⟩ := Array.any_eq_true'.1 this
      simp only [Bool.and_eq_true, Bool.not_eq_true'] at hb
      exact ⟨e, he, hb.1, hb.2⟩
  · intro j hj
    have hjl : j < ops.size := by
      rcases Nat.lt_or_ge j ops.size with h' | h'
      · exact h'
      · simp [Array.getElem?_eq_none (by omega : listed.size ≤ j)] at hj
    have := allIx_ok h2 j hjl
    rw [hj] at this
    simpa using this

theorem TT_set {L F : List Nat} {m0 : List (Ck C)} {i : Nat} (hi : i ∉ L) (l : Array Bool) (w : World) (h : TT L F m0 (l.setIfInBounds i true) w) : TT L F m0 l w := by
  refine ⟨?_, h.2⟩
  rcases h.1 with ⟨f, hf, h⟩ | h
  · refine .inl ⟨f, hf, ?_⟩
    rw [getD_set_ne false (fun e => hi (by rw [e]; exact hf))] at h
    exact h
  · exact .inr h
theorem Stay.none {S : Sx} {w0 w : World} {m0 m : List (Ck C)} (hm : MemOK S w0 w m) : Stay [] m0 w := ⟨fun c hc => by simp [inL] at hc, fun g v hv => (hm.more.gv g v hv).1⟩

theorem splan_ok {P : Program} {S : Sx} {w0 : World} {E : Env P C} {ops : Array Oper} {W L F0 : List Nat} {m0 : List (Ck C)} (hm0 : memLt m0.length m0 = true) {Q : Exit → Act → World → Prop} (hQ : ∀ c a w, ¬ Q (.panic c) a w) (hns : Region.noSelect ops = true) :
    ∀ (l : PTree) (late : Bool) (F : List Nat) (listed : Array Bool) (tm : Tm) (m : List (Ck C)) (K : Tm → List (Ck C) → Tr) (a : Act), listed.size = ops.size → planOK ops W L late l listed = true → splan E ops F m0 l tm m K → ActOK (ads m) E.n tm a → GlOK m →
    (∀ k, k < m0.length → ads m0 k = ads m k) → m0.length ≤ m.length → (∀ c, inL c F = true → nth m c = nth m0 c) → (if late then F = [] ∧ ∃ f ∈ L, listed.getD f false = true else F = F0) →
    (∀ tm' m' a' w', K tm' m' → ActOK (ads m') E.n tm' a' → MemOK S w0 w' m' → (m0.length ≤ m'.length ∧ ∀ k, k < m0.length → ads m0 k = ads m' k) → Q .normal a' w') → Hy P ops (kW W) (TT L F0 m0) (fun w => MemOK S w0 w m) Q l.len listed a
  | .nil, late, F, listed, tm, m, K, a, _, hp, hs, h, _, hads, hle, _, _, hq => by
    simp only [planOK, List.isEmpty_iff] at hp
    exact ⟨hp, fun w hm => hq _ _ _ _ hs h hm ⟨hle, hads⟩⟩
  | .p i r, late, F, listed, tm, m, K, a, hsz, hp, hs, h, hg, hads, hle, hst, hlt, hq => by
    simp only [planOK, Bool.and_eq_true, Bool.not_eq_true'] at hp
    obtain ⟨⟨⟨⟨h1, h2⟩, h3⟩, h5⟩, h4⟩ := hp
    generalize (if (late || L.isEmpty) = true then Array.replicate ops.size true else reach ops i ops.size listed) = Z at h5
    obtain ⟨hZ, hLZ, hLL, hiL⟩ := reachP_ok hsz h5
    simp only [splan] at hs
    split at hs <;> try (first | contradiction | exact False.elim hs)
    rename_i o ho
    obtain ⟨v, tm', hy, hK, h'⟩ := stepC_ok hg hads hs h
    rw [fTm1_eq] at hK
    have hlt' : if late then F = [] ∧ ∃ f ∈ L, (listed.setIfInBounds i true).getD f false = true else F = F0 := by
      cases late with
      | false => exact hlt
      | true => exact ⟨hlt.1, hlt.2.elim fun f hf => ⟨f, hf.1, getD_set_le hf.2⟩⟩
    refine Hy_first_P (fun w hm => Stay.of hm hm0 hst hads) Z hZ ?_ (TT_set hiL) ho (Region.noSelect_spec hns) h3 (fun c a w hc => absurd hc (hQ _ _ _)) r.len listed a (Region.free_spec ho h2) hLZ (by simpa using h1) hy
      (splan_ok hm0 hQ hns r late F _ tm' m K _ (by simp [hsz]) h4 hK h' hg hads hle hst hlt' hq)
    intro l w hl hT
    cases late with
    | true =>
      obtain ⟨rfl, _⟩ := hlt
      exact hT.2
    | false =>
      simp only [Bool.false_eq_true, if_false] at hlt
      subst hlt
      rcases hT.1 with ⟨f, hf, hT⟩ | hT
      · rcases hLL with hLL | hLL
        · cases hLL
        · have := hl f hT
          rw [hLL f hf] at this; cases this
      · exact hT
  | .q i r, late, F, listed, tm, m, K, a, hsz, hp, hs, h, hg, hads, hle, hst, hlt, hq => by
    simp only [planOK, Bool.and_eq_true, Bool.not_eq_true'] at hp
    obtain ⟨⟨⟨⟨h1, h2⟩, h3⟩, h56⟩, h4⟩ := hp
    generalize reach ops i ops.size listed = Z at h56
    unfold reachOK at h56
    obtain ⟨h5, h6⟩ := Bool.and_eq_true_iff.1 h56
    simp only [splan] at hs
    split at hs <;> try (first | contradiction | exact False.elim hs)
    rename_i o ho
    obtain ⟨v, tm', hy, hK, h'⟩ := stepL_ok (S := S) (w0 := w0) hs h
    rw [fTm1_eq] at hK
    have hlt' : if late then F = [] ∧ ∃ f ∈ L, (listed.setIfInBounds i true).getD f false = true else F = F0 := by
      cases late with
      | false => exact hlt
      | true => exact ⟨hlt.1, hlt.2.elim fun f hf => ⟨f, hf.1, getD_set_le hf.2⟩⟩
    refine Hy_first_Q ho (Region.noSelect_spec hns) h3 Z ?_ r.len listed a (Region.free_spec ho h2) ?_ ?_ (by simpa using h1) hy
      (splan_ok hm0 hQ hns r late F _ tm' m K _ (by simp [hsz]) h4 hK h' hg hads hle hst hlt' hq)
    · intro j oj hoj hji hz
      have hj : j < ops.size := (Array.getElem?_eq_some_iff.1 hoj).1
      have := allIx_ok h5 j hj
      simp only [hoj, hz, Bool.or_false, Option.map_some, Option.getD_some, Bool.or_eq_true] at this
      rcases this with this | this
      · exact absurd (Nat.eq_of_beq_eq_true this) hji
      · obtain ⟨e, he, hb⟩ := Array.any_eq_true'.1 this
        simp only [Bool.and_eq_true, Bool.not_eq_true'] at hb
        exact ⟨e, he, hb.1, hb.2⟩
    · intro j hj
      have hjl : j < ops.size := by
        rcases Nat.lt_or_ge j ops.size with h' | h'
        · exact h'
        · simp [Array.getElem?_eq_none (by omega : listed.size ≤ j)] at hj
      have := (Bool.and_eq_true_iff.1 (allIx_ok h6 j hjl)).1
      rw [hj] at this
      simpa using this
    · intro j hj hz
      have hjl : j < ops.size := by
        rcases Nat.lt_or_ge j ops.size with h' | h'
        · exact h'
        · simp [Array.getElem?_eq_none (by omega : listed.size ≤ j)] at hj
      have := (Bool.and_eq_true_iff.1 (allIx_ok h6 j hjl)).2
      rw [hj, hz] at this
      simpa using this
  | .e i r, late, F, listed, tm, m, K, a, hsz, hp, hs, h, hg, hads, hle, hst, hlt, hq => by
    simp only [planOK, Bool.and_eq_true] at hp
    obtain ⟨⟨h1, h2⟩, h4⟩ := hp
    have hr : Region.ready .any ops listed = [i] := by
      split at h1
      · rename_i j hj; rw [hj, Nat.eq_of_beq_eq_true h1]
      · cases h1
    simp only [splan] at hs
    split at hs <;> try (first | contradiction | exact False.elim hs)
    rename_i o ho
    have hlt' : if late then F = [] ∧ ∃ f ∈ L, (listed.setIfInBounds i true).getD f false = true else F = F0 := by
      cases late with
      | false => exact hlt
      | true => exact ⟨hlt.1, hlt.2.elim fun f hf => ⟨f, hf.1, getD_set_le hf.2⟩⟩
    refine ⟨fun h0 => (by rw [hr] at h0; cases h0), fun j hj => ?_⟩
    rw [hr] at hj
    have hji : j = i := by simpa using hj
    subst hji
    rw [if_pos h2]
    intro w hm
    obtain ⟨g1, g2⟩ := stepP_ok (Q := Q) (next := wpAT P ops (TT L F0 m0) Q r.len (listed.setIfInBounds j true)) hs h hm
      (fun tm' m' a' w' hk h' hm' hads' => by
        simp only [fTm1_eq, fM_eq] at hk
        obtain ⟨hk', hst'⟩ := stays_ok hk
        have hads2 : ∀ k, k < m0.length → ads m0 k = ads m' k := fun k hkl => (hads k hkl).trans (hads'.2 k (by omega))
        refine Hy_sound _ _ _ _ ?_ (splan_ok hm0 hQ hns r late F _ tm' m' K a' (by simp [hsz]) h4 hk' h' hm'.glob hads2 (Nat.le_trans hle hads'.1) hst' hlt' hq) hm'
        intro l w hl hm
        cases late with
        | true =>
          obtain ⟨_, f, hf, hff⟩ := hlt'
          exact ⟨.inl ⟨f, hf, hl f hff⟩, Stay.none hm⟩
        | false =>
          simp only [Bool.false_eq_true, if_false] at hlt
          subst hlt
          exact ⟨.inr (Stay.of hm hm0 hst' hads2), Stay.none hm⟩)
    unfold wpOp
    simp only [ho]
    split
    · rename_i hw; exact .inl (g1 hw)
    · rename_i hw; exact g2 (by simpa using hw)
  | .f i r, late, F, listed, tm, m, K, a, hsz, hp, hs, h, hg, hads, hle, hst, hlt, hq => by
    simp only [planOK, Bool.and_eq_true] at hp
    obtain ⟨⟨⟨h1, h2⟩, h3⟩, h4⟩ := hp
    have hr : Region.ready .any ops listed = [i] := by
      split at h1
      · rename_i j hj; rw [hj, Nat.eq_of_beq_eq_true h1]
      · cases h1
    simp only [splan] at hs
    split at hs <;> try (first | contradiction | exact False.elim hs)
    rename_i o ho
    have hil : i < listed.size := by rw [hsz]; exact (Array.getElem?_eq_some_iff.1 ho).1
    have hlt' : ∃ f ∈ L, (listed.setIfInBounds i true).getD f false = true := ⟨i, by simpa using h3, by simp [hil]⟩
    refine ⟨fun h0 => (by rw [hr] at h0; cases h0), fun j hj => ?_⟩
    rw [hr] at hj
    have hji : j = i := by simpa using hj
    subst hji
    rw [if_pos h2]
    intro w hm
    obtain ⟨g1, g2⟩ := stepP_ok (Q := Q) (next := wpAT P ops (TT L F0 m0) Q r.len (listed.setIfInBounds j true)) hs h hm
      (fun tm' m' a' w' hk h' hm' hads' => by
        simp only [fTm1_eq, fM_eq] at hk
        have hads2 : ∀ k, k < m0.length → ads m0 k = ads m' k := fun k hkl => (hads k hkl).trans (hads'.2 k (by omega))
        refine Hy_sound _ _ _ _ ?_ (splan_ok hm0 hQ hns r true [] _ tm' m' K a' (by simp [hsz]) h4 hk h' hm'.glob hads2 (Nat.le_trans hle hads'.1) (fun c hc => by simp [inL] at hc) ⟨rfl, hlt'⟩ hq) hm'
        intro l w hl hm
        obtain ⟨f, hf, hff⟩ := hlt'
        exact ⟨.inl ⟨f, hf, hl f hff⟩, Stay.none hm⟩)
    unfold wpOp
    simp only [ho]
    split
    · rename_i hw; exact .inl (g1 hw)
    · rename_i hw; exact g2 (by simpa using hw)
  | .two i a' j b', late, F, listed, tm, m, K, a, hsz, hp, hs, h, hg, hads, hle, hst, hlt, hq => by
    simp only [planOK, Bool.and_eq_true] at hp
    obtain ⟨⟨⟨⟨⟨h1, h2⟩, h2'⟩, h5⟩, h4⟩, h4'⟩ := hp
    have h5 := Nat.eq_of_beq_eq_true h5
    have hr : Region.ready .any ops listed = [i, j] := by
      split at h1
      · rename_i x y hj
        simp only [Bool.and_eq_true] at h1
        rw [hj, Nat.eq_of_beq_eq_true h1.1, Nat.eq_of_beq_eq_true h1.2]
      · cases h1
    simp only [splan] at hs
    split at hs <;> try (first | contradiction | exact False.elim hs)
    rename_i o o' ho ho'
    have one : ∀ (k : Nat) (ok : Oper) (t : PTree), ops[k]? = some ok → planOK ops W L late t (listed.setIfInBounds k true) = true →
        (stepP E ops ok tm m fun tm' m' => fTm1 tm' fun tm' => fM m' fun m' => stays m0 m' F (splan E ops F m0 t tm' m' K)).holds →
        (∀ (tm' : Tm) (m' : List (Ck C)) (a2 : Act), (splan E ops F m0 t tm' m' K).holds → ActOK (ads m') E.n tm' a2 → GlOK m' → (∀ k, k < m0.length → ads m0 k = ads m' k) → m0.length ≤ m'.length → (∀ c, inL c F = true → nth m' c = nth m0 c) →
          (if late then F = [] ∧ ∃ f ∈ L, (listed.setIfInBounds k true).getD f false = true else F = F0) → Hy P ops (kW W) (TT L F0 m0) (fun w => MemOK S w0 w m') Q t.len (listed.setIfInBounds k true) a2) →
        ∀ w, MemOK S w0 w m → wpOp P ops Q k (wpAT P ops (TT L F0 m0) Q t.len (listed.setIfInBounds k true)) a w := by
      intro k ok t ho hp4 hs ih w hm
      have hlt' : if late then F = [] ∧ ∃ f ∈ L, (listed.setIfInBounds k true).getD f false = true else F = F0 := by
        cases late with
        | false => exact hlt
        | true => exact ⟨hlt.1, hlt.2.elim fun f hf => ⟨f, hf.1, getD_set_le hf.2⟩⟩
      obtain ⟨g1, g2⟩ := stepP_ok (Q := Q) (next := wpAT P ops (TT L F0 m0) Q t.len (listed.setIfInBounds k true)) hs h hm
        (fun tm' m' a' w' hk h' hm' hads' => by
          simp only [fTm1_eq, fM_eq] at hk
          obtain ⟨hk', hst'⟩ := stays_ok hk
          have hads2 : ∀ k, k < m0.length → ads m0 k = ads m' k := fun k hkl => (hads k hkl).trans (hads'.2 k (by omega))
          refine Hy_sound _ _ _ _ ?_ (ih tm' m' a' hk' h' hm'.glob hads2 (Nat.le_trans hle hads'.1) hst' hlt') hm'
          intro l w hl hm
          cases late with
          | true =>
            obtain ⟨_, f, hf, hff⟩ := hlt'
            exact ⟨.inl ⟨f, hf, hl f hff⟩, Stay.none hm⟩
          | false =>
            simp only [Bool.false_eq_true, if_false] at hlt
            subst hlt
            exact ⟨.inr (Stay.of hm hm0 hst' hads2), Stay.none hm⟩)
      unfold wpOp
      simp only [ho]
      split
      · rename_i hw; exact .inl (g1 hw)
      · rename_i hw; exact g2 (by simpa using hw)
    refine ⟨fun h0 => (by rw [hr] at h0; cases h0), fun k hk => ?_⟩
    rw [hr] at hk
    simp only [List.mem_cons, List.not_mem_nil, or_false] at hk
    rcases hk with rfl | rfl
    · rw [if_pos h2]
      exact one k o a' ho h4 hs.1 fun tm' m' a2 g1 g2 g3 g4 g5 g6 g7 => splan_ok hm0 hQ hns a' late F _ tm' m' K a2 (by simp [hsz]) h4 g1 g2 g3 g4 g5 g6 g7 hq
    · rw [if_pos h2']
      have e : a'.len = b'.len := h5
      show ∀ w, MemOK S w0 w m → wpOp P ops Q k (wpAT P ops (TT L F0 m0) Q a'.len (listed.setIfInBounds k true)) a w
      rw [e]
      exact one k o' b' ho' h4' hs.2 fun tm' m' a2 g1 g2 g3 g4 g5 g6 g7 => splan_ok hm0 hQ hns b' late F _ tm' m' K a2 (by simp [hsz]) h4' g1 g2 g3 g4 g5 g6 g7 hq

/-- A region that draws. -/
theorem draw_ok {P : Program} (hmix : P.follows .mixedOrders = true) {S : Sx} {w0 w : World} {E : Env P C} {ops : Array Oper} {id : Nat} {Q : Exit → Act → World → Prop} {tm : Tm} {m : List (Ck C)} {K : Tm → List (Ck C) → Tr} {a : Act}
    {F : List Nat} {pl : PTree} (hp : planned ops pl = true) (hin : inMem F m) (hs : splan E ops F m pl tm m K) (h : ActOK (ads m) E.n tm a) (hm : MemOK S w0 w m)
    (hq : ∀ tm' m' a' w', K tm' m' → ActOK (ads m') E.n tm' a' → MemOK S w0 w' m' → Q .normal a' w') : (Code.region id ops true).wp P Q a w := by
  unfold planned at hp
  simp only [Bool.and_eq_true] at hp
  obtain ⟨⟨h1, h2⟩, h3⟩ := hp
  have h3 := Nat.eq_of_beq_eq_true h3
  have hm0 : memLt m.length m = true := by
    unfold inMem at hin
    split at hin
    · rename_i hc; exact (Bool.and_eq_true_iff.1 hc).1
    · exact hin.elim
  have key : (Code.region id ops true).wp P (fun e a w => match e with | .normal => Q .normal a w | _ => False) a w := by
    refine wp_region_any hmix ?_
    have := splan_ok (S := S) (w0 := w0) hm0 (Q := fun e a w => match e with | .normal => Q .normal a w | _ => False) (fun c a w hc => hc) (L := lates pl) (F0 := F) h1 pl false F _ tm m K a (by simp) h2 hs h hm.glob (fun _ _ => rfl) (Nat.le_refl _) (fun _ _ => rfl) rfl (fun tm' m' a' w' hk h' hm' _ => hq _ _ _ _ hk h' hm')
    rw [h3] at this
    exact wpAT_any _ _ _ _ (Hy_sound _ _ _ _ (fun l w _ hm => ⟨.inr (Stay.of hm hm0 (fun _ _ => rfl) (fun _ _ => rfl)), Stay.none hm⟩) this hm.drew)
  refine wp_mono key fun e a w he => ?_
  cases e <;> first | exact he | exact he.elim

end Go.Vx
