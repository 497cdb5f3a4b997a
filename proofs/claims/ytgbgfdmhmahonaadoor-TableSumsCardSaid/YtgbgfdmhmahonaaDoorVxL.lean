/-
  The symbolic evaluator, twelfth part: a call, as a change of the chunks.
  Conditions: none.
-/
import Derived.Test.YtgbgfdmhmahonaaDoorVxK
namespace Go.Vx
open Go
variable {C : Nat → Codec}

def rn : List Nat → Nat → Nat
  | [], _ => 0
  | x :: _, 0 => x
  | _ :: r, c + 1 => rn r c

mutual
def SV.ren (ρ : List Nat) : SV → SV
  | .ptr c i f => .ptr (rn ρ c) i f
  | .sl c i n m => .sl (rn ρ c) i n m
  | .agg vs => .agg (SV.rens ρ vs)
  | .tup vs => .tup (SV.rens ρ vs)
  | .ifc t v => .ifc t (SV.ren ρ v)
  | .fn f a b => .fn f (SV.rens ρ a) (SV.rens ρ b)
  | .cnd cs v => .cnd cs (SV.ren ρ v)
  | .junk => .junk
  | .undef => .undef
  | .int k n => .int k n
  | .bool b => .bool b
  | .nilp => .nilp
  | .nils => .nils
  | .nili => .nili
  | .nilf => .nilf
  | .gp g => .gp g
  | .mp c => .mp (rn ρ c)
  | .val v => .val v
def SV.rens (ρ : List Nat) : List SV → List SV
  | [] => []
  | v :: r => SV.ren ρ v :: SV.rens ρ r
end

mutual
theorem SV.va_ren {n : Nat} {ρ : List Nat} {ad ad' : Nat → Ad} (h : ∀ c, c < n → ad c = ad' (rn ρ c)) : ∀ v : SV, SV.lt n v = true → SV.va ad v = SV.va ad' (v.ren ρ)
  | .junk, _ | .undef, _ | .int _ _, _ | .bool _, _ | .nilp, _ | .nils, _ | .nili, _ | .nilf, _ | .gp _, _ | .val _, _ => by simp [SV.va, SV.ren]
  | .ptr c i f, hv => by simp [SV.lt] at hv; simp [SV.va, SV.ren, h c hv]
  | .sl c i f m, hv => by simp [SV.lt] at hv; simp [SV.va, SV.ren, h c hv]
  | .mp c, hv => by simp [SV.lt] at hv; simp [SV.va, SV.ren, h c hv]
  | .agg vs, hv => by simp [SV.lt] at hv; simp [SV.va, SV.ren, SV.vas_ren h vs hv]
  | .tup vs, hv => by simp [SV.lt] at hv; simp [SV.va, SV.ren, SV.vas_ren h vs hv]
  | .ifc t v, hv => by simp [SV.lt] at hv; simp [SV.va, SV.ren, SV.va_ren h v hv]
  | .fn f a b, hv => by simp [SV.lt] at hv; simp [SV.va, SV.ren, SV.vas_ren h a hv.1, SV.vas_ren h b hv.2]
  | .cnd cs v, hv => by simp [SV.lt] at hv; simp [SV.va, SV.ren, SV.va_ren h v hv]
theorem SV.vas_ren {n : Nat} {ρ : List Nat} {ad ad' : Nat → Ad} (h : ∀ c, c < n → ad c = ad' (rn ρ c)) : ∀ vs : List SV, SV.lts n vs = true → SV.vas ad vs = SV.vas ad' (SV.rens ρ vs)
  | [], _ => rfl
  | v :: r, hv => by simp [SV.lts] at hv; simp [SV.vas, SV.rens, SV.va_ren h v hv.1, SV.vas_ren h r hv.2]
end

def sbEq : SB → SB → List Prop
  | .t, .t => []
  | .f, .f => []
  | a, b => [a.val = b.val]

mutual
/-- Two symbolic values are one, if these hold. -/
def eqv : SV → SV → Option (List Prop)
  | .undef, .undef => some []
  | .int k n, .int k' n' => if sameKind k k' then some [n = n'] else none
  | .bool s, .bool s' => some (sbEq s s')
  | .ptr c i f, .ptr c' i' f' => if Nat.beq c c' && Nat.beq f f' then some [i = i'] else none
  | .nilp, .nilp => some []
  | .sl c i n m, .sl c' i' n' m' => if Nat.beq c c' then some [i = i', n = n', m = m'] else none
  | .nils, .nils => some []
  | .agg a, .agg b => eqvs a b
  | .tup a, .tup b => eqvs a b
  | .ifc t v, .ifc t' v' => if Nat.beq t t' then eqv v v' else none
  | .nili, .nili => some []
  | .fn (.func f) a b, .fn (.func f') a' b' => if Nat.beq f f' then match eqvs a a', eqvs b b' with
    | some p, some q => some (p ++ q)
    | _, _ => none else none
  | .fn (.yield l) [] [], .fn (.yield l') [] [] => some [l = l']
  | .nilf, .nilf => some []
  | .gp g, .gp g' => if Nat.beq g g' then some [] else none
  | .mp c, .mp c' => if Nat.beq c c' then some [] else none
  | .val v, .val v' => some [v = v']
  | _, _ => none
def eqvs : List SV → List SV → Option (List Prop)
  | [], [] => some []
  | a :: r, b :: s => match eqv a b, eqvs r s with
    | some p, some q => some (p ++ q)
    | _, _ => none
  | _, _ => none
end

theorem allOf_append : ∀ (p q : List Prop), allOf (p ++ q) ↔ allOf p ∧ allOf q
  | [], q => by simp [allOf]
  | a :: p, q => by simp [allOf, allOf_append p q, and_assoc]

mutual
theorem eqv_ok (ad : Nat → Ad) : ∀ (a b : SV) (ps : List Prop), eqv a b = some ps → allOf ps → SV.va ad a = SV.va ad b := by
  intro a b ps h hp
  unfold eqv at h
  split at h
  case h_1 => rfl
  case h_2 => split at h <;> simp at h; subst h; rename_i hk; simp [allOf] at hp; simp [SV.va, hp, sameKind_eq hk]
  case h_3 s s' =>
    simp only [Option.some.injEq] at h; subst h
    cases s <;> cases s' <;> first | rfl | (simp only [sbEq, allOf, and_true] at hp; simp only [SV.va]; rw [hp])
  case h_4 => split at h <;> simp at h; subst h; rename_i hk; simp at hk; simp [allOf] at hp; simp [SV.va, hp, hk]
  case h_5 => rfl
  case h_6 => split at h <;> simp at h; subst h; rename_i hk; simp at hk; simp [allOf] at hp; simp [SV.va, hp, hk]
  case h_7 => rfl
  case h_8 a b => simp only [SV.va]; rw [eqvs_ok ad a b ps h hp]
  case h_9 a b => simp only [SV.va]; rw [eqvs_ok ad a b ps h hp]
  case h_10 t v t' v' =>
    split at h
    · rename_i hk; simp at hk; subst hk; simp only [SV.va]; rw [eqv_ok ad v v' ps h hp]
    · cases h
  case h_11 => rfl
  case h_12 f a b f' a' b' =>
    split at h
    rotate_left
    · cases h
    rename_i hk; simp at hk; subst hk
    split at h <;> simp at h
    rename_i p q hp' hq'
    subst h
    have := (allOf_append p q).1 hp
    simp only [SV.va]
    rw [eqvs_ok ad a a' p hp' this.1, eqvs_ok ad b b' q hq' this.2]
  case h_13 => simp at h; subst h; simp [allOf] at hp; simp [SV.va, hp]
  case h_14 => rfl
  case h_15 => split at h <;> simp at h; rename_i hk; simp at hk; subst hk; rfl
  case h_16 => split at h <;> simp at h; rename_i hk; simp at hk; subst hk; rfl
  case h_17 => simp at h; subst h; simp [allOf] at hp; simp [SV.va, hp]
  case h_18 => cases h
theorem eqvs_ok (ad : Nat → Ad) : ∀ (a b : List SV) (ps : List Prop), eqvs a b = some ps → allOf ps → SV.vas ad a = SV.vas ad b := by
  intro a b ps h hp
  unfold eqvs at h
  split at h
  · rfl
  · rename_i a r b s
    split at h <;> simp at h
    rename_i p q hp' hq'
    subst h
    have := (allOf_append p q).1 hp
    simp only [SV.vas]
    rw [eqv_ok ad a b p hp' this.1, eqvs_ok ad r s q hq' this.2]
  · cases h
end

def castMp {C : Nat → Codec} {tk tv tk' tv' : Nat} (h : tk' = tk ∧ tv' = tv) (l : List ((C tk').α × (C tv').α × Nat)) : List ((C tk).α × (C tv).α × Nat) := h.1 ▸ h.2 ▸ l
/-- What a callee's chunk asks of the caller's. -/
def cellsEq (ρ : List Nat) : Cells C → Cells C → Option (List Prop)
  | .rows t l, .rows t' l' => if h : t' = t then some [l = castL h l'] else none
  | .one vs, .one vs' => onesEq (SV.rens ρ vs) vs'
  | .mp tk tv l clk, .mp tk' tv' l' clk' => if h : tk' = tk ∧ tv' = tv then some [l = castMp h l', clk = clk'] else none
  | .it mc seen clk, .it mc' seen' clk' => if Nat.beq (rn ρ mc) mc' then some [seen = seen', clk = clk'] else none
  | .dead, _ => some []
  | _, _ => none
where
  onesEq : List SV → List SV → Option (List Prop)
  | [], [] => some []
  | .junk :: r, _ :: s => onesEq r s
  | a :: r, b :: s => match eqv a b, onesEq r s with
    | some p, some q => some (p ++ q)
    | _, _ => none
  | _, _ => none

def glEq : Option Nat → Option Nat → Bool
  | none, _ => true
  | some a, some b => Nat.beq a b
  | _, _ => false
def bImp : Bool → Bool → Bool
  | true, b => b
  | false, _ => true

def ckEq (ρ : List Nat) (a b : Ck C) : Option (List Prop) :=
  if Nat.beq a.sz b.sz && bImp a.wr b.wr && glEq a.gl b.gl then
    (cellsEq ρ a.cells b.cells).map fun ps => (a.block = b.block) :: (a.base = b.base) :: ps
  else none

/-- The callee's chunks are these of the caller's. -/
def cksEq (ρ : List Nat) (M : List (Ck C)) : List Nat → List (Ck C) → Option (List Prop)
  | [], [] => some []
  | p :: r, a :: s => if Nat.blt p M.length then match ckEq ρ a (nth M p), cksEq ρ M r s with
      | some x, some y => some (x ++ y)
      | _, _ => none else none
  | _, _ => none

/-- No chunk that may be written is met under two names. -/
def notIn (p : Nat) : List Nat → Bool
  | [] => true
  | x :: r => !(Nat.beq x p) && notIn p r
def apartB : List Nat → List (Ck C) → Bool
  | [], _ => true
  | p :: r, [] => notIn p r && apartB r []
  | p :: r, a :: s => (if a.wr then notIn p r else wrNot p r s) && apartB r s
where
  wrNot (p : Nat) : List Nat → List (Ck C) → Bool
  | x :: r, a :: s => (if a.wr then !(Nat.beq x p) else true) && wrNot p r s
  | _, _ => true

def renCells (ρ : List Nat) : Cells C → Cells C
  | .rows t l => .rows t l
  | .one vs => .one (SV.rens ρ vs)
  | .mp tk tv l clk => .mp tk tv l clk
  | .it mc seen clk => .it (rn ρ mc) seen clk
  | .dead => .dead
def renCk (ρ : List Nat) : Ck C → Ck C
  | ⟨b, ba, sz, w, _, cs⟩ => ⟨b, ba, sz, w, none, renCells ρ cs⟩

/-- The caller's chunks behind the call, but for the new ones. -/
def backU (ρ' : List Nat) : List Nat → List (Ck C) → List (Ck C) → List (Ck C) → List (Ck C)
  | p :: r, a :: s, o :: out, M => backU ρ' r s out (match a.wr with
      | true => setCk M p (renCells ρ' o.cells)
      | false => M)
  | _, _, _, M => M
/-- And the new ones. -/
def backN (ρ' : List Nat) : List (Ck C) → List (Ck C) → List (Ck C)
  | _ :: s, _ :: out => backN ρ' s out
  | [], out => out.map (renCk ρ')
  | _ :: _, [] => []

def upFrom : Nat → Nat → List Nat
  | _, 0 => []
  | n, k + 1 => n :: upFrom (n + 1) k

/-- The chunks that a callee leaves lie where they lay; what is new may be written. -/
def extB : List (Ck C) → List (Ck C) → Bool
  | [], out => out.all fun c => c.wr || !c.live
  | _ :: s, _ :: out => extB s out
  | _ :: _, [] => false

/-- What a callee is known to do: of the elder chunks it keeps the places. -/
structure Ext (m m' : List (Ck C)) : Prop where
  len : m.length ≤ m'.length
  same : ∀ k, k < m.length → (nth m' k).block = (nth m k).block ∧ (nth m' k).base = (nth m k).base ∧ (nth m' k).sz = (nth m k).sz ∧ (nth m' k).wr = (nth m k).wr
  new : ∀ k, m.length ≤ k → k < m'.length → (nth m' k).live = true → (nth m' k).wr = true

def wrS (m : List (Ck C)) : Sx := ⟨fun k => ∃ c ∈ m, c.wr = true ∧ c.block = k, []⟩

theorem castL_eq {t t' : Nat} (h : t' = t) (l' : List (C t').α) : (Cells.rows t' l' : Cells C) = .rows t (castL h l') := by subst h; rfl

theorem onesEq_ok (ad : Nat → Ad) (w : World) (b : Nat → Addr) : ∀ (a c : List SV) (ps : List Prop), cellsEq.onesEq a c = some ps → allOf ps → a.length = c.length ∧ ∀ f, f < c.length → cellIs ad w (b f) (c.getD f .junk) → cellIs ad w (b f) (a.getD f .junk)
  | [], [], _, _, _ => ⟨rfl, fun f hf => by simp at hf⟩
  | [], _ :: _, _, h, _ => by simp [cellsEq.onesEq] at h
  | x :: r, [], _, h, _ => by cases x <;> simp [cellsEq.onesEq] at h
  | x :: r, y :: s, ps, h, hp => by
    have cell_any : ∀ (v : SV) (a : Addr), cellIs ad w a v → cellIs ad w a .junk := by
      intro v a hv
      cases v <;> simp only [cellIs] at hv ⊢ <;> first | exact hv | exact ⟨_, hv⟩
    by_cases hx : x = .junk
    · subst hx
      simp only [cellsEq.onesEq] at h
      have ih := onesEq_ok ad w (fun f => b (f + 1)) r s ps h hp
      refine ⟨by simp [ih.1], fun f hf hc => ?_⟩
      cases f with
      | zero => exact cell_any _ _ hc
      | succ f => exact ih.2 f (by simpa using hf) hc
    · have h' : (match eqv x y, cellsEq.onesEq r s with | some p, some q => some (p ++ q) | _, _ => none) = some ps := by
        cases x <;> first | exact h | exact absurd rfl hx
      split at h' <;> simp at h'
      rename_i p q hp' hq'
      subst h'
      have hpq := (allOf_append p q).1 hp
      have ih := onesEq_ok ad w (fun f => b (f + 1)) r s q hq' hpq.2
      refine ⟨by simp [ih.1], fun f hf hc => ?_⟩
      cases f with
      | zero =>
        have e := eqv_ok ad x y p hp' hpq.1
        simp only [List.getD_cons_zero] at hc ⊢
        have hy : y ≠ .junk := by rintro rfl; cases x <;> simp [eqv] at hp'
        cases x <;> first | exact absurd rfl hx | (cases y <;> first | exact absurd rfl hy | (simp only [cellIs] at hc ⊢; rw [e]; exact hc))
      | succ f => exact ih.2 f (by simpa using hf) hc

end Go.Vx
