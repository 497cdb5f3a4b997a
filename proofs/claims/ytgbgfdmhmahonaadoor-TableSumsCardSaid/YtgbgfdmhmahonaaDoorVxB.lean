/-
  The symbolic evaluator, second part: the operations that only compute do what 'pev' says, in every world.
  Conditions: none.
-/
import Derived.Test.YtgbgfdmhmahonaaDoorVxA
namespace Go.Vx
open Go

theorem run_underlying' {P : Program} {t : TypeId} {d : TypeDesc} (h : P.underlying t = some d) (w : World) : (underlying t).run P w = .ok d w := by
  simp [underlying, h]
theorem run_sizeOf' {P : Program} {t : TypeId} {d : TypeDesc} (h : P.underlying t = some d) (w : World) : (sizeOf t).run P w = .ok (P.cellsOf t) w := by
  have : ∃ i, P.info? t = some i := by
    cases hi : P.info? t with
    | some i => exact ⟨i, rfl⟩
    | none => simp [Program.underlying, hi] at h
  obtain ⟨i, hi⟩ := this
  simp [sizeOf, typeInfo, hi, Program.cellsOf]
theorem run_sizeOf0 {P : Program} {t : TypeId} (h : P.cellsOf t ≠ 0) (w : World) : (sizeOf t).run P w = .ok (P.cellsOf t) w := by
  have : ∃ i, P.info? t = some i := by
    cases hi : P.info? t with
    | some i => exact ⟨i, rfl⟩
    | none => simp [Program.cellsOf, hi] at h
  obtain ⟨i, hi⟩ := this
  simp [sizeOf, typeInfo, hi, Program.cellsOf]

/-- All that is asked holds. -/
def allOf : List Prop → Prop
  | [] => True
  | p :: r => p ∧ allOf r

/-- A leaf of what is to be shown: evaluation stops here. -/
@[irreducible] def Lf (p : Prop) : Prop := p
theorem Lf.mk {p : Prop} (h : p) : Lf p := by unfold Lf; exact h
theorem Lf.out {p : Prop} (h : Lf p) : p := by unfold Lf at h; exact h
/-- What is to be shown, as data: so that evaluation works out its whole shape and stops at the leaves. -/
inductive Tr : Type 1 where
  | yes
  | no
  | lf (p : Prop)
  | and (a b : Tr)
  | imp (p : Prop) (a : Tr)
  | all {α : Type} (f : α → Tr)
def Tr.holds : Tr → Prop
  | .yes => True
  | .no => False
  | .lf p => p
  | .and a b => a.holds ∧ b.holds
  | .imp p a => p → a.holds
  | .all f => ∀ x, (f x).holds
instance : CoeSort Tr Prop := ⟨Tr.holds⟩
theorem Tr.yes_h : Tr.yes.holds := trivial
theorem Tr.lf_h {p : Prop} (h : p) : (Tr.lf p).holds := h
theorem Tr.and_h {a b : Tr} (h1 : a.holds) (h2 : b.holds) : (Tr.and a b).holds := ⟨h1, h2⟩
theorem Tr.imp_h {p : Prop} {a : Tr} (h : p → a.holds) : (Tr.imp p a).holds := h
theorem Tr.all_h {α : Type} {f : α → Tr} (h : ∀ x, (f x).holds) : (Tr.all f).holds := h
/-- The same, each a leaf. -/
def allLf : List Prop → Tr
  | [] => .yes
  | [p] => .lf p
  | p :: r => .and (.lf p) (allLf r)
theorem allLf_ok : ∀ {l : List Prop}, allLf l → allOf l
  | [], _ => trivial
  | [_], h => ⟨h, trivial⟩
  | _ :: _ :: _, h => ⟨h.1, allLf_ok h.2⟩

theorem Ad.at_add (d : Ad) (i f n : Nat) : (d.at i f).add n = d.at i (f + n) := by
  unfold Addr.add Ad.at
  split
  · rename_i h; subst h; rfl
  · simp; omega
theorem Ad.at_row (d : Ad) (i j : Nat) : (d.at i 0).add (j * d.sz) = d.at (j + i) 0 := by
  unfold Addr.add Ad.at
  split
  · rename_i h
    rcases Nat.mul_eq_zero.1 h with h | h
    · subst h; simp
    · simp [h]
  · simp [Nat.add_mul]; omega

theorem arith_ok {P : Program} {op : BinOp} {k : IntKind} {x y : Int} {ps : List Prop} {r : SV} (h : arith op k x y = some (ps, r)) (hp : allOf ps) (ad : Nat → Ad) (w : World) (t : TypeId)
    (hs : op ≠ .shl) (hs' : op ≠ .shr) : (binOp op t (.int k x) (.int k y)).run P w = .ok (r.va ad) w := by
  cases op <;> simp only [arith] at h <;> try contradiction
  case add => split at h <;> (simp at h; obtain ⟨rfl, rfl⟩ := h) <;> simp_all [binOp, Op.intArith, SV.va, allOf, inR]
  case sub => split at h <;> (simp at h; obtain ⟨rfl, rfl⟩ := h) <;> simp_all [binOp, Op.intArith, SV.va, allOf, inR]
  case mul => split at h <;> (simp at h; obtain ⟨rfl, rfl⟩ := h) <;> simp_all [binOp, Op.intArith, SV.va, allOf, inR]
  case quo => simp at h; obtain ⟨rfl, rfl⟩ := h; simp [allOf, inR] at hp; simp [binOp, Op.intDiv, SV.va, hp]
  case rem => simp at h; obtain ⟨rfl, rfl⟩ := h; simp [allOf] at hp; simp [binOp, Op.intDiv, SV.va, hp]
  case and => simp at h; obtain ⟨rfl, rfl⟩ := h; simp [binOp, Op.intBits, SV.va, ibit]
  case or => simp at h; obtain ⟨rfl, rfl⟩ := h; simp [binOp, Op.intBits, SV.va, ibit]
  case xor => simp at h; obtain ⟨rfl, rfl⟩ := h; simp [binOp, Op.intBits, SV.va, ibit]
  case andNot => simp at h; obtain ⟨rfl, rfl⟩ := h; simp [binOp, Op.intBits, SV.va, ibit]
  case eql => simp at h; obtain ⟨rfl, rfl⟩ := h; simp [binOp, Op.intCmp, SV.va, SB.val]; rfl
  case neq => simp at h; obtain ⟨rfl, rfl⟩ := h; simp [binOp, Op.intCmp, SV.va, SB.val, bne]; rfl
  case lss => simp at h; obtain ⟨rfl, rfl⟩ := h; simp [binOp, Op.intCmp, SV.va, SB.val]
  case leq => simp at h; obtain ⟨rfl, rfl⟩ := h; simp [binOp, Op.intCmp, SV.va, SB.val]
  case gtr => simp at h; obtain ⟨rfl, rfl⟩ := h; simp [binOp, Op.intCmp, SV.va, SB.val]
  case geq => simp at h; obtain ⟨rfl, rfl⟩ := h; simp [binOp, Op.intCmp, SV.va, SB.val]

theorem eqs_ok' {P : Program} {t : TypeId} {cst : Bool} {x y : SV} {b : SB} (h : eqs P t cst x y = some b) (ad : Nat → Ad) (w : World) (d : Nat) :
    (Op.equalIn (d + 1) t (x.va ad) (y.va ad)).run P w = .ok b.val w := by
  unfold eqs at h
  split at h <;> try contradiction
  all_goals
    rename_i hu
    split at h <;> first | contradiction | (simp at h; subst h) | (split at h <;> first | contradiction | (simp at h; subst h))
    all_goals simp [Op.equalIn, run_underlying' hu, SV.va, SB.val]

theorem eqs_ok {P : Program} {t : TypeId} {cst : Bool} {x y : SV} {b : SB} (h : eqs P t cst x y = some b) (ad : Nat → Ad) (w : World) :
    (Op.equal t (x.va ad) (y.va ad)).run P w = .ok b.val w := eqs_ok' h ad w 9999

theorem eqs_guard {P : Program} {t : TypeId} {x y : Operand} {a b : SV} {s : SB} (h : eqs P t (isConst x || isConst y) a b = some s) (ad : Nat → Ad) (w : World) (op : BinOp) :
    (eqGuard op t x y (a.va ad) (b.va ad)).run P w = .ok () w := by
  unfold eqs at h
  unfold eqGuard
  split at h <;> try contradiction
  all_goals
    split at h <;> first | contradiction | (simp at h; subst h) | (split at h <;> first | contradiction | (simp at h; subst h))
    all_goals (cases x <;> cases y <;> simp_all [SV.va, isConst] <;> (split <;> simp_all))

theorem bin_ok {P : Program} {op : BinOp} {t : TypeId} {x y : Operand} {a b : SV} {ps : List Prop} {r : SV} (h : bin P op t (isConst x || isConst y) a b = some (ps, r)) (hp : allOf ps) (ad : Nat → Ad) (w : World) :
    (do eqGuard op t x y (a.va ad) (b.va ad); binOp op t (a.va ad) (b.va ad) : Sem Value).run P w = .ok (r.va ad) w := by
  unfold bin at h
  split at h
  · rename_i k n k' m
    have hg : (eqGuard op t x y ((SV.int k n).va ad) ((SV.int k' m).va ad)).run P w = .ok () w := by
      simp only [eqGuard, SV.va]; split <;> simp
    simp only [Sem.run_bind, hg, Result.andThen_ok]
    split at h
    · simp at h; obtain ⟨rfl, rfl⟩ := h; simp [allOf] at hp
      have : ¬ m < 0 := by omega
      simp [binOp, Op.shift, SV.va, ishl, this]
    · simp at h; obtain ⟨rfl, rfl⟩ := h; simp [allOf] at hp
      have : ¬ m < 0 := by omega
      simp [binOp, Op.shift, SV.va, ishr, this]
    · rename_i h1 h2
      split at h
      · rename_i hk; have := sameKind_eq hk; subst this; exact arith_ok h hp ad w t h1 h2
      · cases h
  · rename_i x' y' hni
    split at h
    · cases he : eqs P t (isConst x || isConst y) a b with
      | none => simp [he] at h
      | some s =>
        simp [he] at h; obtain ⟨rfl, rfl⟩ := h
        have h1 := eqs_guard he ad w .eql
        have h2 := eqs_ok he ad w
        simp only [Sem.run_bind, h1, Result.andThen_ok]
        have : binOp .eql t (a.va ad) (b.va ad) = (do pure (.bool (← Op.equal t (a.va ad) (b.va ad)))) := by
          unfold eqs at he
          split at he <;> try contradiction
          all_goals
            split at he <;> first | contradiction | rfl
        rw [this]; simp [h2, SV.va]
    · cases he : eqs P t (isConst x || isConst y) a b with
      | none => simp [he] at h
      | some s =>
        simp [he] at h; obtain ⟨rfl, rfl⟩ := h
        have h1 := eqs_guard he ad w .neq
        have h2 := eqs_ok he ad w
        simp only [Sem.run_bind, h1, Result.andThen_ok]
        have : binOp .neq t (a.va ad) (b.va ad) = (do pure (.bool (!(← Op.equal t (a.va ad) (b.va ad))))) := by
          unfold eqs at he
          split at he <;> try contradiction
          all_goals
            split at he <;> first | contradiction | rfl
        rw [this]; cases s <;> simp [h2, SV.va, SB.neg, SB.val]
    · cases h

end Go.Vx
