/-
  The symbolic evaluator: the plan of a great region, looked at in pieces.
  Conditions: none.
-/
import Derived.Test.YtgbgfdmhmahonaaDoorM2
namespace Go.Vx
open Go
def getOps : Code → Nat → Option (Array Oper)
  | .region id ops _, n => match Nat.beq id n with
    | true => some ops
    | false => none
  | .seq a b, n => match getOps a n with
    | some o => some o
    | none => getOps b n
  | .cond _ a b, n => match getOps a n with
    | some o => some o
    | none => getOps b n
  | .block _ c, n => getOps c n
  | .loop c, n => getOps c n
  | _, _ => none
def opsOf (fn : Func) (n : Nat) : Option (Array Oper) := match fn.body with
  | some c => getOps c n
  | none => none
def stepOK (ops : Array Oper) (W : List Nat) : Tk → Array Bool → Bool
  | .p i, listed => (Region.ready .any ops listed).contains i && Region.free .any ops listed i && !kW W i && reachP ops [] false i listed (Array.replicate ops.size true)
  | .e i, listed => (match Region.ready .any ops listed with
      | [j] => Nat.beq j i
      | _ => false) && kW W i
  | _, _ => false
def tkI : Tk → Nat
  | .p i => i
  | .q i => i
  | .e i => i
  | .f i => i
  | .t _ => 0
def stepsOK (ops : Array Oper) (W : List Nat) : List Tk → Array Bool → Bool
  | [], _ => true
  | t :: r, listed => stepOK ops W t listed && stepsOK ops W r (listed.setIfInBounds (tkI t) true)
def listedBy : List Tk → Array Bool → Array Bool
  | [], l => l
  | t :: r, l => listedBy r (l.setIfInBounds (tkI t) true)
theorem plan_cut {ops : Array Oper} {W : List Nat} : ∀ (a b : List Tk) (listed : Array Bool), stepsOK ops W a listed = true → planOK ops W [] false (PTree.of b) (listedBy a listed) = true → planOK ops W [] false (PTree.of (a ++ b)) listed = true
  | [], b, listed, _, h => h
  | t :: r, b, listed, hs, h => by
    simp only [stepsOK, Bool.and_eq_true] at hs
    have ih := plan_cut r b _ hs.2 h
    cases t with
    | p i =>
      simp only [stepOK, Bool.and_eq_true] at hs
      simp only [List.cons_append, PTree.of, planOK, Bool.and_eq_true]
      exact ⟨⟨⟨⟨hs.1.1.1.1, hs.1.1.1.2⟩, hs.1.1.2⟩, hs.1.2⟩, ih⟩
    | e i =>
      simp only [stepOK, Bool.and_eq_true] at hs
      simp only [List.cons_append, PTree.of, planOK, Bool.and_eq_true]
      exact ⟨⟨hs.1.1, hs.1.2⟩, ih⟩
    | q i => simp [stepOK] at hs
    | f i => simp [stepOK] at hs
    | t i => simp [stepOK] at hs
end Go.Vx
