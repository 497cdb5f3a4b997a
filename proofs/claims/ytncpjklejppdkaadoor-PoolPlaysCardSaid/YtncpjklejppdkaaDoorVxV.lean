/-
  The symbolic evaluator, twentieth part: the walk of a frame with marks among its deferred calls, and of a frame of a round.
  Conditions: none.
-/
import Derived.Test.YtncpjklejppdkaaDoorVxS
import Derived.RangeFuncRecord
import Derived.OrdersIn
import Derived.TacticsIn
namespace Go.Vx
open Go
variable {C : Nat → Codec}

/-- Everything is let in: in a round, or in none. -/
def FR : Option Nat → Fence
  | none => Fence.wide
  | some l => Fence.wide.inRound l
theorem FR_fn (r : Option Nat) (f : FuncId) : (FR r).fn f := by cases r <;> trivial
theorem FR_round (r : Option Nat) : (FR r).round = r := by cases r <;> rfl
theorem FR_depth (r : Option Nat) : (FR r).depth = none := by cases r <;> rfl
theorem FR_room (r : Option Nat) (n : Nat) : (FR r).room n := by intro d h; rw [FR_depth] at h; cases h
theorem FR_fenced (P : Program) (r : Option Nat) : Machine.fenced P (FR r) = Machine.fenced P Fence.wide := by cases r <;> rfl
theorem callsFR {r : Option Nat} {n : Nat} {P : Program} {f : FuncId} {args : Array Value} {w : World} {R : Ending → World → Prop} (h : Calls P f args w R) : CallsIn (FR r) n P f args w R := by
  cases r with
  | none => exact callsIn_wide.2 h
  | some l => exact (callsIn_wide (n := n)).2 h
theorem rowsFR {r : Option Nat} {n : Nat} {P : Program} {row : String} {args : Array Value} {w : World} {R : Value → World → Prop} (h : Rows P row args w R) : RowsIn (FR r) n P row args w R := by
  intro c cs _
  obtain ⟨v, w', hr, hs⟩ := h c cs
  exact ⟨v, w', hr, by rw [FR_fenced]; exact stepsIn_wide.2 hs⟩

/-- The same frame with these deferred calls behind its own. -/
def wa (a : Act) (ds : List Deferred) : Act := { a with defers := a.defers ++ ds }
theorem wa_eval (a : Act) (ds : List Deferred) : (wa a ds).eval = a.eval := by funext x; cases x <;> rfl
theorem wa_put (a : Act) (ds : List Deferred) (dst : Option Tmp) (v : Value) : (wa a ds).put dst v = wa (a.put dst v) ds := by cases dst <;> rfl
def liftN (ds : List Deferred) (K : Act → World → Prop) (a : Act) (w : World) : Prop := ∃ b, K b w ∧ a = wa b ds
def liftQ (ds : List Deferred) (Q : Exit → Act → World → Prop) (e : Exit) (a : Act) (w : World) : Prop := ∃ b, Q e b w ∧ a = wa b ds

def isDefer : Op → Bool
  | .defer _ => true
  | _ => false
def noDefer : List Oper → Bool
  | [] => true
  | o :: r => match isDefer o.op with
    | true => false
    | false => noDefer r
theorem noDefer_ok : ∀ {l : List Oper}, noDefer l = true → ∀ o ∈ l, ∀ c, o.op ≠ .defer c
  | [], _, o, ho => by cases ho
  | x :: r, h, o, ho => by
    simp only [noDefer] at h
    split at h
    · cases h
    · rename_i hx
      rcases List.mem_cons.1 ho with rfl | ho
      · intro c hc; rw [hc] at hx; cases hx
      · exact noDefer_ok h o ho

theorem wpIn_of_wp {P : Program} {r : Option Nat} {n : Nat} {o : Oper} (hnd : ∀ c, o.op ≠ .defer c) {a : Act} {w : World} {ds : List Deferred} {next : Act → World → Prop} {Q Q' : Exit → Act → World → Prop} (h : o.wp P a w next Q) (hQ : ∀ e b w, Q e b w → Q' e (wa b ds) w) :
    o.wpIn (FR r) n P (wa a ds) w (liftN ds next) Q' := by
  refine ⟨fun f _ => FR_fn r f, ?_⟩
  rw [wa_eval, Oper.semAt_eq _ _ _ hnd]
  unfold Oper.wp at h
  generalize (execOp a.eval o).run P w = res at h
  have hd : ∀ {p : Prop}, (FR r).depth.isSome = true → p := fun h => by rw [FR_depth] at h; cases h
  cases res with
  | ok nx w' =>
    cases nx with
    | value v => exact ⟨_, h, wa_put a ds _ _⟩
    | skip => exact ⟨_, h, wa_put a ds _ _⟩
    | defer d =>
      refine ⟨_, h, ?_⟩
      show ({ wa a ds with defers := d :: (a.defers ++ ds) } : Act).put o.dst undef = _
      cases o.dst <;> rfl
    | enter f args =>
      refine ⟨hd, (callsFR h).mono ?_⟩
      intro e w'' he
      cases e with
      | returned v => exact ⟨_, he, wa_put a ds _ _⟩
      | panicked c => exact hQ _ _ _ he
      | outgrown => obtain ⟨b, u, hb⟩ := he; exact ⟨wa b ds, u, hQ _ _ _ hb⟩
    | row row args => exact ⟨hd, (rowsFR h).mono fun v w'' he => ⟨_, he, wa_put a ds _ _⟩⟩
    | _ => exact h.elim
  | halt x w' =>
    cases x with
    | panic v => exact hQ _ _ _ h
    | _ => exact h.elim

/-- Out of the law for a region that draws. -/
theorem wpAnyIn_of {P : Program} {r : Option Nat} {n : Nat} {md : Region.Mode} {ops : Array Oper} (hnd : ∀ (i : Nat) (o : Oper), ops[i]? = some o → ∀ c, o.op ≠ .defer c) {ds : List Deferred} {Q : Exit → Act → World → Prop} (hQ : ∀ a w, ¬ Q .outgrown a w) :
    ∀ (fuel : Nat) (listed : Array Bool) (a : Act) (w : World), wpAny P md ops Q fuel listed a w → wpAnyIn (FR r) n P md ops (liftQ ds Q) fuel listed (wa a ds) w
  | 0, listed, a, w, h => ⟨h.1, a, h.2, rfl⟩
  | fuel + 1, listed, a, w, h => by
    refine ⟨fun h0 => ⟨a, h.1 h0, rfl⟩, fun i hi => ?_⟩
    have h1 := h.2 i hi
    unfold wpOp at h1
    unfold wpOpIn
    cases ho : ops[i]? with
    | none => rw [ho] at h1; exact wpAnyIn_of hnd hQ fuel _ a w h1
    | some o =>
      rw [ho] at h1
      simp only at h1 ⊢
      have ht : (wa a ds).tmps = a.tmps := rfl
      rw [ht]
      split
      · rename_i hw
        rw [if_pos hw] at h1
        rcases h1 with h1 | ⟨_, b, u, hb⟩
        · refine Oper.wpIn_mono ?_ (wpIn_of_wp (hnd i o ho) h1 fun e b w hb => ⟨b, hb, rfl⟩)
          rintro a' w' ⟨b, hb, rfl⟩
          exact wpAnyIn_of hnd hQ fuel _ b w' hb
        · exact (hQ _ _ hb).elim
      · rename_i hw
        rw [if_neg hw] at h1
        refine ⟨fun f _ => FR_fn r f, ?_⟩
        rw [wa_put]
        exact wpAnyIn_of hnd hQ fuel _ _ w h1
end Go.Vx
