/-
  The symbolic evaluator, twentieth part: the walk of a frame with marks among its deferred calls, and of a frame of a round.
  The symbolic evaluator, twenty-first part: the walk of a frame that calls yield, that is a round's, or that ranges over a function.
  The symbolic evaluator, twenty-second part: a range over a function, its iterator and its rounds gone through in one walk.
  Round 20: TablePlays: its states.
  Round 20: TablePlays: what its states give.
  Conditions: none.
-/
import Derived.Test.YtgbgfdmhmahonaaDoorM3
import Derived.Test.YtgbgfdmhmahonaaDoorM5
import Derived.Test.YtgbgfdmhmahonaaDoorM6
import Derived.Test.YtgbgfdmhmahonaaDoorM8
import Derived.RangeFuncRecord
import Derived.OrdersIn
import Derived.TacticsIn
namespace Go.Vx
open Go
variable {C : Nat → Codec}

/-- Everything is let in: in a round, or in none. -/
def FR : Option Nat → Fence
  | none => Fence.wide
  | some l => Fence.wide.inRound l
theorem FR_fn (r : Option Nat) (f : FuncId) : (FR r).fn f := by cases r <;> trivial
theorem FR_round (r : Option Nat) : (FR r).round = r := by cases r <;> rfl
theorem FR_depth (r : Option Nat) : (FR r).depth = none := by cases r <;> rfl
theorem FR_room (r : Option Nat) (n : Nat) : (FR r).room n := by intro d h; rw [FR_depth] at h; cases h
theorem FR_fenced (P : Program) (r : Option Nat) : Machine.fenced P (FR r) = Machine.fenced P Fence.wide := by cases r <;> rfl
theorem callsFR {r : Option Nat} {n : Nat} {P : Program} {f : FuncId} {args : Array Value} {w : World} {R : Ending → World → Prop} (h : Calls P f args w R) : CallsIn (FR r) n P f args w R := by
  cases r with
  | none => exact callsIn_wide.2 h
  | some l => exact (callsIn_wide (n := n)).2 h
theorem rowsFR {r : Option Nat} {n : Nat} {P : Program} {row : String} {args : Array Value} {w : World} {R : Value → World → Prop} (h : Rows P row args w R) : RowsIn (FR r) n P row args w R := by
  intro c cs _
  obtain ⟨v, w', hr, hs⟩ := h c cs
  exact ⟨v, w', hr, by rw [FR_fenced]; exact stepsIn_wide.2 hs⟩

/-- The same frame with these deferred calls behind its own. -/
def wa (a : Act) (ds : List Deferred) : Act := { a with defers := a.defers ++ ds }
theorem wa_eval (a : Act) (ds : List Deferred) : (wa a ds).eval = a.eval := by funext x; cases x <;> rfl
theorem wa_put (a : Act) (ds : List Deferred) (dst : Option Tmp) (v : Value) : (wa a ds).put dst v = wa (a.put dst v) ds := by cases dst <;> rfl
def liftN (ds : List Deferred) (K : Act → World → Prop) (a : Act) (w : World) : Prop := ∃ b, K b w ∧ a = wa b ds
def liftQ (ds : List Deferred) (Q : Exit → Act → World → Prop) (e : Exit) (a : Act) (w : World) : Prop := ∃ b, Q e b w ∧ a = wa b ds

def isDefer : Op → Bool
  | .defer _ => true
  | _ => false
def noDefer : List Oper → Bool
  | [] => true
  | o :: r => match isDefer o.op with
    | true => false
    | false => noDefer r
theorem noDefer_ok : ∀ {l : List Oper}, noDefer l = true → ∀ o ∈ l, ∀ c, o.op ≠ .defer c
  | [], _, o, ho => by cases ho
  | x :: r, h, o, ho => by
    simp only [noDefer] at h
    split at h
    · cases h
    · rename_i hx
      rcases List.mem_cons.1 ho with rfl | ho
      · intro c hc; rw [hc] at hx; cases hx
      · exact noDefer_ok h o ho

theorem wpIn_of_wp {P : Program} {r : Option Nat} {n : Nat} {o : Oper} (hnd : ∀ c, o.op ≠ .defer c) {a : Act} {w : World} {ds : List Deferred} {next : Act → World → Prop} {Q Q' : Exit → Act → World → Prop} (h : o.wp P a w next Q) (hQ : ∀ e b w, Q e b w → Q' e (wa b ds) w) :
    o.wpIn (FR r) n P (wa a ds) w (liftN ds next) Q' := by
  refine ⟨fun f _ => FR_fn r f, ?_⟩
  rw [wa_eval, Oper.semAt_eq _ _ _ hnd]
  unfold Oper.wp at h
  generalize (execOp a.eval o).run P w = res at h
  have hd : ∀ {p : Prop}, (FR r).depth.isSome = true → p := fun h => by rw [FR_depth] at h; cases h
  cases res with
  | ok nx w' =>
    cases nx with
    | value v => exact ⟨_, h, wa_put a ds _ _⟩
    | skip => exact ⟨_, h, wa_put a ds _ _⟩
    | defer d =>
      refine ⟨_, h, ?_⟩
      show ({ wa a ds with defers := d :: (a.defers ++ ds) } : Act).put o.dst undef = _
      cases o.dst <;> rfl
    | enter f args =>
      refine ⟨hd, (callsFR h).mono ?_⟩
      intro e w'' he
      cases e with
      | returned v => exact ⟨_, he, wa_put a ds _ _⟩
      | panicked c => exact hQ _ _ _ he
      | outgrown => obtain ⟨b, u, hb⟩ := he; exact ⟨wa b ds, u, hQ _ _ _ hb⟩
    | row row args => exact ⟨hd, (rowsFR h).mono fun v w'' he => ⟨_, he, wa_put a ds _ _⟩⟩
    | _ => exact h.elim
  | halt x w' =>
    cases x with
    | panic v => exact hQ _ _ _ h
    | _ => exact h.elim

/-- Out of the law for a region that draws. -/
theorem wpAnyIn_of {P : Program} {r : Option Nat} {n : Nat} {md : Region.Mode} {ops : Array Oper} (hnd : ∀ (i : Nat) (o : Oper), ops[i]? = some o → ∀ c, o.op ≠ .defer c) {ds : List Deferred} {Q : Exit → Act → World → Prop} (hQ : ∀ a w, ¬ Q .outgrown a w) :
    ∀ (fuel : Nat) (listed : Array Bool) (a : Act) (w : World), wpAny P md ops Q fuel listed a w → wpAnyIn (FR r) n P md ops (liftQ ds Q) fuel listed (wa a ds) w
  | 0, listed, a, w, h => ⟨h.1, a, h.2, rfl⟩
  | fuel + 1, listed, a, w, h => by
    refine ⟨fun h0 => ⟨a, h.1 h0, rfl⟩, fun i hi => ?_⟩
    have h1 := h.2 i hi
    unfold wpOp at h1
    unfold wpOpIn
    cases ho : ops[i]? with
    | none => rw [ho] at h1; exact wpAnyIn_of hnd hQ fuel _ a w h1
    | some o =>
      rw [ho] at h1
      simp only at h1 ⊢
      have ht : (wa a ds).tmps = a.tmps := rfl
      rw [ht]
      split
      · rename_i hw
        rw [if_pos hw] at h1
        rcases h1 with h1 | ⟨_, b, u, hb⟩
        · refine Oper.wpIn_mono ?_ (wpIn_of_wp (hnd i o ho) h1 fun e b w hb => ⟨b, hb, rfl⟩)
          rintro a' w' ⟨b, hb, rfl⟩
          exact wpAnyIn_of hnd hQ fuel _ b w' hb
        · exact (hQ _ _ hb).elim
      · rename_i hw
        rw [if_neg hw] at h1
        refine ⟨fun f _ => FR_fn r f, ?_⟩
        rw [wa_put]
        exact wpAnyIn_of hnd hQ fuel _ _ w h1
end Go.Vx
set_option linter.unusedVariables false
namespace Go.Vx
open Go
variable {C : Nat → Codec}

theorem draw_any {P : Program} {S : Sx} {w0 w : World} {E : Env P C} {ops : Array Oper} {Q : Act → World → Prop} {tm : Tm} {m : List (Ck C)} {K : Tm → List (Ck C) → Tr} {a : Act}
    {F : List Nat} {pl : PTree} (hp : planned ops pl = true) (hin : inMem F m) (hs : splan E ops F m pl tm m K) (h : ActOK (ads m) E.n tm a) (hm : MemOK S w0 w m)
    (hq : ∀ tm' m' a' w', K tm' m' → ActOK (ads m') E.n tm' a' → MemOK S w0 w' m' → (m.length ≤ m'.length ∧ ∀ k, k < m.length → ads m k = ads m' k) → Q a' w') :
    wpAny P .any ops (fun e a w => match e with | .normal => Q a w | _ => False) ops.size (Array.replicate ops.size false) a { w with drawn := w.drawn + 1 } := by
  unfold planned at hp
  simp only [Bool.and_eq_true] at hp
  obtain ⟨⟨h1, h2⟩, h3⟩ := hp
  have h3 := Nat.eq_of_beq_eq_true h3
  have hm0 : memLt m.length m = true := by
    unfold inMem at hin
    split at hin
    · rename_i hc; exact (Bool.and_eq_true_iff.1 hc).1
    · exact hin.elim
  have := splan_ok (S := S) (w0 := w0) hm0 (Q := fun e a w => match e with | .normal => Q a w | _ => False) (fun c a w hc => hc) (L := lates pl) (F0 := F) h1 pl false F _ tm m K a (by simp) h2 hs h hm.glob (fun _ _ => rfl) (Nat.le_refl _) (fun _ _ => rfl) rfl (fun tm' m' a' w' hk h' hm' hg => hq _ _ _ _ hk h' hm' hg)
  rw [h3] at this
  exact wpAT_any _ _ _ _ (Hy_sound _ _ _ _ (fun l w _ hm => ⟨.inr (Stay.of hm hm0 (fun _ _ => rfl) (fun _ _ => rfl)), Stay.none hm⟩) this hm.drew)

/-- The chunks' places that must stay. -/
def FixOK (A0 : Nat → Ad) (fx : List Nat) (m : List (Ck C)) : Prop := ∀ c ∈ fx, c < m.length ∧ ads m c = A0 c
theorem FixOK.grow {A0 : Nat → Ad} {fx : List Nat} {m m' : List (Ck C)} (h : FixOK A0 fx m) (hl : m.length ≤ m'.length) (ha : ∀ k, k < m.length → ads m k = ads m' k) : FixOK A0 fx m' := by
  intro c hc
  obtain ⟨h1, h2⟩ := h c hc
  exact ⟨by omega, (ha c h1).symm.trans h2⟩
def fixB (ρ : List Nat) (n : Nat) : List Nat → Bool
  | [] => true
  | c :: r => Nat.beq (rn ρ c) c && Nat.blt c n && fixB ρ n r
theorem fixB_ok {ρ : List Nat} {n : Nat} : ∀ {fx : List Nat}, fixB ρ n fx = true → ∀ c ∈ fx, rn ρ c = c ∧ c < n
  | [], _, c, hc => by cases hc
  | x :: r, h, c, hc => by
    simp only [fixB, Bool.and_eq_true] at h
    rcases List.mem_cons.1 hc with rfl | hc
    · exact ⟨Nat.eq_of_beq_eq_true h.1.1, by simpa using h.1.2⟩
    · exact fixB_ok h.2 c hc

mutual
/-- The chunks that a value names. -/
def SV.nm : SV → List Nat
  | .ptr c _ _ => [c]
  | .sl c _ _ _ => [c]
  | .mp c => [c]
  | .agg vs => SV.nms vs
  | .tup vs => SV.nms vs
  | .ifc _ v => SV.nm v
  | .fn _ a b => SV.nms a ++ SV.nms b
  | .cnd _ v => SV.nm v
  | _ => []
def SV.nms : List SV → List Nat
  | [] => []
  | v :: r => SV.nm v ++ SV.nms r
end
mutual
theorem SV.va_nm {ad ad' : Nat → Ad} : ∀ v : SV, (∀ c ∈ v.nm, ad c = ad' c) → SV.va ad v = SV.va ad' v
  | .junk, _ | .undef, _ | .int _ _, _ | .bool _, _ | .nilp, _ | .nils, _ | .nili, _ | .nilf, _ | .gp _, _ | .val _, _ => by simp [SV.va]
  | .ptr c i f, h => by simp [SV.va, h c (by simp [SV.nm])]
  | .sl c i f m, h => by simp [SV.va, h c (by simp [SV.nm])]
  | .mp c, h => by simp [SV.va, h c (by simp [SV.nm])]
  | .agg vs, h => by simp [SV.va, SV.vas_nm vs (by simpa [SV.nm] using h)]
  | .tup vs, h => by simp [SV.va, SV.vas_nm vs (by simpa [SV.nm] using h)]
  | .ifc t v, h => by simp [SV.va, SV.va_nm v (by simpa [SV.nm] using h)]
  | .fn f a b, h => by
    simp only [SV.nm, List.mem_append] at h
    simp [SV.va, SV.vas_nm a (fun c hc => h c (.inl hc)), SV.vas_nm b (fun c hc => h c (.inr hc))]
  | .cnd cs v, h => by simp [SV.va, SV.va_nm v (by simpa [SV.nm] using h)]
theorem SV.vas_nm {ad ad' : Nat → Ad} : ∀ vs : List SV, (∀ c ∈ SV.nms vs, ad c = ad' c) → SV.vas ad vs = SV.vas ad' vs
  | [], _ => rfl
  | v :: r, h => by
    simp only [SV.nms, List.mem_append] at h
    simp [SV.vas, SV.va_nm v (fun c hc => h c (.inl hc)), SV.vas_nm r (fun c hc => h c (.inr hc))]
end
def tmNm : Tm → List Nat
  | [] => []
  | (_, v) :: r => SV.nm v ++ tmNm r
theorem tmNm_get : ∀ {tm : Tm} {t c : Nat}, c ∈ (get tm t).nm → c ∈ tmNm tm
  | [], t, c, h => by simp [get, SV.nm] at h
  | (k, v) :: r, t, c, h => by
    rw [get_put] at h
    simp only [tmNm, List.mem_append]
    split at h
    · exact .inl h
    · exact .inr (tmNm_get h)
theorem ActOK.fixed {ad ad' : Nat → Ad} {n : Nat} {tm : Tm} {a : Act} (h : ActOK ad n tm a) (he : ∀ c ∈ tmNm tm, ad c = ad' c) : ActOK ad' n tm a := by
  refine ⟨h.defers, h.size, fun t => ?_, h.inv⟩
  rcases h.tmps t with h1 | h1
  · exact .inl h1
  · right; rw [h1, SV.va_nm _ (fun c hc => he c (tmNm_get hc))]

def subRx (fx : List Nat) (tm : Tm) (m : List (Ck C)) (tm' : Tm) (m' : List (Ck C)) (ρ : List Nat) : Tr :=
  match fixB ρ m'.length fx with
  | false => .no
  | true => subR tm m tm' m' ρ
/-- 'subP', and these chunks keep their names. -/
def subPx (fx : List Nat) (tm : Tm) (m : List (Ck C)) (tm' : Tm) (m' : List (Ck C)) (acc : List (Nat × Nat)) : Tr :=
  fP acc fun acc => unifMemK m 0 m' acc fun A => fNames (namesOf A 0 m') fun ρ => subRx fx tm m tm' m' ρ
theorem subPx_ok {S : Sx} {w0 w : World} {n : Nat} {fx : List Nat} {A0 : Nat → Ad} {tm tm' : Tm} {m m' : List (Ck C)} {acc : List (Nat × Nat)} (h : subPx fx tm m tm' m' acc) {a : Act} (ha : ActOK (ads m) n tm a) (hm : MemOK S w0 w m) (hx : FixOK A0 fx m) :
    ActOK (ads m') n tm' a ∧ MemOK S w0 w m' ∧ FixOK A0 fx m' := by
  unfold subPx at h
  rw [fP_eq, unifMemK_eq, fNames_eq] at h
  unfold subRx at h
  split at h
  · exact h.elim
  rename_i hf
  have hP : (subP tm m tm' m' acc).holds := by rw [subP_eq]; exact h
  obtain ⟨h1, h2⟩ := subP_ok hP ha hm
  refine ⟨h1, h2, fun c hc => ?_⟩
  obtain ⟨hr, hl⟩ := fixB_ok hf c hc
  refine ⟨hl, ?_⟩
  -- the places
  unfold subR at h
  split at h <;> try (first | contradiction | exact False.elim h)
  split at h <;> try (first | contradiction | exact False.elim h)
  rename_i ps qs hps hqs
  obtain ⟨hps', _⟩ := (allOf_append _ _).1 (allLf_ok h)
  obtain ⟨_, hk⟩ := cksEq_ok hps hps'
  obtain ⟨_, qs', h3, h4⟩ := hk c hl
  have he := ckEq_ok h3 h4
  have := (hx c hc).2
  rw [← this, ← congrArg (ads m) hr]
  simp [ads, Ck.ad, he.block, he.base, he.sz]

/-- A jump that a round has left. -/
abbrev PJ := Option Ex
/-- How a call of yield is gone through: what is handed, the caller's slots, the chunks. -/
abbrev Yf (C : Nat → Codec) := List SV → Tm → List (Ck C) → (Bool → PJ → List (Ck C) → Tr) → Tr
/-- How a range over a function is gone through. -/
abbrev Rf (C : Nat → Codec) := Operand → Array Tmp → Code → Code → Tm → List (Ck C) → (Ex → Tm → List (Ck C) → Tr) → Tr

/-- A call of yield that no guard stands ahead of. -/
def yieldOf (tm : Tm) (m : List (Ck C)) (o : Oper) : Option (Nat × List SV) :=
  match o.guard with
  | some _ => none
  | none => match o.op with
    | .call c => match c.callee with
      | .value f => match ev tm m [] f, optAll (ev tm m []) c.args.toList with
        | some (.fn (.yield l) [] []), some az => some (l, az)
        | _, _ => none
      | _ => none
    | _ => none

def stepY {P : Program} (E : Env P C) (Y : Option (Nat × Yf C)) (ops : Array Oper) (o : Oper) (pj : PJ) (tm : Tm) (m : List (Ck C)) (K : PJ → Tm → List (Ck C) → Tr) : Tr :=
  match Y with
  | none => stepP E ops o tm m (K pj)
  | some (l, go) => match yieldOf tm m o with
    | none => stepP E ops o tm m (K pj)
    | some (l', az) => match pj with
      | some _ => .no
      | none => .and (.lf (l' = l)) (go az tm m fun b pj' m' => match put? E.n tm o.dst [] (.bool (SB.lit b)) with
        | some tm' => K pj' tm' m'
        | none => .no)

def sopsG {P : Program} (E : Env P C) (Y : Option (Nat × Yf C)) (ops : Array Oper) : List Oper → PJ → Tm → List (Ck C) → (PJ → Tm → List (Ck C) → Tr) → Tr
  | [], pj, tm, m, K => K pj tm m
  | o :: r, pj, tm, m, K => stepY E Y ops o pj tm m fun pj' tm' m' => fTm1 tm' fun tm' => fM m' fun m' => sopsG E Y ops r pj' tm' m' K

/-- Where things stand: which objects lie where, by the jump that is left and the marks. -/
structure Gs where
  r : Option Nat
  Sp : PJ → List Nat → Sx
  w0 : World
  dm : List Nat → List Deferred
  A0 : Nat → Ad
  fx : List Nat

/-- A call of yield is gone through rightly. -/
def YOK (P : Program) (G : Gs) (Y : Option (Nat × Yf C)) : Prop :=
  ∀ l go, Y = some (l, go) → ∀ az tm (m : List (Ck C)) Kc w ds R, (go az tm m Kc : Tr).holds → MemOK (G.Sp none ds) G.w0 w m → FixOK G.A0 G.fx m →
    (∀ b pj m' w', (Kc b pj m').holds → MemOK (G.Sp pj ds) G.w0 w' m' → FixOK G.A0 G.fx m' → (∀ c ∈ tmNm tm, c < m'.length ∧ ads m' c = ads m c) → R (.returned (.bool b)) w') →
    ∃ fn tmps assign body, (Instr.yield l (SV.vas (ads m) az).toArray).run P w = .ok (.round l fn tmps assign body) w ∧ RoundIn (FR G.r) 0 P l fn tmps assign body w R
/-- A range over a function is gone through rightly. -/
def ROK (P : Program) (n : Nat) (G : Gs) (RF : Rf C) : Prop :=
  ∀ g ps az bd tm (m : List (Ck C)) K a w (Q : Exit → Act → World → Prop) ds, (RF g ps az bd tm m K).holds → ActOK (ads m) n tm a → MemOK (G.Sp none ds) G.w0 w m → FixOK G.A0 G.fx m →
    (∀ e tm' m' a' w' ds', (K e tm' m').holds → ActOK (ads m') n tm' a' → MemOK (G.Sp none ds') G.w0 w' m' → FixOK G.A0 G.fx m' → Q (Ex.of e) (wa a' (G.dm ds')) w') → (Code.rangeFunc g ps az bd).wpIn (FR G.r) 0 P Q (wa a (G.dm ds)) w

theorem sopsG_ok {P : Program} {G : Gs} {E : Env P C} {Y : Option (Nat × Yf C)} (hY : YOK P G Y) {ops : Array Oper} {ds : List Nat} {Q : Exit → Act → World → Prop} : ∀ {l : List Oper} (hnd : ∀ o ∈ l, ∀ c, o.op ≠ .defer c) {pj : PJ} {tm : Tm} {m : List (Ck C)} {K : PJ → Tm → List (Ck C) → Tr} {a : Act} {w : World},
    (sopsG E Y ops l pj tm m K).holds → ActOK (ads m) E.n tm a → MemOK (G.Sp pj ds) G.w0 w m → FixOK G.A0 G.fx m →
    (∀ pj' tm' m' a' w', (K pj' tm' m').holds → ActOK (ads m') E.n tm' a' → MemOK (G.Sp pj' ds) G.w0 w' m' → FixOK G.A0 G.fx m' → Q .normal (wa a' (G.dm ds)) w') → wpListIn (FR G.r) 0 P ops Q l (wa a (G.dm ds)) w
  | [], _, pj, tm, m, K, a, w, hs, h, hm, hx, hq => hq _ _ _ _ _ hs h hm hx
  | o :: r, hnd, pj, tm, m, K, a, w, hs, h, hm, hx, hq => by
    have hndr : ∀ o ∈ r, ∀ c, o.op ≠ .defer c := fun o ho => hnd o (List.mem_cons_of_mem _ ho)
    have ht : (wa a (G.dm ds)).tmps = a.tmps := rfl
    have plain : stepP E ops o tm m (fun tm' m' => fTm1 tm' fun tm' => fM m' fun m' => sopsG E Y ops r pj tm' m' K) → wpListIn (FR G.r) 0 P ops Q (o :: r) (wa a (G.dm ds)) w := by
      intro hs
      obtain ⟨h1, h2⟩ := stepP_ok (Q := fun _ _ _ => False) (next := fun a' w' => wpListIn (FR G.r) 0 P ops Q r (wa a' (G.dm ds)) w') hs h hm (fun tm' m' a' w' hk h' hm' hads => by
        simp only [fTm1_eq, fM_eq] at hk
        exact sopsG_ok hY hndr hk h' hm' (hx.grow hads.1 hads.2) hq)
      unfold wpListIn
      rw [ht]
      split
      · rename_i hw
        refine Oper.wpIn_mono ?_ (wpIn_of_wp (r := G.r) (n := 0) (ds := G.dm ds) (hnd o (List.mem_cons_self ..)) (h1 hw) fun e b w hb => hb.elim)
        rintro a' w' ⟨b, hb, rfl⟩; exact hb
      · rename_i hw
        refine ⟨fun f _ => FR_fn _ f, ?_⟩
        rw [wa_put]
        exact h2 (by simpa using hw)
    simp only [sopsG] at hs
    unfold stepY at hs
    split at hs
    · exact plain hs
    · rename_i l go
      split at hs
      · exact plain hs
      · rename_i l' az hyo
        split at hs
        · exact hs.elim
        obtain ⟨hl, hs⟩ := hs
        have hl : l' = l := hl
        subst hl
        -- the call
        unfold yieldOf at hyo
        split at hyo <;> try contradiction
        rename_i hg
        split at hyo <;> try contradiction
        rename_i c hop
        split at hyo <;> try contradiction
        rename_i fo hcal
        split at hyo <;> try contradiction
        rename_i l2 as2 hf has
        simp only [Option.some.injEq, Prod.mk.injEq] at hyo
        obtain ⟨rfl, rfl⟩ := hyo
        have hnil : AlOK tm [] := by intro p hp; cases hp
        have ef := ev_ok h hm.glob hnil _ _ hf
        have eas := optAll_ok (g := SV.va (ads m)) (ev_ok h hm.glob hnil) has
        unfold wpListIn
        rw [ht, if_pos (by simp [Region.wanted, hg])]
        refine ⟨fun f _ => FR_fn _ f, ?_⟩
        rw [wa_eval, Oper.semAt_eq _ _ _ (hnd o (List.mem_cons_self ..))]
        obtain ⟨fn, tmps, assign, body, hy, hR⟩ := hY _ _ rfl as2 tm m _ w ds (fun e w'' => match e with
            | .returned v => wpListIn (FR G.r) 0 P ops Q r ((wa a (G.dm ds)).put o.dst v) w''
            | _ => False) hs hm hx (by
          intro b pj' m' w' hk hm' hx' hfx
          split at hk
          · rename_i tm' hp
            show wpListIn (FR G.r) 0 P ops Q r ((wa a (G.dm ds)).put o.dst (.bool b)) w'
            rw [wa_put]
            have hA : ActOK (ads m') E.n tm a := h.fixed (fun c hc => ((hfx c hc).2).symm)
            have hA' := put_ok hA hp (by simp) (.bool b) (by simp [mkc, SV.va, SB.val_lit])
            simp only [fTm1_eq, fM_eq] at hk
            exact sopsG_ok hY hndr hk hA' hm' hx' hq
          · exact hk.elim)
        have hexec : (execOp a.eval o).run P w = .ok (.round l2 fn tmps assign body) w := by
          have hargs : c.args.map a.eval = (SV.vas (ads m) as2).toArray := by
            apply Array.ext'
            simp [SV.vas_eq, eas]
          obtain ⟨dst, op, type, pos, after, guard⟩ := o
          simp only at hop
          subst hop
          obtain ⟨callee, args, argTypes⟩ := c
          simp only at hcal
          subst hcal
          simp only at hargs
          simp only [execOp, resolve, ef, SV.va, SV.vas, hargs, Deferred.ofValue]
          simp [invoke, hy]
        rw [hexec]
        refine ⟨fun hd => (by rw [FR_depth] at hd; cases hd), hR.mono ?_⟩
        intro e w'' he
        cases e with
        | returned v => exact he
        | panicked _ => exact he.elim
        | outgrown => exact he.elim


def sregG {P : Program} (E : Env P C) (Y : Option (Nat × Yf C)) (id : Nat) (ops : Array Oper) (draw : Bool) (pj : PJ) (tm : Tm) (m : List (Ck C)) (K : PJ → Tm → List (Ck C) → Tr) : Tr :=
  match noDefer ops.toList with
  | false => .no
  | true => match draw with
    | false => sopsG E Y ops ops.toList pj tm m K
    | true => match findPlan id E.plans with
      | none => .and (.lf (Region.lexB .any ops = true)) (sopsQ E ops m ops.toList tm fun tm' => K pj tm' m)
      | some (F, pl) => .and (.lf (planned ops pl = true)) (.and (inMem F m) (splan E ops F m pl tm m (K pj)))

/-- A piece of code, in a frame that may call yield. -/
def sexecG {P : Program} (E : Env P C) (L : List (Inv' C)) (fx : List Nat) (Y : Option (Nat × Yf C)) (RF : Rf C) : Code → PJ → Tm → List (Ck C) → (Ex → PJ → Tm → List (Ck C) → Tr) → Tr
  | .skip, pj, tm, m, K => K .nor pj tm m
  | .region id ops draw, pj, tm, m, K => sregG E Y id ops draw pj tm m fun pj' tm' m' => K .nor pj' tm' m'
  | .seq a b, pj, tm, m, K => match findJ b L with
    | [] => sexecG E L fx Y RF a pj tm m fun e pj' tm' m' => match e with
      | .nor => sexecG E L fx Y RF b pj' tm' m' K
      | e => K e pj' tm' m'
    | I0 :: Ir => match pj with
      | some _ => .no
      | none => fL (I0 :: Ir) fun Is => fLN (writes a) fun ws =>
        .and (sexecG E L fx Y RF a none tm m fun e pj' tm' m' => match e with
          | .nor => match pj' with
            | some _ => .no
            | none => Tr.lf (Stands Is fun I' x' => I'.inv x' ∧ (linked (noP (I'.mem x' m) m ++ linkP ws tm (I'.tm x')) (subPx fx tm' m' (I'.tm x' ++ keepTm (keysOf (I'.tm x') ++ ws) tm) (I'.mem x' m) (unifTm tm' (I'.tm x')))).holds)
          | e => K e pj' tm' m')
        (allI Is fun I => .all fun x => ifNo (linkNo ws tm (I.tm x)) (ifNo (notApp (I.mem x m) m) (.imp (I.inv x) (linkT (linkP ws tm (I.tm x)) (fTm (I.tm x ++ keepTm (keysOf (I.tm x) ++ ws) tm) fun tmL => fM (I.mem x m) fun mL => sexecG E L fx Y RF b none tmL mL K)))))
  | .cond c x y, pj, tm, m, K => match ev tm m [] c with
    | some (.bool .t) => sexecG E L fx Y RF x pj tm m K
    | some (.bool .f) => sexecG E L fx Y RF y pj tm m K
    | some (.bool (.tm b)) => .and (.imp (b = true) (sexecG E L fx Y RF x pj tm m K)) (.imp (b = false) (sexecG E L fx Y RF y pj tm m K))
    | _ => .no
  | .block id c, pj, tm, m, K => sexecG E L fx Y RF c pj tm m fun e pj' tm' m' => match e with
    | .exit i => match Nat.beq i id with
      | true => K .nor pj' tm' m'
      | false => K (.exit i) pj' tm' m'
    | e => K e pj' tm' m'
  | .loop c, pj, tm, m, K => match pj with
    | some _ => .no
    | none => fL (findInvs (firstId c) L) fun Is => fLN (writes c) fun ws =>
      .and (.lf (Stands Is fun I x0 => I.inv x0 ∧ (linked (noP (I.mem x0 m) m ++ linkP ws tm (I.tm x0)) (subPx fx tm m (I.tm x0 ++ keepTm (keysOf (I.tm x0) ++ ws) tm) (I.mem x0 m) (unifTm tm (I.tm x0)))).holds))
        (allI Is fun I => .all fun x => ifNo (linkNo ws tm (I.tm x)) (ifNo (notApp (I.mem x m) m) (.imp (I.inv x) (linkT (linkP ws tm (I.tm x)) (fTm (I.tm x ++ keepTm (keysOf (I.tm x) ++ ws) tm) fun tmL => fM (I.mem x m) fun mL => sexecG E L fx Y RF c none tmL mL fun e pj' tm' m' => match e with
          | .nor => match pj' with
            | some _ => .no
            | none => Tr.lf (Stands Is fun I' x' => I'.inv x' ∧ I'.meas x' < I.meas x ∧ (linked (noP (I'.mem x' m) m ++ linkP ws tm (I'.tm x')) (subPx fx tm' m' (I'.tm x' ++ keepTm (keysOf (I'.tm x') ++ ws) tm) (I'.mem x' m) (unifTm tm' (I'.tm x')))).holds)
          | e => K e pj' tm' m')))))
  | .exit id, pj, tm, m, K => K (.exit id) pj tm m
  | .ret, pj, tm, m, K => K .ret pj tm m
  | .rangeFunc g ps az bd, pj, tm, m, K => match pj with
    | some _ => .no
    | none => RF g ps az bd tm m fun e tm' m' => K e none tm' m'
  | _, _, _, _, _ => .no

theorem wpIn_loop' {F : Fence} {n : Nat} {P : Program} {Q : Exit → Act → World → Prop} {a : Act} {w : World} {c : Code} (I : Nat → Act → World → Prop) (k0 : Nat) (h₀ : I k0 a w)
    (round : ∀ k a w, I k a w → c.wpIn F n P (Exit.then (fun a' w' => ∃ k', k' < k ∧ I k' a' w') Q) a w) : (Code.loop c).wpIn F n P Q a w := by
  intro b k cs hro hb hr
  have key : ∀ j a w, I j a w → ∃ e a' w', Q e a' w' ∧ ArrivesIn (Machine.fenced P F) P (lone (b.atR a (.code c :: .inLoop c :: k)) cs w) b k cs e a' w' := by
    intro j
    induction j using Nat.strongRecOn with
    | _ j ih =>
      intro a w hI
      obtain ⟨e, a₁, w₁, hq, harr⟩ := round j a w hI b (.inLoop c :: k) cs hro hb hr
      cases e with
      | normal =>
        obtain ⟨j', hlt, hI₁⟩ := hq
        obtain ⟨e₂, a₂, w₂, hq₂, harr₂⟩ := ih j' hlt a₁ w₁ hI₁
        exact ⟨e₂, a₂, w₂, hq₂, .of_steps (StepsIn.trans harr (.one (fenced_calm hb hr rfl) stepR_inLoop)) harr₂⟩
      | exit id => exact ⟨_, a₁, w₁, hq, .pass (x := .inLoop c) rfl (fun _ _ => .inl (by simp)) harr⟩
      | goto l => exact ⟨_, a₁, w₁, hq, .pass (x := .inLoop c) rfl (fun _ _ => .inl (by simp)) harr⟩
      | ret => exact ⟨_, a₁, w₁, hq, .pass (x := .inLoop c) rfl (fun _ _ => .inl (by simp)) harr⟩
      | panic ch => exact ⟨_, a₁, w₁, hq, .pass (x := .inLoop c) rfl (fun _ _ => .inl (by simp)) harr⟩
      | outgrown => exact ⟨_, a₁, w₁, hq, .pass (x := .inLoop c) rfl (fun _ _ => .inl (by simp)) harr⟩
  obtain ⟨e, a', w', hq, harr⟩ := key k0 a w h₀
  exact ⟨e, a', w', hq, .of_steps (.one (fenced_calm hb hr rfl) stepR_loop) harr⟩

theorem sexecG_ok {P : Program} (hmix : P.follows .mixedOrders = true) {G : Gs} {E : Env P C} {L : List (Inv' C)} {Y : Option (Nat × Yf C)} {RF : Rf C} (hY : YOK P G Y) (hR : ROK P E.n G RF) :
    ∀ {c : Code} {pj : PJ} {tm : Tm} {m : List (Ck C)} {K : Ex → PJ → Tm → List (Ck C) → Tr} {a : Act} {w : World} {ds : List Nat} {Q : Exit → Act → World → Prop},
    (sexecG E L G.fx Y RF c pj tm m K).holds → ActOK (ads m) E.n tm a → MemOK (G.Sp pj ds) G.w0 w m → FixOK G.A0 G.fx m →
    (∀ e pj' tm' m' a' w' ds', (K e pj' tm' m').holds → ActOK (ads m') E.n tm' a' → MemOK (G.Sp pj' ds') G.w0 w' m' → FixOK G.A0 G.fx m' → Q (Ex.of e) (wa a' (G.dm ds')) w') → c.wpIn (FR G.r) 0 P Q (wa a (G.dm ds)) w := by
  intro c
  induction c with
  | skip => intro pj tm m K a w ds Q hs h hm hx hq; exact wpIn_skip (hq _ _ _ _ _ _ _ hs h hm hx)
  | region id ops draw =>
    intro pj tm m K a w ds Q hs h hm hx hq
    simp only [sexecG, sregG] at hs
    split at hs
    · exact hs.elim
    rename_i hnd
    have hnd' := noDefer_ok hnd
    cases draw with
    | false => exact wpIn_region_list (sopsG_ok hY hnd' hs h hm hx (fun pj' tm' m' a' w' hk h' hm' hx' => hq _ _ _ _ _ _ _ hk h' hm' hx'))
    | true =>
      have hndi : ∀ (i : Nat) (o : Oper), ops[i]? = some o → ∀ c, o.op ≠ .defer c := fun i o ho => hnd' o (by
        have := List.mem_of_getElem? (l := ops.toList) (i := i) (by simpa using ho)
        exact this)
      have fin : ∀ (Q0 : Act → World → Prop), (∀ a' w', Q0 a' w' → Q .normal (wa a' (G.dm ds)) w') →
          wpAny P .any ops (fun e a w => match e with | .normal => Q0 a w | _ => False) ops.size (Array.replicate ops.size false) a { w with drawn := w.drawn + 1 } → (Code.region id ops true).wpIn (FR G.r) 0 P Q (wa a (G.dm ds)) w := by
        intro Q0 h0 hA
        refine Go.wpIn_mono (wpIn_region_any hmix (wpAnyIn_of hndi (fun _ _ h => h) _ _ _ _ hA)) ?_
        rintro e a' w' ⟨b, hb, rfl⟩
        cases e with
        | normal => exact h0 _ _ hb
        | _ => exact hb.elim
      simp only at hs
      split at hs
      · obtain ⟨hB, hs⟩ := hs
        have hB' : Region.lexB .any ops = true := hB
        simp only [Region.lexB, Bool.and_eq_true] at hB'
        refine fin (fun a' w' => Q .normal (wa a' (G.dm ds)) w') (fun _ _ h => h) ?_
        refine wpAny_of_quiet (C := fun w => MemOK (G.Sp pj ds) G.w0 w m) (Q := fun a' => ∀ w', MemOK (G.Sp pj ds) G.w0 w' m → Q .normal (wa a' (G.dm ds)) w') (fun _ w' hw' h => h w' hw') _ _ _ _ hm.drew ?_
        have := wpAnyQ_lex (C := fun w => MemOK (G.Sp pj ds) G.w0 w m) (md := .any) hB'.1 ops.toList 0 (Array.replicate ops.size false) a (by simp) (by simpa using hB'.2)
          (sopsQ_ok (Q := fun a' => ∀ w', MemOK (G.Sp pj ds) G.w0 w' m → Q .normal (wa a' (G.dm ds)) w') hm.glob hs h (fun tm' a' hk h' w' hm' => hq _ _ _ _ _ _ _ hk h' hm' hx))
        simpa using this
      · exact fin (fun a' w' => ∃ tm' m', (K .nor pj tm' m').holds ∧ ActOK (ads m') E.n tm' a' ∧ MemOK (G.Sp pj ds) G.w0 w' m' ∧ FixOK G.A0 G.fx m')
          (fun a' w' ⟨tm', m', hk, h', hm', hx'⟩ => hq _ _ _ _ _ _ _ hk h' hm' hx') (by
            refine draw_any hs.1 hs.2.1 hs.2.2 h hm (fun tm' m' a' w' hk h' hm' hg => ⟨tm', m', hk, h', hm', hx.grow hg.1 hg.2⟩))
  | seq x y ihx ihy =>
    intro pj tm m K a w ds Q hs h hm hx hq
    simp only [sexecG] at hs
    split at hs
    · refine wpIn_seq (ihx hs h hm hx fun e pj' tm' m' a' w' ds' hk h' hm' hx' => ?_)
      cases e with
      | nor => exact ihy hk h' hm' hx' hq
      | exit i => exact hq _ _ _ _ _ _ _ hk h' hm' hx'
      | ret => exact hq _ _ _ _ _ _ _ hk h' hm' hx'
    · rename_i I0 Ir _
      split at hs
      · exact hs.elim
      simp only [fL_eq, fLN_eq] at hs
      obtain ⟨hs, hround⟩ := hs
      have hround := allI_ok hround
      refine wpIn_seq (ihx hs h hm hx fun e pj' tm' m' a' w' ds' hk h' hm' hx' => ?_)
      cases e with
      | nor =>
        simp only at hk
        split at hk
        · exact hk.elim
        obtain ⟨I, hI, x, hix, hs'⟩ := hk
        obtain ⟨hlx, hs'⟩ := linked_ok hs'
        obtain ⟨hna, hlx⟩ := noP_ok hlx
        obtain ⟨ha', hm'', hx''⟩ := subPx_ok hs' h' hm' hx'
        have hro := (ifNo_h (hround I hI x)).resolve_left (fun hno => linkNo_ok hno hlx)
        have hro := (ifNo_h hro).resolve_left (fun hno => by rw [hna] at hno; cases hno)
        have hro := linkT_ok (hro hix) hlx
        simp only [fTm_eq, fM_eq] at hro
        exact ihy hro ha' hm'' hx'' hq
      | exit i => exact hq _ _ _ _ _ _ _ hk h' hm' hx'
      | ret => exact hq _ _ _ _ _ _ _ hk h' hm' hx'
  | cond c x y ihx ihy =>
    intro pj tm m K a w ds Q hs h hm hx hq
    have hnil : AlOK tm [] := by intro p hp; cases hp
    simp only [sexecG] at hs
    split at hs <;> try (first | contradiction | exact False.elim hs)
    · rename_i hc
      exact wpIn_cond (t := true) (by rw [wa_eval]; exact ev_ok h hm.glob hnil _ _ hc) (ihx hs h hm hx hq)
    · rename_i hc
      exact wpIn_cond (t := false) (by rw [wa_eval]; exact ev_ok h hm.glob hnil _ _ hc) (ihy hs h hm hx hq)
    · rename_i b hc
      cases b with
      | true => exact wpIn_cond (t := true) (by rw [wa_eval]; exact ev_ok h hm.glob hnil _ _ hc) (ihx (hs.1 rfl) h hm hx hq)
      | false => exact wpIn_cond (t := false) (by rw [wa_eval]; exact ev_ok h hm.glob hnil _ _ hc) (ihy (hs.2 rfl) h hm hx hq)
  | block id c ih =>
    intro pj tm m K a w ds Q hs h hm hx hq
    refine wpIn_block (ih hs h hm hx fun e pj' tm' m' a' w' ds' hk h' hm' hx' => ?_)
    cases e with
    | nor => exact hq _ _ _ _ _ _ _ hk h' hm' hx'
    | exit i =>
      simp only [Ex.of, Exit.inBlock]
      simp only at hk
      split at hk
      · rename_i hb
        rw [if_pos (Nat.eq_of_beq_eq_true hb)]
        exact hq _ _ _ _ _ _ _ hk h' hm' hx'
      · rename_i hb
        rw [if_neg (Nat.ne_of_beq_eq_false hb)]
        exact hq _ _ _ _ _ _ _ hk h' hm' hx'
    | ret => exact hq _ _ _ _ _ _ _ hk h' hm' hx'
  | loop c ih =>
    intro pj tm m K a w ds Q hs h hm hx hq
    simp only [sexecG, fL_eq, fLN_eq] at hs
    split at hs
    · exact hs.elim
    obtain ⟨⟨I0, hI0, x0, hi0, hs0⟩, hround⟩ := hs
    have hround := allI_ok hround
    obtain ⟨hl0, hs0⟩ := linked_ok hs0
    obtain ⟨hn0, hl0⟩ := noP_ok hl0
    obtain ⟨ha0, hm0, hx0⟩ := subPx_ok hs0 h hm hx
    refine wpIn_loop' (fun n a w => ∃ I ∈ findInvs (firstId c) L, ∃ x, ∃ b ds, a = wa b (G.dm ds) ∧ (I.inv x ∧ notApp (I.mem x m) m = false ∧ allOf (linkP (writes c) tm (I.tm x))) ∧ I.meas x = n ∧ ActOK (ads (I.mem x m)) E.n (I.tm x ++ keepTm (keysOf (I.tm x) ++ writes c) tm) b ∧ MemOK (G.Sp none ds) G.w0 w (I.mem x m) ∧ FixOK G.A0 G.fx (I.mem x m)) (I0.meas x0) ⟨I0, hI0, x0, a, ds, rfl, ⟨hi0, hn0, hl0⟩, rfl, ha0, hm0, hx0⟩ ?_
    rintro n a1 w1 ⟨I, hI, x, b, ds1, rfl, ⟨hix, hna, hlx⟩, rfl, hax, hmx, hxx⟩
    have hro := (ifNo_h (hround I hI x)).resolve_left (fun hno => linkNo_ok hno hlx)
    have hro := (ifNo_h hro).resolve_left (fun hno => by rw [hna] at hno; cases hno)
    have hro := linkT_ok (hro hix) hlx
    simp only [fTm_eq, fM_eq] at hro
    refine ih hro hax hmx hxx fun e pj' tm' m' a' w' ds' hk h' hm' hx' => ?_
    cases e with
    | nor =>
      simp only at hk
      split at hk
      · exact hk.elim
      obtain ⟨I', hI', x', hi', hlt, hs'⟩ := hk
      obtain ⟨hl', hs'⟩ := linked_ok hs'
      obtain ⟨hn', hl'⟩ := noP_ok hl'
      obtain ⟨ha', hm'', hx''⟩ := subPx_ok hs' h' hm' hx'
      exact ⟨I'.meas x', hlt, I', hI', x', a', ds', rfl, ⟨hi', hn', hl'⟩, rfl, ha', hm'', hx''⟩
    | exit i => exact hq _ _ _ _ _ _ _ hk h' hm' hx'
    | ret => exact hq _ _ _ _ _ _ _ hk h' hm' hx'
  | exit id => intro pj tm m K a w ds Q hs h hm hx hq; exact wpIn_exit (hq _ _ _ _ _ _ _ hs h hm hx)
  | ret => intro pj tm m K a w ds Q hs h hm hx hq; exact wpIn_ret (hq _ _ _ _ _ _ _ hs h hm hx)
  | rangeFunc g ps az bd _ _ =>
    intro pj tm m K a w ds Q hs h hm hx hq
    simp only [sexecG] at hs
    split at hs
    · exact hs.elim
    exact hR _ _ _ _ _ _ _ _ _ _ _ hs h hm hx fun e tm' m' a' w' ds' hk h' hm' hx' => hq _ _ _ _ _ _ _ hk h' hm' hx'
  | scope _ _ => intro pj tm m K a w ds Q hs; exact False.elim hs
  | label _ => intro pj tm m K a w ds Q hs; exact False.elim hs
  | goto _ => intro pj tm m K a w ds Q hs; exact False.elim hs
  | refuse _ => intro pj tm m K a w ds Q hs; exact False.elim hs

end Go.Vx
set_option linter.unusedVariables false
namespace Go.Vx
open Go
variable {C : Nat → Codec}

theorem heap_put_other {w : World} {l k : Nat} {o : Obj} (h : k ≠ l) : (w.putObj l o).heap[k]? = w.heap[k]? := World.putObj_heap_other h

/-- An object that is no chunk of ours is laid, and its place is kept in mind. -/
theorem MemOK.pinNew {s : Nat → Prop} {ps : List (Nat × Obj)} {w0 w : World} {m : List (Ck C)} (h : MemOK ⟨s, ps⟩ w0 w m) (o : Obj) : MemOK ⟨s, (w.heap.size, o) :: ps⟩ w0 (w.alloc o) m := by
  have hb : ∀ k, k < w.heap.size → (w.alloc o).heap[k]? = w.heap[k]? := fun k hk => heap_alloc_lt w o hk
  refine ⟨h.os, h.tape, h.output, by have := h.size; simp; omega, ?_, h.inS, ?_, ?_, h.apart, ?_, h.glob, ?_⟩
  · intro k hk hno; rw [hb k (Nat.lt_of_lt_of_le hk h.size)]; exact h.keep k hk hno
  · intro c hc; exact Ck.ok_same (h.ok c hc) (hb _ (h.lt c hc))
  · intro c hc hw hl a ha
    rw [World.frozen?_of_block (w := w) (by rw [ha]; exact hb _ (h.lt c hc))]
    exact h.wrok c hc hw hl a ha
  · intro c hc; have := h.lt c hc; simp; omega
  · have hm := h.more
    refine ⟨fun g v hv => ?_, fun g p hp => ?_, fun p hp => ?_, ?_⟩
    · obtain ⟨h1, h2, h3⟩ := hm.gv g v hv
      exact ⟨(World.cell?_of_block (w := w) (a := ⟨g, 0, none⟩) (hb g (Nat.lt_of_lt_of_le h2 h.size))).trans h1, h2, h3⟩
    · obtain ⟨h1, h2, h3⟩ := hm.gp g p hp
      exact ⟨(hb _ (Nat.lt_of_lt_of_le h2 h.size)).trans h1, h2, h3⟩
    · rcases List.mem_cons.1 hp with rfl | hp
      · exact ⟨World.alloc_heap_new w o, h.size, fun c hc _ => Nat.ne_of_lt (h.lt c hc)⟩
      · obtain ⟨h1, h2, h3⟩ := hm.pin p hp
        exact ⟨(hb _ (heap_size_of h1)).trans h1, h2, h3⟩
    · have : w.heap.size ∉ ps.map (·.1) := by
        intro hmem
        obtain ⟨p, hp, he⟩ := List.mem_map.1 hmem
        have := heap_size_of (hm.pin p hp).1
        omega
      simpa [this] using hm.nod

/-- Such an object turns. -/
theorem MemOK.repin {s : Nat → Prop} {ps : List (Nat × Obj)} {w0 w : World} {m : List (Ck C)} {l : Nat} {o : Obj} (h : MemOK ⟨s, (l, o) :: ps⟩ w0 w m) (o' : Obj) : MemOK ⟨s, (l, o') :: ps⟩ w0 (w.putObj l o') m := by
  have hm := h.more
  obtain ⟨hl1, hl2, hl3⟩ := hm.pin (l, o) (by simp)
  simp only at hl1 hl2 hl3
  have hb : ∀ k, k ≠ l → (w.putObj l o').heap[k]? = w.heap[k]? := fun k hk => heap_put_other hk
  have hlv : ∀ c ∈ m, c.live = false → ∀ w', Ck.ok (ads m) w' c := by
    intro c _ hc w'
    unfold Ck.live at hc; unfold Ck.ok
    split at hc <;> first | cases hc | skip
    rename_i hd; rw [hd]; trivial
  refine ⟨h.os, h.tape, h.output, by have := h.size; simpa using this, ?_, h.inS, ?_, ?_, h.apart, ?_, h.glob, ?_⟩
  · intro k hk hno
    rw [hb k (by omega)]
    exact h.keep k hk hno
  · intro c hc
    cases hcl : c.live with
    | false => exact hlv c hc hcl _
    | true => exact Ck.ok_same (h.ok c hc) (hb _ (hl3 c hc hcl))
  · intro c hc hw hl a ha
    rw [World.frozen?_of_block (w := w) (by rw [ha]; exact hb _ (hl3 c hc hl))]
    exact h.wrok c hc hw hl a ha
  · intro c hc; have := h.lt c hc; simpa using this
  · have hnod := hm.nod
    simp only [List.map_cons, List.nodup_cons] at hnod
    refine ⟨fun g v hv => ?_, fun g p hp => ?_, fun p hp => ?_, by simpa using hm.nod⟩
    · obtain ⟨h1, h2, h3⟩ := hm.gv g v hv
      exact ⟨(World.cell?_of_block (w := w) (a := ⟨g, 0, none⟩) (hb g (by omega))).trans h1, h2, h3⟩
    · obtain ⟨h1, h2, h3⟩ := hm.gp g p hp
      exact ⟨(hb _ (by omega)).trans h1, h2, h3⟩
    · rcases List.mem_cons.1 hp with rfl | hp
      · exact ⟨World.putObj_heap_same (heap_size_of hl1), hl2, hl3⟩
      · obtain ⟨h1, h2, h3⟩ := hm.pin p (List.mem_cons_of_mem _ hp)
        refine ⟨(hb _ ?_).trans h1, h2, h3⟩
        rintro he
        exact hnod.1 (he ▸ List.mem_map.2 ⟨p, hp, rfl⟩)
/-- It is kept in mind no more. -/
theorem MemOK.unpin {s : Nat → Prop} {ps : List (Nat × Obj)} {w0 w : World} {m : List (Ck C)} {l : Nat} {o : Obj} (h : MemOK ⟨s, (l, o) :: ps⟩ w0 w m) : MemOK ⟨s, ps⟩ w0 w m := by
  have hm := h.more
  refine ⟨h.os, h.tape, h.output, h.size, h.keep, h.inS, h.ok, h.wrok, h.apart, h.lt, h.glob, hm.gv, hm.gp, fun p hp => hm.pin p (List.mem_cons_of_mem _ hp), ?_⟩
  have := hm.nod
  simp only [List.map_cons, List.nodup_cons] at this
  exact this.2

/-- An iterator whose text is gone through. -/
structure It (P : Program) (C : Nat → Codec) where
  f : Nat
  fn : Func
  c : Code
  E : Env P C
  L : List (Inv' C)
  hf : P.funcs[f]? = some fn
  hb : fn.body = some c
  hname : (fn.name == "runtime.NumGoroutine") = false
  hn : fn.ntmps = E.n
def findIt {P : Program} (f : Nat) : List (It P C) → Option (It P C)
  | [] => none
  | x :: r => match Nat.beq x.f f with
    | true => some x
    | false => findIt f r
theorem findIt_f {P : Program} {f : Nat} : ∀ {l : List (It P C)} {it : It P C}, findIt f l = some it → it.f = f
  | [], _, h => by cases h
  | x :: r, it, h => by
    simp only [findIt] at h
    split at h
    · rename_i he; simp only [Option.some.injEq] at h; subst h; exact Nat.eq_of_beq_eq_true he
    · exact findIt_f h

def noRf : Rf C := fun _ _ _ _ _ _ _ => .no
theorem noRf_ok {P : Program} {n : Nat} {G : Gs} : ROK (C := C) P n G noRf := fun _ _ _ _ _ _ _ _ _ _ _ h => h.elim
theorem noY_ok {P : Program} {G : Gs} : YOK (C := C) P G none := fun _ _ h => by cases h

def putAll (n : Nat) : Tm → List Nat → List SV → Option Tm
  | tm, [], [] => some tm
  | tm, p :: r, v :: s => match put? n tm (some p) [] v with
    | some tm' => putAll n tm' r s
    | none => none
  | _, _, _ => none
theorem putAll_len {n : Nat} : ∀ {ps : List Nat} {vs : List SV} {tm tm' : Tm}, putAll n tm ps vs = some tm' → ps.length = vs.length
  | [], [], _, _, _ => rfl
  | p :: r, v :: s, tm, tm', h => by
    simp only [putAll] at h
    split at h
    · simp [putAll_len h]
    · cases h
  | [], _ :: _, _, _, h => by simp [putAll] at h
  | _ :: _, [], _, _, h => by simp [putAll] at h
theorem putAll_ok {ad : Nat → Ad} {n : Nat} : ∀ {ps : List Nat} {vs : List SV} {tm tm' : Tm} {a : Act}, ActOK ad n tm a → putAll n tm ps vs = some tm' →
    ActOK ad n tm' { tmps := (ps.zip (SV.vas ad vs)).foldl (fun t (p, v) => t.setIfInBounds p v) a.tmps, defers := [] }
  | [], [], tm, tm', a, h, hp => by
    simp only [putAll, Option.some.injEq] at hp; subst hp
    exact ⟨rfl, h.size, h.tmps, h.inv⟩
  | p :: r, v :: s, tm, tm', a, h, hp => by
    simp only [putAll] at hp
    split at hp
    · rename_i tm1 h1
      have hA := put_ok h h1 (by simp) (v.va ad) (by simp [mkc])
      exact putAll_ok (a := a.put (some p) (v.va ad)) hA hp
    · cases hp
  | [], _ :: _, _, _, _, _, h => by simp [putAll] at h
  | _ :: _, [], _, _, _, _, h => by simp [putAll] at h

def PJ.code : Ex → Code
  | .nor => .skip
  | .exit i => .exit i
  | .ret => .ret
def PJ.back : PJ → Ex
  | none => .nor
  | some e => e

/-- A round: what is assigned, and the body. -/
def goR {P : Program} (E : Env P C) (L : List (Inv' C)) (tmC : Tm) (ps : Array Tmp) (asg bd : Code) : Yf C := fun vs tmI m Kc =>
  match tmLt m.length tmI, putAll E.n tmC ps.toList vs with
  | true, some tmb => sexecG E L (tmNm tmI ++ tmNm tmC) none noRf asg none tmb m fun e _ tma ma => match e with
    | .nor => sexecG E L (tmNm tmI ++ tmNm tmC) none noRf bd none tma ma fun e _ tm2 m2 => match e with
      | .nor => Kc true none m2
      | .exit i => Kc false (some (.exit i)) m2
      | .ret => Kc false (some .ret) m2
    | _ => .no
  | _, _ => .no

def rangeF {P : Program} (E : Env P C) (L : List (Inv' C)) (its : List (It P C)) : Rf C := fun g ps asg bd tm m K =>
  match ev tm m [] g with
  | some (.fn (.func gf) [] cap) => match findIt gf its with
    | some it => match tmLt m.length tm && SV.lts m.length cap && Nat.ble (cap.length + 1) it.E.n && noCnds cap with
      | false => .no
      | true => .all fun (l : Nat) => fTm (initTm 0 (.fn (.yield l) [] [] :: cap)) fun tmI => sexecG it.E it.L (tmNm tm) (some (l, goR E L tm ps asg bd)) noRf it.c none tmI m fun e pj tmI' m' => match e with
        | .exit _ => .no
        | _ => match retSV P it.fn tmI' m' with
          | some (qs, _) => conj qs (K pj.back tm m')
          | none => .no
    | none => .no
  | _ => .no

theorem tmLt_nm {n : Nat} : ∀ {tm : Tm}, tmLt n tm = true → ∀ c ∈ tmNm tm, c < n := by
  have hv : ∀ (v : SV), SV.lt n v = true → ∀ c ∈ v.nm, c < n := by
    intro v
    induction v using SV.rec (motive_2 := fun vs => SV.lts n vs = true → ∀ c ∈ SV.nms vs, c < n) with
    | ptr c i f => intro h k hk; simp only [SV.lt] at h; simp only [SV.nm, List.mem_singleton] at hk; subst hk; simpa using h
    | sl c i f m => intro h k hk; simp only [SV.lt] at h; simp only [SV.nm, List.mem_singleton] at hk; subst hk; simpa using h
    | mp c => intro h k hk; simp only [SV.lt] at h; simp only [SV.nm, List.mem_singleton] at hk; subst hk; simpa using h
    | agg vs ih => intro h k hk; simp only [SV.lt] at h; simp only [SV.nm] at hk; exact ih h k hk
    | tup vs ih => intro h k hk; simp only [SV.lt] at h; simp only [SV.nm] at hk; exact ih h k hk
    | ifc t v ih => intro h k hk; simp only [SV.lt] at h; simp only [SV.nm] at hk; exact ih h k hk
    | fn f a b iha ihb =>
      intro h k hk
      simp only [SV.lt, Bool.and_eq_true] at h
      simp only [SV.nm, List.mem_append] at hk
      rcases hk with hk | hk
      · exact iha h.1 k hk
      · exact ihb h.2 k hk
    | cnd cs v ih => intro h k hk; simp only [SV.lt] at h; simp only [SV.nm] at hk; exact ih h k hk
    | nil => rename_i k hk; cases hk
    | cons v r ihv ihr =>
      rename_i h k hk
      simp only [SV.lts, Bool.and_eq_true] at h
      simp only [SV.nms, List.mem_append] at hk
      rcases hk with hk | hk
      · exact ihv h.1 k hk
      · exact ihr h.2 k hk
    | _ => intro _ k hk; simp [SV.nm] at hk
  intro tm
  induction tm with
  | nil => intro _ c hc; cases hc
  | cons p r ih =>
    obtain ⟨k, v⟩ := p
    intro h c hc
    simp only [tmLt, Bool.and_eq_true] at h
    simp only [tmNm, List.mem_append] at hc
    rcases hc with hc | hc
    · exact hv v h.1 c hc
    · exact ih h.2 c hc

/-- What the record of the loop is, by the jump that is left. -/
def recOf (rec : LoopState → Option Code → Loop) : PJ → Obj
  | none => .loop (rec .ready none)
  | some e => .loop (rec .done (some (PJ.code e)))

theorem goR_ok {P : Program} (hmix : P.follows .mixedOrders = true) {E : Env P C} {L : List (Inv' C)} {tmC : Tm} {ps : Array Tmp} {asg bd : Code} {s : Nat → Prop} {old : List (Nat × Obj)} {w0 : World} {A0 : Nat → Ad} {a0 : Act} {l : Nat} {fn : FuncId} {D : Nat}
    {rec : LoopState → Option Code → Loop} (hrec : ∀ st pe, rec st pe = { state := st, pending := pe, fn := fn, tmps := a0.tmps, params := ps, assign := asg, body := bd, defers := D }) (ha0 : ActOK A0 E.n tmC a0) :
    YOK P ⟨none, fun pj _ => ⟨s, (l, recOf rec pj) :: old⟩, w0, fun _ => [], A0, tmNm tmC⟩ (some (l, goR E L tmC ps asg bd)) := by
  intro l' go hgo vs tmI m Kc w ds R h hm hx hK
  simp only [Option.some.injEq, Prod.mk.injEq] at hgo
  obtain ⟨rfl, rfl⟩ := hgo
  unfold goR at h
  split at h
  rotate_left
  · exact h.elim
  rename_i tmb hlt hput
  simp only at hm hx hK
  have hpin := (hm.more.pin (l, recOf rec none) (by simp)).1
  simp only [recOf] at hpin
  have hlen := putAll_len hput
  have hy := run_yield (P := P) (args := (SV.vas (ads m) vs).toArray) hpin (by rw [hrec]; simp [SV.vas_eq, ← hlen])
  refine ⟨_, _, _, _, hy, ?_⟩
  simp only [hrec]
  have hact : ActOK (ads m) E.n tmC a0 := ha0.fixed (fun c hc => ((hx c hc).2).symm)
  have hactb := putAll_ok hact hput
  have hz : (ps.zip (SV.vas (ads m) vs).toArray).foldl (fun tmps (x : Tmp × Value) => tmps.setIfInBounds x.1 x.2) a0.tmps = (ps.toList.zip (SV.vas (ads m) vs)).foldl (fun t (x : Nat × Value) => t.setIfInBounds x.1 x.2) a0.tmps := by
    rw [← Array.foldl_toList]
    simp
  obtain ⟨G1, hG1⟩ : ∃ G1 : Gs, G1 = ⟨some l, fun _ _ => ⟨s, (l, .loop (rec .ready none)) :: old⟩, w0, fun _ => [], ads m, tmNm tmI ++ tmNm tmC⟩ := ⟨_, rfl⟩
  obtain ⟨G2, hG2⟩ : ∃ G2 : Gs, G2 = ⟨some l, fun _ _ => ⟨s, (l, .loop (rec .busy none)) :: old⟩, w0, fun _ => [], ads m, tmNm tmI ++ tmNm tmC⟩ := ⟨_, rfl⟩
  have hfx : FixOK (ads m) (tmNm tmI ++ tmNm tmC) m := by
    intro c hc
    rcases List.mem_append.1 hc with hc | hc
    · exact ⟨tmLt_nm hlt c hc, rfl⟩
    · exact ⟨(hx c hc).1, rfl⟩
  have back : ∀ m' : List (Ck C), FixOK (ads m) (tmNm tmI ++ tmNm tmC) m' → FixOK A0 (tmNm tmC) m' ∧ (∀ c ∈ tmNm tmI, c < m'.length ∧ ads m' c = ads m c) := by
    intro m' h'
    refine ⟨fun c hc => ?_, fun c hc => h' c (List.mem_append.2 (.inl hc))⟩
    obtain ⟨h1, h2⟩ := h' c (List.mem_append.2 (.inr hc))
    exact ⟨h1, h2.trans (hx c hc).2⟩
  refine roundIn_of_wpIn (FR_fn none fn) ?_
  have h1 := sexecG_ok (P := P) hmix (G := G1) (E := E) (L := L) (Y := none) (RF := noRf) noY_ok noRf_ok (c := asg) (pj := none) (tm := tmb) (m := m) (ds := []) (w := w)
    (a := { tmps := (ps.toList.zip (SV.vas (ads m) vs)).foldl (fun t (x : Nat × Value) => t.setIfInBounds x.1 x.2) a0.tmps, defers := [] })
    (Q := Exit.then (fun a₁ w₁ => ∃ w₂, (Instr.beginRound l).run P w₁ = .ok () w₂ ∧ bd.wpIn (Fence.wide.inRound l) 0 P (roundPost P l R) a₁ w₂) (fun _ _ _ => False))
    (by subst hG1; exact h) hactb (by subst hG1; exact hm) (by subst hG1; exact hfx) ?_
  · have e : wa ({ tmps := (ps.toList.zip (SV.vas (ads m) vs)).foldl (fun t (x : Nat × Value) => t.setIfInBounds x.1 x.2) a0.tmps, defers := [] } : Act) (G1.dm []) = { tmps := (ps.toList.zip (SV.vas (ads m) vs)).foldl (fun t (x : Nat × Value) => t.setIfInBounds x.1 x.2) a0.tmps, defers := [] } := by subst hG1; rfl
    rw [e] at h1
    rw [hz]
    have e2 : FR G1.r = Fence.wide.inRound l := by subst hG1; rfl
    rw [e2] at h1
    exact h1
  intro e pj' tma ma a1 w1 ds' hk ha1 hm1 hx1
  subst hG1
  cases e with
  | exit i => exact hk.elim
  | ret => exact hk.elim
  | nor =>
    simp only at hk hm1 hx1
    have hpin1 := (hm1.more.pin (l, .loop (rec .ready none)) (by simp)).1
    have hbr := run_beginRound (P := P) hpin1 (by rw [hrec])
    have hm2 := hm1.repin (.loop { rec .ready none with state := .busy })
    have ebusy : ({ rec .ready none with state := .busy } : Loop) = rec .busy none := by rw [hrec, hrec]
    rw [ebusy] at hm2 hbr
    refine ⟨_, hbr, ?_⟩
    have h2 := sexecG_ok (P := P) hmix (G := G2) (E := E) (L := L) (Y := none) (RF := noRf) noY_ok noRf_ok (c := bd) (pj := none) (tm := tma) (m := ma) (ds := []) (w := w1.putObj l (.loop (rec .busy none))) (a := a1)
      (Q := roundPost P l R) (by subst hG2; exact hk) ha1 (by subst hG2; exact hm2) (by subst hG2; exact hx1) ?_
    · have e : wa a1 (G2.dm []) = wa a1 [] := by subst hG2; rfl
      rw [e] at h2
      have e2 : FR G2.r = Fence.wide.inRound l := by subst hG2; rfl
      rw [e2] at h2
      exact h2
    intro e pj2 tm2 m2 a2 w2 ds2 hk2 ha2 hm3 hx2
    subst hG2
    simp only at hm3 hx2
    have hpin2 := (hm3.more.pin (l, .loop (rec .busy none)) (by simp)).1
    obtain ⟨b1, b2⟩ := back m2 hx2
    have fin : ∀ (jump : Option Code) (pj : PJ), (jump.isNone = true ↔ pj = none) → pj.map PJ.code = jump → (Kc jump.isNone pj m2).holds → ∃ v w', (Instr.endRound l jump).run P w2 = .ok v w' ∧ R (.returned v) w' := by
      intro jump pj hj hpj hkc
      have her := run_endRound (P := P) jump hpin2
      refine ⟨_, _, her, hK _ pj m2 _ hkc ?_ b1 b2⟩
      have hm4 := hm3.repin (.loop { rec .busy none with state := if jump.isNone then .ready else .done, pending := jump })
      have e : (Obj.loop { rec .busy none with state := if jump.isNone then .ready else .done, pending := jump }) = recOf rec pj := by
        cases pj with
        | none =>
          simp only [Option.map_none] at hpj
          subst hpj
          simp [recOf, hrec]
        | some e =>
          simp only [Option.map_some] at hpj
          subst hpj
          simp [recOf, hrec]
      rw [e] at hm4 ⊢
      exact hm4
    cases e with
    | nor => exact fin none none (by simp) rfl hk2
    | exit i => exact fin (some (.exit i)) (some (.exit i)) (by simp) rfl hk2
    | ret => exact fin (some .ret) (some .ret) (by simp) rfl hk2

/-- What a new frame's slots hold. -/
theorem init_ok {ad : Nat → Ad} {n : Nat} {args : List SV} (hlen : Nat.ble args.length n = true) (hnc : noCnds args = true) :
    ActOK ad n (initTm 0 args) { tmps := (SV.vas ad args).toArray ++ Array.replicate (n - (SV.vas ad args).toArray.size) Go.undef, defers := [] } := by
  have hlen : args.length ≤ n := Nat.le_of_ble_eq_true hlen
  have hsz : (SV.vas ad args).toArray.size = args.length := by simp [SV.vas_eq]
  refine ⟨rfl, by simp [SV.vas_eq]; omega, fun t => ?_, ?_⟩
  · rcases get_init args 0 t with h1 | ⟨_, v, h2, h3⟩
    · exact .inl h1
    · right
      simp only [Nat.sub_zero] at h2
      have hlt : t < args.length := (List.getElem?_eq_some_iff.1 h2).1
      rw [h3, Array.getElem?_append_left (by rw [hsz]; exact hlt)]
      simp [SV.vas_eq, h2]
  · intro t cs v hg
    exfalso
    rcases get_init args 0 t with h1 | ⟨_, u, h2, h3⟩
    · rw [h1] at hg; cases hg
    · rw [h3] at hg
      exact notCnd_ok (noCnds_ok hnc u (List.mem_of_getElem? h2)) cs v hg

/-- The marks among the deferred calls, and what lies at their places. -/
def mark (D : Nat) : Deferred := { target := .collected D, args := #[] }
def mpin (D : Nat) : Nat × Obj := (D, .deferred (some []))

theorem rangeF_ok {P : Program} (hmix : P.follows .mixedOrders = true) {E : Env P C} {L : List (Inv' C)} {its : List (It P C)} {s : Nat → Prop} {w0 : World} :
    ROK P E.n ⟨none, fun _ ds => ⟨s, ds.map mpin⟩, w0, fun ds => ds.map mark, noAd, []⟩ (rangeF E L its) := by
  intro g ps asg bd tm m K a w Q ds h ha hm hx hq
  simp only at hm hq
  unfold rangeF at h
  split at h <;> try (first | contradiction | exact False.elim h)
  rename_i gf cap hg
  split at h
  rotate_left
  · exact h.elim
  rename_i it hit
  split at h
  · exact h.elim
  rename_i hc
  simp only [Bool.and_eq_true] at hc
  obtain ⟨⟨⟨c1, c2⟩, c3⟩, c4⟩ := hc
  have hf := findIt_f hit
  subst hf
  have hnil : AlOK tm [] := by intro p hp; cases hp
  have eg : (wa a (ds.map mark)).eval g = .func (.func it.f) #[] (SV.vas (ads m) cap).toArray := by
    rw [wa_eval, ev_ok ha hm.glob hnil _ _ hg]; rfl
  refine wpIn_rangeFunc ?_
  intro fn _
  obtain ⟨rec, hrec⟩ : ∃ rec : LoopState → Option Code → Loop, rec = fun st pe => { state := st, pending := pe, fn, tmps := a.tmps, params := ps, assign := asg, body := bd, defers := w.heap.size } := ⟨_, rfl⟩
  have hrec' : ∀ st pe, rec st pe = { state := st, pending := pe, fn := fn, tmps := a.tmps, params := ps, assign := asg, body := bd, defers := w.heap.size } := fun _ _ => by rw [hrec]
  obtain ⟨W1, hW1⟩ : ∃ W1, (w.alloc (.deferred (some []))).alloc (.loop (rec .ready none)) = W1 := ⟨_, rfl⟩
  have hm1 : MemOK ⟨s, (w.heap.size + 1, recOf rec none) :: (mpin w.heap.size) :: ds.map mpin⟩ w0 W1 m := by
    have := (hm.pinNew (.deferred (some []))).pinNew (.loop (rec .ready none))
    rw [World.size_alloc, hW1] at this
    exact this
  refine ⟨w.heap.size + 1, [mark w.heap.size], W1, { target := .fn (.func it.f) (SV.vas (ads m) cap).toArray, args := #[.func (.yield (w.heap.size + 1)) #[] #[]] }, W1, it.f,
    #[.func (.yield (w.heap.size + 1)) #[] #[]] ++ (SV.vas (ads m) cap).toArray, W1, ?_, ?_, ?_, ?_, fun hd => (by rw [FR_depth] at hd; cases hd), ?_⟩
  · rw [← hW1, hrec]; exact run_enterLoop_outer _ _ _ _ _
  · simp only [resolve, eg, Deferred.ofValue]
    simp [Act.eval]
  · intro f' _; exact FR_fn _ f'
  · simp [invoke, run_callFunc it.hf it.hb it.hname]
  · have hin := h (w.heap.size + 1)
    simp only [fTm_eq] at hin
    refine callsIn_of_wp it.hf it.hb (FR_fn _ _) ?_
    obtain ⟨GI, hGI⟩ : ∃ GI : Gs, GI = ⟨none, fun pj _ => ⟨s, (w.heap.size + 1, recOf rec pj) :: mpin w.heap.size :: ds.map mpin⟩, w0, fun _ => [], ads m, tmNm tm⟩ := ⟨_, rfl⟩
    have hy : YOK P GI (some (w.heap.size + 1, goR E L tm ps asg bd)) := by
      subst hGI
      exact goR_ok hmix hrec' ha
    have hargs : (#[Value.func (.yield (w.heap.size + 1)) #[] #[]] ++ (SV.vas (ads m) cap).toArray) = (SV.vas (ads m) (.fn (.yield (w.heap.size + 1)) [] [] :: cap)).toArray := by
      apply Array.ext'; simp [SV.vas, SV.va]
    rw [hargs]
    have hinit := init_ok (ad := ads m) (n := it.E.n) (args := .fn (.yield (w.heap.size + 1)) [] [] :: cap) (by simpa using c3) (by simp [noCnds, notCnd, c4])
    rw [← it.hn] at hinit
    rw [it.hn] at hinit
    have h3 := sexecG_ok (P := P) hmix (G := GI) (E := it.E) (L := it.L) (Y := some (w.heap.size + 1, goR E L tm ps asg bd)) (RF := noRf) hy noRf_ok (c := it.c) (pj := none) (m := m) (ds := []) (w := W1)
      (Q := bodyPost P it.fn (rangePost (FR none) 0 P (w.heap.size + 1) Q { wa a (ds.map mark) with defers := [mark w.heap.size] ++ (wa a (ds.map mark)).defers }))
      (by subst hGI; exact hin) hinit (by subst hGI; exact hm1) (by subst hGI; exact fun c hc => ⟨tmLt_nm c1 c hc, rfl⟩) ?_
    · have e2 : FR GI.r = FR none := by subst hGI; rfl
      have e3 : ∀ b : Act, b.defers = [] → wa b (GI.dm []) = b := by
        intro b hb; subst hGI
        show ({ b with defers := b.defers ++ [] } : Act) = b
        cases b; simp at hb ⊢
      rw [e2, e3 _ rfl, ← it.hn] at h3
      exact h3
    intro e pj tmI' m' a' w' ds' hk ha' hm' hx'
    have fin : (match retSV P it.fn tmI' m' with | some (qs, _) => conj qs (K pj.back tm m') | none => .no : Tr).holds →
        (wa a' (GI.dm ds')).defers = [] ∧ ∃ v, (results it.fn (wa a' (GI.dm ds')).tmps).run P w' = .ok v w' ∧
          rangePost (FR none) 0 P (w.heap.size + 1) Q { wa a (ds.map mark) with defers := [mark w.heap.size] ++ (wa a (ds.map mark)).defers } (.returned v) w' := by
      intro hk
      split at hk <;> try (first | contradiction | exact False.elim hk)
      rename_i qs r hr
      obtain ⟨hp, hK⟩ := (conj_iff _ _).1 hk
      refine ⟨by subst hGI; show a'.defers ++ [] = []; rw [ha'.defers]; rfl, _, retSV_ok (S := GI.Sp pj ds') ha' hm' hr hp, ?_⟩
      subst hGI
      simp only at hm' hx'
      have hpin := (hm'.more.pin (w.heap.size + 1, recOf rec pj) (by simp)).1
      have hA : ActOK (ads m') E.n tm a := ha.fixed (fun c hc => ((hx' c hc).2).symm)
      have hdf : ({ wa a (ds.map mark) with defers := [mark w.heap.size] ++ (wa a (ds.map mark)).defers } : Act) = wa a ((w.heap.size :: ds).map mark) := by
        show ({ tmps := a.tmps, defers := [mark w.heap.size] ++ (a.defers ++ ds.map mark) } : Act) = { tmps := a.tmps, defers := a.defers ++ ((w.heap.size :: ds).map mark) }
        rw [ha.defers]; rfl
      rw [hdf]
      have hend : ∀ (o : Obj), MemOK ⟨s, (w.heap.size :: ds).map mpin⟩ w0 (w'.putObj (w.heap.size + 1) o) m' := fun o => (hm'.repin o).unpin
      cases pj with
      | none =>
        simp only [recOf] at hpin
        refine ⟨none, _, by have := run_endLoop (P := P) hpin (by rw [hrec]; simp); rw [hrec] at this; exact this, ?_⟩
        refine hq .nor tm m' a _ (w.heap.size :: ds) hK hA ?_ (fun c hc => by cases hc)
        exact hend _
      | some e =>
        simp only [recOf] at hpin
        refine ⟨some (PJ.code e), _, by have := run_endLoop (P := P) hpin (by rw [hrec]; simp); rw [hrec] at this; exact this, ?_⟩
        have hQ : ∀ w4, MemOK ⟨s, (w.heap.size :: ds).map mpin⟩ w0 w4 m' → Q (Ex.of e) (wa a ((w.heap.size :: ds).map mark)) w4 := fun w4 hm4 => hq e tm m' a w4 (w.heap.size :: ds) hK hA hm4 (fun c hc => by cases hc)
        cases e with
        | nor => exact wpIn_skip (hQ _ (hend _))
        | exit i => exact wpIn_exit (hQ _ (hend _))
        | ret => exact wpIn_ret (hQ _ (hend _))
    cases e with
    | nor => exact fin hk
    | exit i => exact hk.elim
    | ret => exact fin hk

/-- A function's body that may range over functions. -/
def fexecR {P : Program} (E : Env P C) (L : List (Inv' C)) (its : List (It P C)) (fn : Func) (c : Code) (args : List SV) (mem : List (Ck C)) (G : SV → List (Ck C) → Tr) : Tr :=
  fTm (initTm 0 args) fun tm0 => fM mem fun mem0 => sexecG E L [] none (rangeF E L its) c none tm0 mem0 fun e _ tm m => match e with
    | .exit _ => .no
    | _ => match retSV P fn tm m with
      | some (ps, r) => conj ps (fSV r fun r => fM m fun m => G r m)
      | none => .no

theorem leaves_marks {P : Program} {fn : Func} {tmps : Array Value} {R : Ending → World → Prop} {s : Nat → Prop} {w0 : World} {m : List (Ck C)} : ∀ (ds : List Nat) (w : World), MemOK ⟨s, ds.map mpin⟩ w0 w m →
    (∀ w', MemOK ⟨s, []⟩ w0 w' m → ∃ v, (results fn tmps).run P w' = .ok v w' ∧ R (.returned v) w') → LeavesInM (FR none) 0 P fn tmps R (ds.map mark) .returning w
  | [], w, hm, h => h w hm
  | D :: ds, w, hm, h => by
    refine ⟨by simp, .inl ⟨D, _, rfl, run_takeDeferred (hm.more.pin (mpin D) (by simp)).1, ?_⟩⟩
    exact leaves_marks ds _ ((hm.repin (.deferred none)).unpin) h

theorem fexecR_ok {P : Program} (hmix : P.follows .mixedOrders = true) {E : Env P C} {L : List (Inv' C)} {its : List (It P C)} {f : FuncId} {fn : Func} {c : Code} {args : List SV} {mem : List (Ck C)} {G : SV → List (Ck C) → Tr}
    (hf : P.funcs[f]? = some fn) (hb : fn.body = some c) (hn : fn.ntmps = E.n) (hlen : Nat.ble args.length E.n = true) (hnc : noCnds args = true) (h : fexecR E L its fn c args mem G) (w : World) (hm : MemOK (wrS mem) w w mem) :
    Calls P f (SV.vas (ads mem) args).toArray w fun e w' => ∃ r m', e = .returned (r.va (ads m')) ∧ MemOK (wrS mem) w w' m' ∧ G r m' := by
  refine (callsIn_wide (n := 0)).1 (callsIn_of_wp_marks hf hb trivial ?_)
  have hinit := init_ok (ad := ads mem) (n := E.n) hlen hnc
  unfold fexecR at h
  simp only [fTm_eq, fM_eq, fSV_eq] at h
  have h3 := sexecG_ok (P := P) hmix (G := ⟨none, fun _ ds => ⟨(wrS mem).set, ds.map mpin⟩, w, fun ds => ds.map mark, noAd, []⟩) (E := E) (L := L) (Y := none) (RF := rangeF E L its) noY_ok (rangeF_ok hmix) (c := c) (pj := none) (m := mem) (ds := []) (w := w)
    (Q := bodyPostM Fence.wide 0 P fn (fun e w' => ∃ r m', e = .returned (r.va (ads m')) ∧ MemOK (wrS mem) w w' m' ∧ G r m')) h hinit hm (fun c hc => by cases hc) ?_
  · rw [← hn] at h3
    exact h3
  intro e pj' tm m a w' ds hk ha hm' _
  have fin : (match retSV P fn tm m with | some (ps, r) => conj ps (G r m) | none => .no : Tr).holds → LeavesInM Fence.wide 0 P fn a.tmps (fun e w' => ∃ r m', e = .returned (r.va (ads m')) ∧ MemOK (wrS mem) w w' m' ∧ G r m') (wa a (ds.map mark)).defers .returning w' := by
    intro hk
    split at hk <;> try (first | contradiction | exact False.elim hk)
    rename_i ps r hr
    obtain ⟨hp, hG⟩ := (conj_iff _ _).1 hk
    have e : (wa a (ds.map mark)).defers = ds.map mark := by show a.defers ++ _ = _; rw [ha.defers]; rfl
    rw [e]
    exact leaves_marks ds w' hm' fun w'' hm'' => ⟨_, retSV_ok ha hm'' hr hp, r, m, rfl, hm'', hG⟩
  cases e with
  | nor => exact fin hk
  | exit i => exact hk.elim
  | ret => exact fin hk

/-- From the body to the contract, where the body ranges over functions. -/
theorem loc_fnR {P : Program} (hmix : P.follows .mixedOrders = true) {E : Env P C} {L : List (Inv' C)} (its : List (It P C)) {f : FuncId} {fn : Func} {c : Code} {args : List SV} {mem : List (Ck C)} {alts : List (Alt C)}
    (hf : P.funcs[f]? = some fn) (hb : fn.body = some c) (hname : (fn.name == "runtime.NumGoroutine") = false) (hn : fn.ntmps = E.n) (hlen : Nat.ble args.length E.n = true) (hnc : noCnds args = true)
    (h : fexecR E L its fn c args mem fun r m => .lf (Ends alts fun A y => (finP mem r m (A.res y) (A.out y)).holds)) :
    LocG P (.fn f) mem args fun r m' => Ends alts fun A y => r = A.res y ∧ m' = A.out y := by
  intro w hm
  refine ⟨f, _, run_callFunc hf hb hname _ w, (fexecR_ok hmix hf hb hn hlen hnc h w hm).mono ?_⟩
  rintro e w' ⟨r, m', rfl, hm', A, hA, y, hy, hfin⟩
  obtain ⟨hm'', hv, hx⟩ := finP_ok hfin hm'
  exact ⟨A.res y, A.out y, by rw [hv], hm'', hx, A, hA, y, hy, rfl, rfl⟩
theorem loc_pcR {P : Program} (hmix : P.follows .mixedOrders = true) {E : Env P C} {L : List (Inv' C)} (its : List (It P C)) {f : FuncId} {fn : Func} {c : Code} {args : List SV} {mem : List (Ck C)} {res : SV}
    (hf : P.funcs[f]? = some fn) (hb : fn.body = some c) (hname : (fn.name == "runtime.NumGoroutine") = false) (hn : fn.ntmps = E.n) (hlen : Nat.ble args.length E.n = true) (hnc : noCnds args = true)
    (h : fexecR E L its fn c args mem fun r m => finP mem r m res mem) :
    LocG P (.fn f) mem args fun r m' => r = res ∧ m' = mem := by
  intro w hm
  refine ⟨f, _, run_callFunc hf hb hname _ w, (fexecR_ok hmix hf hb hn hlen hnc h w hm).mono ?_⟩
  rintro e w' ⟨r, m', rfl, hm', hfin⟩
  obtain ⟨hm'', hv, hx⟩ := finP_ok hfin hm'
  exact ⟨res, mem, by rw [hv], hm'', hx, rfl, rfl⟩
end Go.Vx
set_option linter.unusedSectionVars false
set_option maxRecDepth 100000
set_option linter.unusedVariables false
set_option linter.unusedSimpArgs false
namespace Go.Vx
open Go Go.Proofs
variable [Gl0]

def pcGetP : Pc Tryd.prog C0 where
  tg := .fn 17
  X := Tb × Int
  args := fun (x, k) => [.ptr 0 0 0, .int .i64 k]
  mem := fun (x, k) => tbr x
  pre := fun (x, k) => Rep x
  res := fun (x, k) => .tup [.agg (slotE (lget (tl x) k)), .bool (.tm (lhas (tl x) k))]
  mat vs m := match vs with
    | [.ptr p 0 0, .int _ k] => match tbOf m p with
      | some (x, l) => some ((x, k), l)
      | none => none
    | _ => none
  ok := fun (x, k) h => by
    show Tells (C := C0) Tryd.prog (.fn 17) (tbr x) [.ptr 0 0 0, .int .i64 k] (.tup [.agg (slotE (lget (tl x) k)), .bool (.tm (lhas (tl x) k))])
    rw [← h.khas, ← h.kget]; exact get_ok x k
theorem keys_ok (b q : Nat) : Does (C := C0) Tryd.prog (.fn 23) [⟨b, q, 4, false, none, .dead⟩] [.ptr 0 0 0] [⟨Nat, fun _ => True, fun _ => .fn (.func 34) [] [.ptr 1 0 0], fun y => [⟨b, q, 4, false, none, .dead⟩, ⟨y, 0, 1, true, none, .one [.ptr 0 0 0]⟩]⟩] := by
  refine loc_fn (P := Tryd.prog) (E := ⟨[], [], 4, []⟩) (L := []) mix Tryd.func23 rfl (by kernel_rfl) (by kernel_rfl) rfl rfl ?_
  ((conv => (arg 1; reduce)); with_reducible repeat' (first | exact Tr.yes_h | refine Tr.and_h ?_ ?_ | refine Tr.imp_h fun _ => ?_ | refine Tr.all_h fun _ => ?_ | refine Tr.lf_h ?_))
  all_goals try (first | first | (show Region.lexB _ _ = true; kernel_rfl) | (show planned _ _ = true; kernel_rfl) | exact rfl | exact True.intro | (first | exact key3 | exact key30 | exact zero3 | exact zero53 | exact eq30 | exact ⟨key3, zero53⟩ | exact ⟨key30, zero3⟩) | ((try dsimp only [imp, C0, cG, cInt, cPl, cSlot, cDo] at *); (try refine inR64 ?_ ?_) <;> (try simp only [List.length_set, List.length_append, List.length_take, List.length_drop]) <;> omega))
  · rename_i b1
    refine Ends.one (b1 : Nat) trivial ?_
    ((conv => (arg 1; reduce)); with_reducible repeat' (first | exact Tr.yes_h | refine Tr.and_h ?_ ?_ | refine Tr.imp_h fun _ => ?_ | refine Tr.all_h fun _ => ?_ | refine Tr.lf_h ?_))
    all_goals (first | first | (show Region.lexB _ _ = true; kernel_rfl) | (show planned _ _ = true; kernel_rfl) | exact rfl | exact True.intro | (first | exact key3 | exact key30 | exact zero3 | exact zero53 | exact eq30 | exact ⟨key3, zero53⟩ | exact ⟨key30, zero3⟩) | ((try dsimp only [imp, C0, cG, cInt, cPl, cSlot, cDo] at *); (try refine inR64 ?_ ?_) <;> (try simp only [List.length_set, List.length_append, List.length_take, List.length_drop]) <;> omega))
noncomputable def fcKeys : Fc Tryd.prog C0 where
  tg := .fn 23
  X := Nat × Nat
  args := fun (b, q) => [.ptr 0 0 0]
  mem := fun (b, q) => [⟨b, q, 4, false, none, .dead⟩]
  pre := fun _ => True
  alts := fun (b, q) => [⟨Nat, fun _ => True, fun _ => .fn (.func 34) [] [.ptr 1 0 0], fun y => [⟨b, q, 4, false, none, .dead⟩, ⟨y, 0, 1, true, none, .one [.ptr 0 0 0]⟩]⟩]
  mat vs m := match vs with
    | [.ptr p 0 0] => match nth m p with
      | ⟨b, q, _, _, _, _⟩ => some ((b, q), [p])
    | _ => none
  ok := fun (b, q) _ => keys_ok b q
/-- Slots that nothing reads any more. -/
abbrev dead36 : Tm := [(13, .junk), (15, .junk), (16, .junk), (36, .junk), (37, .junk), (38, .junk), (39, .junk), (40, .junk), (41, .junk), (42, .junk), (43, .junk), (44, .junk), (45, .junk), (46, .junk), (47, .junk), (48, .junk), (49, .junk), (50, .junk), (51, .junk), (52, .junk), (53, .junk), (54, .junk), (55, .junk), (56, .junk), (57, .junk), (58, .junk), (59, .junk), (60, .junk), (61, .junk), (62, .junk), (63, .junk), (64, .junk), (65, .junk), (66, .junk), (67, .junk), (68, .junk), (69, .junk), (70, .junk), (71, .junk), (72, .junk), (73, .junk), (74, .junk), (75, .junk), (76, .junk), (77, .junk), (78, .junk), (79, .junk), (80, .junk), (81, .junk), (82, .junk), (83, .junk)]
abbrev kw' (k : Ck C0) (y : Yt') : Ck C0 := ⟨k.block, k.base, k.sz, k.wr, k.gl, .mp 3 53 y.1 y.2.1⟩
abbrev pw' (k : Ck C0) (y : Yt') : Ck C0 := ⟨k.block, k.base, k.sz, k.wr, k.gl, .mp 30 3 y.2.2.1 y.2.2.2⟩
abbrev ow' (k : Ck C0) (vs : List SV) : Ck C0 := ⟨k.block, k.base, k.sz, k.wr, k.gl, .one vs⟩
abbrev rck (r : Rw) : Ck C0 := ⟨r.1, r.2.1, 9, true, none, .rows 56 r.2.2.1⟩
abbrev xsl (bs ps : Int) (r : Rw) : List SV := [.int .i64 bs, .int .i64 ps, .sl 9 0 r.2.2.2.1 r.2.2.2.2]
/-- To be read alone. -/
abbrev ro' (k : Ck C0) : Ck C0 := ⟨k.block, k.base, k.sz, false, k.gl, k.cells⟩
abbrev TA (y : Yt') (m : List (Ck C0)) : List (Ck C0) := match m with
  | [L, P, S, B, T, K, Q, X, C] => [L, P, ro' S, B, T, kw' K y, pw' Q y, X, C]
  | _ => []
abbrev TB (bs ps : Int) (y : Yt') (r : Rw) (m : List (Ck C0)) : List (Ck C0) := match m with
  | [L, P, S, B, T, K, Q, X, C] => [L, P, ro' S, B, T, kw' K y, pw' Q y, ow' X (xsl bs ps r), C, rck r]
  | [L, P, S, B, T, K, Q, X, C, _] => [L, P, ro' S, B, T, kw' K y, pw' Q y, ow' X (xsl bs ps r), C, rck r]
  | _ => []
structure Sa (bs ps : Int) (M i : Nat) (y : Yt') : Prop where
  le : i ≤ M
  rep : Rep (tq bs ps y)
  syn : Syn bs ps i (tl (tq bs ps y)) []
structure Sb (bs ps : Int) (M i : Nat) (y : Yt') (r : Rw) : Prop where
  le : i ≤ M
  rep : Rep (tq bs ps y)
  syn : Syn bs ps i (tl (tq bs ps y)) (rlw r)
  cap : r.2.2.2.1 ≤ r.2.2.2.2
  fit : r.2.2.2.2 ≤ r.2.2.1.length
def LA (bs ps : Int) (N : Nat) : Inv' C0 := ⟨12, Nat × Yt', fun x => [(18, .int .i64 (x.1 : Int)), (11, .ptr 2 0 0)] ++ dead36, fun x m => TA x.2 m, fun x => Sa bs ps N x.1 x.2, fun x => N - x.1⟩
def LB (bs ps : Int) (N : Nat) : Inv' C0 := ⟨12, Nat × Yt' × Rw, fun x => [(18, .int .i64 (x.1 : Int)), (11, .ptr 2 0 0)] ++ dead36, fun x m => TB bs ps x.2.1 x.2.2 m, fun x => Sb bs ps N x.1 x.2.1 x.2.2, fun x => N - x.1⟩
/-- Behind what both were told. -/
def JA (bs ps : Int) (N : Nat) : Inv' C0 := ⟨1000021, Nat × Yt', fun x => [(18, .int .i64 (x.1 : Int))], fun x m => TA x.2 m, fun x => Sa bs ps N (x.1 + 1) x.2, fun x => 0⟩
def JB (bs ps : Int) (N : Nat) : Inv' C0 := ⟨1000021, Nat × Yt' × Rw, fun x => [(18, .int .i64 (x.1 : Int))], fun x m => TB bs ps x.2.1 x.2.2 m, fun x => Sb bs ps N (x.1 + 1) x.2.1 x.2.2, fun x => 0⟩
/-- The program has set, and the reference has not yet. -/
structure Ok1 (bs ps : Int) (N i : Nat) (d : Do) (y : Yt') (a : Pl) (had : Bool) (R : List Slot) : Prop where
  lt : i < N
  rep : Rep (tq bs ps y)
  ex : ∃ T, Syn bs ps i T R ∧ tl (tq bs ps y) = lset T ⟨d.key, d.pl, d.me⟩ ∧ a = (lget T d.key).pl ∧ had = lhas T d.key
  fit : 0 ≤ d.key ∧ d.key ≤ 1073741824 ∧ 0 ≤ d.pl.1 ∧ d.pl.1 < bs ∧ 0 ≤ d.pl.2 ∧ d.pl.2 < ps
  no : rtk R d.key d.pl = false
structure No1 (bs ps : Int) (N i : Nat) (d : Do) (y : Yt') (R : List Slot) : Prop where
  lt : i < N
  rep : Rep (tq bs ps y)
  syn : Syn bs ps i (tl (tq bs ps y)) R
  fit : ¬ (0 ≤ d.key ∧ d.key ≤ 1073741824 ∧ 0 ≤ d.pl.1 ∧ d.pl.1 < bs ∧ 0 ≤ d.pl.2 ∧ d.pl.2 < ps)
structure Tk1 (bs ps : Int) (N i : Nat) (d : Do) (y : Yt') (R : List Slot) : Prop where
  lt : i < N
  rep : Rep (tq bs ps y)
  syn : Syn bs ps i (tl (tq bs ps y)) R
  fit : 0 ≤ d.key ∧ d.key ≤ 1073741824 ∧ 0 ≤ d.pl.1 ∧ d.pl.1 < bs ∧ 0 ≤ d.pl.2 ∧ d.pl.2 < ps
  yes : rtk R d.key d.pl = true
abbrev dAt (l : List Do) (i : Nat) : Do := l.getD i ⟨0, (0, 0), me0, false⟩
abbrev acl (b : Nat) (a : Pl) : Ck C0 := ⟨b, 0, 2, true, none, .one [.int .i64 a.1, .int .i64 a.2]⟩
abbrev TAc (y : Yt') (k : Ck C0) (m : List (Ck C0)) : List (Ck C0) := match m with
  | [L, P, S, B, T, K, Q, X, C] => [L, P, S, B, T, kw' K y, pw' Q y, X, C, k]
  | _ => []
abbrev TBc (bs ps : Int) (y : Yt') (r : Rw) (k : Ck C0) (m : List (Ck C0)) : List (Ck C0) := match m with
  | [L, P, S, B, T, K, Q, X, C, _] => [L, P, S, B, T, kw' K y, pw' Q y, ow' X (xsl bs ps r), C, rck r, k]
  | _ => []
def JA0 (bs ps : Int) (N : Nat) (l : List Do) : Inv' C0 := ⟨1000018, (Nat × Nat × Pl × Bool) × Yt', fun x => [(18, .int .i64 (x.1.1 : Int)), (19, .ptr 9 0 0), (20, .bool (.tm x.1.2.2.2)), (21, .nili)], fun x m => TAc x.2 (acl x.1.2.1 x.1.2.2.1) m,
  fun x => Ok1 bs ps N x.1.1 (dAt l x.1.1) x.2 x.1.2.2.1 x.1.2.2.2 [], fun x => 0⟩
def JA2 (bs ps : Int) (N : Nat) (l : List Do) : Inv' C0 := ⟨1000018, (Nat × Nat) × Yt', fun x => [(18, .int .i64 (x.1.1 : Int)), (19, .ptr 9 0 0), (20, .bool .f), (21, er (Gl.A 2))], fun x m => TAc x.2 (acl x.1.2 (0, 0)) m,
  fun x => No1 bs ps N x.1.1 (dAt l x.1.1) x.2 [], fun x => 0⟩
def JB0 (bs ps : Int) (N : Nat) (l : List Do) : Inv' C0 := ⟨1000018, (Nat × Nat × Pl × Bool) × Yt' × Rw, fun x => [(18, .int .i64 (x.1.1 : Int)), (19, .ptr 10 0 0), (20, .bool (.tm x.1.2.2.2)), (21, .nili)], fun x m => TBc bs ps x.2.1 x.2.2 (acl x.1.2.1 x.1.2.2.1) m,
  fun x => Ok1 bs ps N x.1.1 (dAt l x.1.1) x.2.1 x.1.2.2.1 x.1.2.2.2 (rlw x.2.2) ∧ x.2.2.2.2.2.1 ≤ x.2.2.2.2.2.2 ∧ x.2.2.2.2.2.2 ≤ x.2.2.2.2.1.length, fun x => 0⟩
def JB2 (bs ps : Int) (N : Nat) (l : List Do) : Inv' C0 := ⟨1000018, (Nat × Nat) × Yt' × Rw, fun x => [(18, .int .i64 (x.1.1 : Int)), (19, .ptr 10 0 0), (20, .bool .f), (21, er (Gl.A 2))], fun x m => TBc bs ps x.2.1 x.2.2 (acl x.1.2 (0, 0)) m,
  fun x => No1 bs ps N x.1.1 (dAt l x.1.1) x.2.1 (rlw x.2.2) ∧ x.2.2.2.2.2.1 ≤ x.2.2.2.2.2.2 ∧ x.2.2.2.2.2.2 ≤ x.2.2.2.2.1.length, fun x => 0⟩
def JB1 (bs ps : Int) (N : Nat) (l : List Do) : Inv' C0 := ⟨1000018, (Nat × Nat) × Yt' × Rw, fun x => [(18, .int .i64 (x.1.1 : Int)), (19, .ptr 10 0 0), (20, .bool .f), (21, er (Gl.A 0))], fun x m => TBc bs ps x.2.1 x.2.2 (acl x.1.2 (0, 0)) m,
  fun x => Tk1 bs ps N x.1.1 (dAt l x.1.1) x.2.1 (rlw x.2.2) ∧ x.2.2.2.2.2.1 ≤ x.2.2.2.2.2.2 ∧ x.2.2.2.2.2.2 ≤ x.2.2.2.2.1.length, fun x => 0⟩
/-- The walk through the reference's list. -/
def FA : Inv' C0 := ⟨26, Unit, fun _ => [(31, .int .i64 0), (29, .int .i64 (-1)), (30, .int .i64 (-1)), (11, .ptr 10 0 0)], fun _ m => match m with
  | [L, P, S, B, T, K, Q, X, C, s] => [L, P, S, B, T, K, Q, X, C, s, S]
  | _ => [], fun _ => True, fun _ => 0⟩
structure Fx (bs ps : Int) (N : Nat) (k : Int) (p : Pl) (j : Nat) (f g : Int) (i : Nat) (y : Yt') (r : Rw) : Prop where
  sb : Sb bs ps N (i + 1) y r
  fl : Fl (rlw r) k p r.2.2.2.1 j f g
abbrev xsl' (bs ps : Int) (r : Rw) : List SV := [.int .i64 bs, .int .i64 ps, .sl 10 0 r.2.2.2.1 r.2.2.2.2]
def FB (bs ps : Int) (N : Nat) (k : Int) (p : Pl) : Inv' C0 := ⟨26, (Nat × Int × Int) × Nat × Yt' × Rw, fun x => [(31, .int .i64 (x.1.1 : Int)), (29, .int .i64 x.1.2.1), (30, .int .i64 x.1.2.2), (18, .int .i64 (x.2.1 : Int)),
    (26, .bool (.tm (lhas (tl (tq bs ps x.2.2.1)) k))), (27, .int .i64 (lwho (tl (tq bs ps x.2.2.1)) p)), (28, .bool (.tm (lat (tl (tq bs ps x.2.2.1)) p))), (25, .ptr 9 0 0)], fun x m => match m with
  | [L, P, S, B, T, K, Q, X, C, R, s] => [L, P, S, B, T, kw' K x.2.2.1, pw' Q x.2.2.1, ow' X (xsl' bs ps x.2.2.2), C, ow' s (slotE (lget (tl (tq bs ps x.2.2.1)) k)), rck x.2.2.2]
  | _ => [], fun x => Fx bs ps N k p x.1.1 x.1.2.1 x.1.2.2 x.2.1 x.2.2.1 x.2.2.2, fun x => x.2.2.2.2.2.2.1 - x.1.1⟩
/-- The rounds over the keys. -/
abbrev ck1 (b : Nat) (n : Nat) : Ck C0 := ⟨b, 0, 1, true, none, .one [.int .i64 (n : Int)]⟩
def RA : Inv' C0 := ⟨37, Nat × Nat, fun _ => [(32, .ptr 9 0 0), (289, .junk), (290, .junk)], fun x m => match m with
  | L :: P :: S :: B :: T :: K :: Q :: ⟨xb, xq, xs, xw, xg, .one [u, v, .nils]⟩ :: C :: _ => [L, P, S, B, T, K, Q, ⟨xb, xq, xs, xw, xg, .one [u, v, .nils]⟩, C, ck1 x.2 x.1]
  | _ => [], fun x => x.1 ≤ 2, fun x => 2 - x.1⟩
def RB : Inv' C0 := ⟨37, Nat × Nat, fun _ => [(32, .ptr 10 0 0), (289, .junk), (290, .junk)], fun x m => match m with
  | L :: P :: S :: B :: T :: K :: Q :: ⟨xb, xq, xs, xw, xg, .one [u, v, .sl r o n c]⟩ :: C :: R :: _ => [L, P, S, B, T, K, Q, ⟨xb, xq, xs, xw, xg, .one [u, v, .sl r o n c]⟩, C, R, ck1 x.2 x.1]
  | _ => [], fun x => x.1 ≤ 2, fun x => 2 - x.1⟩
def KN : Inv' C0 := ⟨1, Unit, fun _ => [(8, .int .i64 0), (6, .nils)], fun _ m => m, fun _ => True, fun _ => 0⟩
def KB : Inv' C0 := ⟨1, Nat × Nat, fun x => [(8, .int .i64 (x.1 : Int)), (7, .int .i64 (x.2 : Int))], fun x m => match m with
  | [L, P, S, B, T, K, Q, X, C, R, a, i, k, ⟨ab, aq, az, aw, ag, .rows 53 al⟩] => [L, P, S, B, T, K, Q, X, C, R, a, ow' i [.int .i64 (x.1 : Int)], k, ⟨ab, aq, az, aw, ag, .rows 53 al⟩]
  | _ => [], fun x => x.1 ≤ x.2, fun x => x.2 - x.1⟩
noncomputable def itKeys : It Tryd.prog C0 := ⟨34, Tryd.f34, _, ⟨[fcAll], [], 19, []⟩, [KN, KB], Tryd.func34, rfl, (by kernel_rfl), (by kernel_rfl)⟩
abbrev plan17 : List Tk := [.p 0, .p 1, .p 2, .p 3, .p 4, .p 5, .p 6, .p 7, .p 8, .p 9, .p 10, .p 11, .p 12, .p 13, .p 14, .p 15, .t (.two 16 (PTree.of [.p 17, .p 18, .p 19, .p 20, .e 21, .e 22, .p 23, .p 24]) 21 (PTree.of [.e 16, .p 17, .p 18, .p 19, .p 20, .e 22, .p 23, .p 24]))]
abbrev Apart : Prop := ∀ i j, i < 19 → j < 19 → Gl.A i = Gl.A j → i = j
theorem code2 (hA : Apart) : codeOf (Gl.A 2) = 102 := by
  unfold codeOf
  refine (idxE_at sentL _ 101 1 (by rw [sentL_len]; decide) (by unfold sentL; rfl) ?_).trans rfl
  intro j hj h
  unfold sentL at h
  rcases j with _ | j
  · exact absurd (hA _ _ (by decide) (by decide) (Option.some.inj h)) (by decide)
  · omega
theorem code0 (hA : Apart) : codeOf (Gl.A 0) = 110 := by
  unfold codeOf
  refine (idxE_at sentL _ 101 9 (by rw [sentL_len]; decide) (by unfold sentL; rfl) ?_).trans rfl
  intro j hj h
  unfold sentL at h
  rcases j with _ | _ | _ | _ | _ | _ | _ | _ | _ | j
  all_goals first | exact absurd (hA _ _ (by decide) (by decide) (Option.some.inj h)) (by decide) | omega
end Go.Vx
set_option linter.unusedSectionVars false
set_option maxRecDepth 100000
set_option linter.unusedVariables false
set_option linter.unusedSimpArgs false
namespace Go.Vx
open Go Go.Proofs
variable [Gl0]

theorem tok_of {bs ps : Int} {M : Nat} {y : Yt'} {R : List Slot} (hr : Rep (tq bs ps y)) (hs : Syn bs ps M (tl (tq bs ps y)) R) (hm : MayT bs ps) (hM : M ≤ 200) {x : Tb} (e1 : x.kl = y.1) (e2 : x.kc = y.2.1) (e3 : x.pl = y.2.2.1) (e4 : x.pc = y.2.2.2) : Tok x := by
  have e : tl x = tl (tq bs ps y) := congrArg (List.map (·.2.1)) e1
  refine ⟨hr.of e1 e2 e3 e4, fun s hs' => ?_, ?_⟩
  · rw [e] at hs'
    have h := hs.fit s (hs.perm.mem_iff.2 hs')
    have hm : 1 ≤ bs ∧ bs ≤ 64 ∧ 1 ≤ ps ∧ ps ≤ 64 := hm
    have := h.b1
    have := h.p1
    exact ⟨h.k0, h.k1, h.b0, by omega, h.p0, by omega⟩
  · have h1 := hs.len
    have h2 := hs.leng
    have h3 : (tl (tq bs ps y)).length = y.1.length := List.length_map _
    rw [e1]; omega
theorem rlw_len {r : Rw} (h1 : r.2.2.2.1 ≤ r.2.2.2.2) (h2 : r.2.2.2.2 ≤ r.2.2.1.length) : (rlw r).length = r.2.2.2.1 := by
  show (r.2.2.1.take r.2.2.2.1).length = _
  rw [List.length_take]; omega
theorem rk_of {bs ps : Int} {M : Nat} {T : List Slot} {r : Rw} (hs : Syn bs ps M T (rlw r)) (hM : M ≤ 200) (h1 : r.2.2.2.1 ≤ r.2.2.2.2) (h2 : r.2.2.2.2 ≤ r.2.2.1.length) : Rk r.2.2.1 r.2.2.2.1 r.2.2.2.2 := by
  have := hs.len
  rw [rlw_len h1 h2] at this
  exact ⟨h1, h2, by omega⟩
/-- Set, in step. -/
theorem Syn.put {bs ps : Int} {i : Nat} {T R : List Slot} (h : Syn bs ps i T R) {d : Do} (hf : 0 ≤ d.key ∧ d.key ≤ 1073741824 ∧ 0 ≤ d.pl.1 ∧ d.pl.1 < bs ∧ 0 ≤ d.pl.2 ∧ d.pl.2 < ps) (hn : rtk R d.key d.pl = false) : Syn bs ps (i + 1) (lset T ⟨d.key, d.pl, d.me⟩) (rins R ⟨d.key, d.pl, d.me⟩) := by
  obtain ⟨f1, f2, f3, f4, f5, f6⟩ := hf
  refine h.set ⟨f1, f2, f3, f4, f5, f6⟩ (h.ok.set (fun hat => ?_))
  have hat : lat T d.pl = true := hat
  show lwho T d.pl = d.key
  refine Classical.byContradiction fun hne => ?_
  have := (h.tk d.key d.pl).2 ⟨hat, hne⟩
  rw [hn] at this; cases this
theorem rtk_nil (k : Int) (p : Pl) : rtk [] k p = false := rfl
theorem le200 {i N : Nat} (h : i ≤ N) (h0 : decide ((100 : Int) < (N : Int)) = false) : i ≤ 200 := by
  have := of_decide_eq_false h0
  omega
theorem idx2 {i N : Nat} {l : List Do} (h : decide ((i : Int) < (N : Int)) = true) (hN : N ≤ l.length) : (i : Int).toNat + 0 < l.length := by
  have := of_decide_eq_true h
  show i < l.length
  omega
theorem lt2 {i N : Nat} (h : decide ((i : Int) < (N : Int)) = true) : i < N := by
  have := of_decide_eq_true h
  omega
theorem mayF {bs ps : Int} (h : (!(decide (1 ≤ bs) && decide (bs ≤ 64) && decide (1 ≤ ps) && decide (ps ≤ 64))) = false) : MayT bs ps := by
  simp only [Bool.not_eq_false', Bool.and_eq_true, decide_eq_true_eq] at h
  exact ⟨h.1.1.1, h.1.1.2, h.1.2, h.2⟩
theorem mayT' {bs ps : Int} (h : (!(decide (1 ≤ bs) && decide (bs ≤ 64) && decide (1 ≤ ps) && decide (ps ≤ 64))) = true) : ¬ MayT bs ps := by
  rintro ⟨a, b, c, d⟩
  simp [a, b, c, d] at h
theorem Syn.nilT {bs ps : Int} {i : Nat} {T : List Slot} (h : Syn bs ps i T []) : T = [] := h.perm.nil_eq.symm
theorem syn_dropA {bs ps : Int} {i : Nat} {T T' : List Slot} {k : Int} (h : Syn bs ps i T []) (e : T' = ldel T k) : Syn bs ps (i + 1) T' [] := by
  rw [e]; exact (h.drop k).mono (Nat.le_succ _)
theorem dropA_kill {bs ps : Int} {i : Nat} {T : List Slot} {k : Int} (h : Syn bs ps i T []) (h4 : (!(lhas T k == false)) = true) : False := by
  rw [h.nilT] at h4; cases h4
theorem ldel_id {R : List Slot} {k : Int} (h : lhas R k = false) : ldel R k = R := by
  unfold ldel
  rw [List.filter_eq_self]
  intro s hs
  have : ¬ s.key = k := fun e => by
    have := lhas_iff.2 ⟨s, hs, e⟩
    rw [h] at this; cases this
  simp [this]
theorem syn_drop0 {bs ps : Int} {i : Nat} {T T' R : List Slot} {k : Int} (h : Syn bs ps i T R) (e : T' = ldel T k) (hn : lhas R k = false) : Syn bs ps (i + 1) T' R := by
  have := (h.drop k).mono (Nat.le_succ i)
  rw [ldel_id hn] at this
  rw [e]; exact this
theorem syn_drop1 {bs ps : Int} {i : Nat} {T T' R R' : List Slot} {k : Int} (h : Syn bs ps i T R) (e : T' = ldel T k) (e' : R' = ldel R k) : Syn bs ps (i + 1) T' R' := by
  rw [e, e']; exact (h.drop k).mono (Nat.le_succ i)
theorem dropB0_kill {bs ps : Int} {i : Nat} {T R : List Slot} {k : Int} (h : Syn bs ps i T R) (hn : lhas R k = false) (h4 : (!(lhas T k == false)) = true) : False := by
  rw [h.has, hn] at h4; cases h4
theorem dropB1_kill {bs ps : Int} {i : Nat} {T R : List Slot} {k : Int} (h : Syn bs ps i T R) (hn : lhas R k = true) (h4 : (!(lhas T k == true)) = true) : False := by
  rw [h.has, hn] at h4; cases h4
theorem no_of {bs ps : Int} {i : Nat} {T R : List Slot} {k : Int} {p : Pl} (h : Syn bs ps i T R) (hn : ¬ (lat T p = true ∧ lwho T p ≠ k)) : rtk R k p = false := by
  cases hh : rtk R k p with
  | false => rfl
  | true => exact (hn ((h.tk k p).1 hh)).elim
theorem takenA {bs ps : Int} {i : Nat} {T : List Slot} {k : Int} {p : Pl} (h : Syn bs ps i T []) (hn : lat T p = true ∧ lwho T p ≠ k) : False := by
  have := (h.tk k p).2 hn
  cases this
section
variable {bs ps : Int} {N i : Nat} {d : Do} {y : Yt'} {a : Pl} {had : Bool}
theorem Ok1.synA (h : Ok1 bs ps N i d y a had []) : Syn bs ps (i + 1) (tl (tq bs ps y)) [⟨d.key, d.pl, d.me⟩] := by
  obtain ⟨T, h1, h2, _⟩ := h.ex
  rw [h2]; exact h1.put h.fit h.no
theorem Ok1.syn {R : List Slot} (h : Ok1 bs ps N i d y a had R) : Syn bs ps (i + 1) (tl (tq bs ps y)) (rins R ⟨d.key, d.pl, d.me⟩) := by
  obtain ⟨T, h1, h2, _⟩ := h.ex
  rw [h2]; exact h1.put h.fit h.no
theorem Ok1.pre {r : Rw} (h : Ok1 bs ps N i d y a had (rlw r)) (h0 : decide ((100 : Int) < (N : Int)) = false) (h1 : r.2.2.2.1 ≤ r.2.2.2.2) (h2 : r.2.2.2.2 ≤ r.2.2.1.length) : Rk r.2.2.1 r.2.2.2.1 r.2.2.2.2 ∧ Ris (rlw r) := by
  obtain ⟨T, h3, _⟩ := h.ex
  exact ⟨rk_of h3 (le200 (Nat.le_of_lt h.lt) h0) h1 h2, h3.ris⟩
theorem No1.pre {r : Rw} (h : No1 bs ps N i d y (rlw r)) (h0 : decide ((100 : Int) < (N : Int)) = false) (h1 : r.2.2.2.1 ≤ r.2.2.2.2) (h2 : r.2.2.2.2 ≤ r.2.2.1.length) : Rk r.2.2.1 r.2.2.2.1 r.2.2.2.2 ∧ Ris (rlw r) :=
  ⟨rk_of h.syn (le200 (Nat.le_of_lt h.lt) h0) h1 h2, h.syn.ris⟩
theorem Tk1.pre {r : Rw} (h : Tk1 bs ps N i d y (rlw r)) (h0 : decide ((100 : Int) < (N : Int)) = false) (h1 : r.2.2.2.1 ≤ r.2.2.2.2) (h2 : r.2.2.2.2 ≤ r.2.2.1.length) : Rk r.2.2.1 r.2.2.2.1 r.2.2.2.2 ∧ Ris (rlw r) :=
  ⟨rk_of h.syn (le200 (Nat.le_of_lt h.lt) h0) h1 h2, h.syn.ris⟩
theorem okA_kill (h : Ok1 bs ps N i d y a had []) (h5 : (!(decide (a.1 = 0) && decide (a.2 = 0)) || !(had == false) || !decide ((0 : Int) = 0)) = true) : False := by
  obtain ⟨T, h1, _, h3, h4⟩ := h.ex
  rw [h1.nilT] at h3 h4
  subst h3 h4
  cases h5
theorem okB_kill {R : List Slot} {b : Pl} {has : Bool} (h : Ok1 bs ps N i d y a had R) (hb : b = (lget R d.key).pl) (hh : has = lhas R d.key) (h5 : (!(decide (a.1 = b.1) && decide (a.2 = b.2)) || !(had == has) || !decide ((0 : Int) = 0)) = true) : False := by
  obtain ⟨T, h1, _, h3, h4⟩ := h.ex
  rw [h1.get] at h3
  rw [h1.has] at h4
  rw [h3, hb, h4, hh] at h5
  simp at h5
end
theorem code_kill {a : Addr} {c : Int} (hc : codeOf a = c) (h5 : (!(decide ((0 : Int) = 0) && decide ((0 : Int) = 0)) || !(false == false) || !decide (codeOf a = c)) = true) : False := by
  rw [decide_eq_true hc] at h5
  cases h5
section
variable {bs ps : Int} {N i j : Nat} {k : Int} {p : Pl} {f g : Int} {y : Yt'} {r : Rw}
theorem Fx.nle (h : Fx bs ps N k p j f g i y r) : r.2.2.2.1 ≤ i + 1 := by
  have := h.sb.syn.len
  rwa [rlw_len h.sb.cap h.sb.fit] at this
theorem Fx.idx (h : Fx bs ps N k p j f g i y r) (hj : decide ((j : Int) < (r.2.2.2.1 : Int)) = true) : (j : Int).toNat + 0 < r.2.2.1.length := by
  have := of_decide_eq_true hj
  have := h.sb.cap
  have := h.sb.fit
  show j < r.2.2.1.length
  omega
theorem Fx.inr (h : Fx bs ps N k p j f g i y r) (h0 : decide ((100 : Int) < (N : Int)) = false) (hj : decide ((j : Int) < (r.2.2.2.1 : Int)) = true) : inR .i64 ((j : Int) + 1) := by
  have := of_decide_eq_true hj
  have := of_decide_eq_false h0
  have := h.nle
  have := h.sb.le
  exact inR64 (by omega) (by omega)
theorem Fx.at (h : Fx bs ps N k p j f g i y r) {m : Nat} (hm : m < r.2.2.2.1) : (rlw r).getD m slot0 = r.2.2.1.getD m slot0 := rl_get hm
theorem Fx.step (h : Fx bs ps N k p j f g i y r) (hj : decide ((j : Int) < (r.2.2.2.1 : Int)) = true) {f' g' : Int} (hf : (f' = j ∧ decide ((r.2.2.1.getD j slot0).key = k) = true) ∨ (f' = f ∧ decide ((r.2.2.1.getD j slot0).key = k) = false))
    (hg : (g' = j ∧ (decide ((r.2.2.1.getD j slot0).pl.1 = p.1) && decide ((r.2.2.1.getD j slot0).pl.2 = p.2)) = true) ∨ (g' = g ∧ (decide ((r.2.2.1.getD j slot0).pl.1 = p.1) && decide ((r.2.2.1.getD j slot0).pl.2 = p.2)) = false)) : Fx bs ps N k p (j + 1) f' g' i y r := by
  have hj' : j < r.2.2.2.1 := by have := of_decide_eq_true hj; omega
  refine ⟨h.sb, h.fl.step hj' ?_ ?_⟩
  · rw [h.at hj']
    rcases hf with ⟨h1, h2⟩ | ⟨h1, h2⟩
    · exact .inl ⟨h1, of_decide_eq_true h2⟩
    · exact .inr ⟨h1, of_decide_eq_false h2⟩
  · rw [h.at hj']
    rcases hg with ⟨h1, h2⟩ | ⟨h1, h2⟩
    · simp only [Bool.and_eq_true, decide_eq_true_eq] at h2
      exact .inl ⟨h1, Prod.ext h2.1 h2.2⟩
    · refine .inr ⟨h1, fun e => ?_⟩
      rw [e] at h2
      simp at h2
theorem Fx.mless (hj : decide ((j : Int) < (r.2.2.2.1 : Int)) = true) : r.2.2.2.1 - (j + 1) < r.2.2.2.1 - j := by
  have := of_decide_eq_true hj
  omega
/-- All was walked through. -/
structure Dn (T R : List Slot) (k : Int) (p : Pl) (n : Nat) (f g : Int) : Prop where
  is : lhas T k = decide (0 ≤ f)
  f : 0 ≤ f → f < n ∧ R.getD f.toNat slot0 = lget T k
  pa : lat T p = decide (0 ≤ g)
  g : 0 ≤ g → g < n ∧ (R.getD g.toNat slot0).key = lwho T p
theorem Fx.dn (h : Fx bs ps N k p j f g i y r) (hj : decide ((j : Int) < (r.2.2.2.1 : Int)) = false) : Dn (tl (tq bs ps y)) (rlw r) k p r.2.2.2.1 f g := by
  have hj' : r.2.2.2.1 ≤ j := by have := of_decide_eq_false hj; omega
  have hn := rlw_len h.sb.cap h.sb.fit
  have hR := h.sb.syn.okR
  obtain ⟨h1, h2⟩ := h.fl.has hR hj' hn
  obtain ⟨h3, h4⟩ := h.fl.at hR hj' hn
  refine ⟨by rw [h.sb.syn.has, h1], fun hf => ?_, by rw [h.sb.syn.at, h3], fun hg => ?_⟩
  · obtain ⟨m, e1, e2, e3⟩ := h2 hf
    rw [h.sb.syn.get]
    exact ⟨by omega, by rw [e2]; exact e3⟩
  · obtain ⟨m, e1, e2, e3⟩ := h4 hg
    rw [h.sb.syn.who]
    exact ⟨by omega, by rw [e2]; exact e3⟩
theorem Dn.fpos {T R : List Slot} {n : Nat} (h : Dn T R k p n f g) (hi : lhas T k = true) : 0 ≤ f ∧ f < n := by
  rw [h.is] at hi
  have := of_decide_eq_true hi
  exact ⟨this, (h.f this).1⟩
theorem Dn.gpos {T R : List Slot} {n : Nat} (h : Dn T R k p n f g) (hi : lat T p = true) : 0 ≤ g ∧ g < n := by
  rw [h.pa] at hi
  have := of_decide_eq_true hi
  exact ⟨this, (h.g this).1⟩
theorem Dn.c1 {T R : List Slot} {n : Nat} (h : Dn T R k p n f g) (h7 : (!(lhas T k == decide (0 ≤ f))) = true) : False := by
  rw [h.is] at h7; simp at h7
theorem Fx.finr (h : Fx bs ps N k p j f g i y r) (h0 : decide ((100 : Int) < (N : Int)) = false) (hj : decide ((j : Int) < (r.2.2.2.1 : Int)) = false) (hi : lhas (tl (tq bs ps y)) k = true) : inR .i64 (f + 1) ∧ 0 ≤ f + 1 ∧ f + 1 ≤ (r.2.2.2.2 : Int) ∧ 0 ≤ f ∧ f ≤ f + 1 := by
  obtain ⟨h1, h2⟩ := (h.dn hj).fpos hi
  have := of_decide_eq_false h0
  have := h.nle
  have := h.sb.le
  have := h.sb.cap
  exact ⟨inR64 (by omega) (by omega), by omega, by omega, by omega, by omega⟩
theorem Fx.gidx (h : Fx bs ps N k p j f g i y r) (hj : decide ((j : Int) < (r.2.2.2.1 : Int)) = false) (hi : lat (tl (tq bs ps y)) p = true) : 0 ≤ g ∧ g < (r.2.2.2.1 : Int) ∧ g.toNat + 0 < r.2.2.1.length := by
  obtain ⟨h1, h2⟩ := (h.dn hj).gpos hi
  have := h.sb.cap
  have := h.sb.fit
  exact ⟨h1, h2, by omega⟩
theorem Fx.sslice (h : Fx bs ps N k p j f g i y r) (hj : decide ((j : Int) < (r.2.2.2.1 : Int)) = false) (hi : lhas (tl (tq bs ps y)) k = true) : srow r.2.2.2.2 f.toNat 0 + ((f + 1).toNat - f.toNat) ≤ r.2.2.1.length ∧ (r.2.2.1.drop (srow r.2.2.2.2 f.toNat 0)).take ((f + 1).toNat - f.toNat) = [lget (tl (tq bs ps y)) k] := by
  obtain ⟨h1, h2⟩ := (h.dn hj).fpos hi
  have h3 := ((h.dn hj).f h1).2
  have c1 := h.sb.cap
  have c2 := h.sb.fit
  have e1 : srow r.2.2.2.2 f.toNat 0 = f.toNat := by unfold srow; rw [if_neg (by omega)]; omega
  have e2 : (f + 1).toNat - f.toNat = 1 := by omega
  have h4 : f.toNat < r.2.2.1.length := by omega
  rw [e1, e2]
  refine ⟨by omega, ?_⟩
  rw [h.at (by omega)] at h3
  rw [← h3, List.drop_eq_getElem_cons h4, List.take_succ_cons, List.take_zero]
  simp [List.getD, h4]
/-- The pre's of the one slot. -/
theorem Fx.ss {Y1 : Rw} (h : Fx bs ps N k p j f g i y r) (hj : decide ((j : Int) < (r.2.2.2.1 : Int)) = false) (hi : lhas (tl (tq bs ps y)) k = true) (p1 : rlw Y1 = [lget (tl (tq bs ps y)) k] ∧ Y1.2.2.2.1 = 1 ∧ Y1.2.2.2.1 ≤ Y1.2.2.2.2 ∧ Y1.2.2.2.2 ≤ Y1.2.2.1.length) :
    0 + Y1.2.2.2.1 ≤ Y1.2.2.1.length ∧ srow r.2.2.2.2 f.toNat 0 + ((f + 1).toNat - f.toNat) ≤ r.2.2.1.length ∧ Y1.2.2.2.1 < 1048576 :=
  ⟨by obtain ⟨_, _, c, d⟩ := p1; omega, (h.sslice hj hi).1, by rw [p1.2.1]; decide⟩
theorem Fx.rest (h : Fx bs ps N k p j f g i y r) (hj : decide ((j : Int) < (r.2.2.2.1 : Int)) = false) {L : Nat} (hL : L = (tl (tq bs ps y)).length) {K : Int} (hK : K = (r.2.2.1.getD (g.toNat + 0) slot0).key)
    (h9 : ((!(lat (tl (tq bs ps y)) p == decide (0 ≤ g))) || (lat (tl (tq bs ps y)) p && decide (lwho (tl (tq bs ps y)) p ≠ K)) || decide ((L : Int) ≠ (r.2.2.2.1 : Int))) = true) : False := by
  have hd := h.dn hj
  have hn := rlw_len h.sb.cap h.sb.fit
  have hl := h.sb.syn.leng
  rw [hd.pa] at h9
  rcases Bool.or_eq_true_iff.1 h9 with h9 | h9
  · rcases Bool.or_eq_true_iff.1 h9 with h9 | h9
    · simp at h9
    · simp only [Bool.and_eq_true, decide_eq_true_eq] at h9
      obtain ⟨h1, h2⟩ := hd.g h9.1
      rw [h.at (by omega)] at h2
      exact h9.2 (by rw [hK]; exact h2.symm)
  · have := of_decide_eq_true h9
    rw [hL, hl, hn] at this
    exact this rfl
theorem Fx.killT {Y1 : Rw} (h : Fx bs ps N k p j f g i y r) (hj : decide ((j : Int) < (r.2.2.2.1 : Int)) = false) (hi : lhas (tl (tq bs ps y)) k = true) (p1 : rlw Y1 = [lget (tl (tq bs ps y)) k] ∧ Y1.2.2.2.1 = 1 ∧ Y1.2.2.2.1 ≤ Y1.2.2.2.2 ∧ Y1.2.2.2.2 ≤ Y1.2.2.1.length)
    {L : Nat} (hL : L = (tl (tq bs ps y)).length) {K : Int} (hK : K = (r.2.2.1.getD (g.toNat + 0) slot0).key)
    (h9 : ((!lEq (List.take Y1.2.2.2.1 (List.drop 0 Y1.2.2.1)) ((r.2.2.1.drop (srow r.2.2.2.2 f.toNat 0)).take ((f + 1).toNat - f.toNat))) || (!(lat (tl (tq bs ps y)) p == decide (0 ≤ g))) || (lat (tl (tq bs ps y)) p && decide (lwho (tl (tq bs ps y)) p ≠ K)) || decide ((L : Int) ≠ (r.2.2.2.1 : Int))) = true) : False := by
  have e : lEq (List.take Y1.2.2.2.1 (List.drop 0 Y1.2.2.1)) ((r.2.2.1.drop (srow r.2.2.2.2 f.toNat 0)).take ((f + 1).toNat - f.toNat)) = true := by
    rw [(h.sslice hj hi).2]
    exact lEq_yes p1.1
  rw [e] at h9
  exact h.rest hj hL hK h9
/-- The block's slots. -/
theorem Fx.ofNil (h : Fx bs ps N k p j f g i y r) (hm : MayT bs ps) (b : Int) (e : ofTo (rlw r) b ps.toNat = []) : (tl (tq bs ps y)).filter (inBlk b) = [] := by
  have hm : 1 ≤ bs ∧ bs ≤ 64 ∧ 1 ≤ ps ∧ ps ≤ 64 := hm
  have := h.sb.syn.of_perm b (by omega)
  rw [e] at this
  exact this.nil_eq.symm
theorem Fx.ofLen (h : Fx bs ps N k p j f g i y r) (hm : MayT bs ps) (b : Int) : ((tl (tq bs ps y)).filter (inBlk b)).length = (ofTo (rlw r) b ps.toNat).length := by
  have hm : 1 ≤ bs ∧ bs ≤ 64 ∧ 1 ≤ ps ∧ ps ≤ 64 := hm
  exact (h.sb.syn.of_perm b (by omega)).length_eq.symm
theorem Fx.ofEq (h : Fx bs ps N k p j f g i y r) (hm : MayT bs ps) (b : Int) {L : List Slot} (hL : Srt lePage ((tl (tq bs ps y)).filter (inBlk b)) L) : L = ofTo (rlw r) b ps.toNat := by
  have hm : 1 ≤ bs ∧ bs ≤ 64 ∧ 1 ≤ ps ∧ ps ≤ 64 := hm
  exact h.sb.syn.of b (by omega) hL
/-- One way says that there is none, the other one that there is one. -/
theorem og_no {A l : List Slot} {n c : Nat} (h : Og A l n c) (e : A = []) : False := by
  have h1 := h.len
  have h2 := h.pos
  rw [e] at h1
  simp at h1; omega
theorem srt_no {A L : List Slot} (h : Srt lePage A L) (hp : 0 < L.length) (e : A = []) : False := by
  have := h.perm.length_eq
  rw [e] at this
  simp at this
  rw [this] at hp
  simp at hp
theorem Fx.ogSrt (h : Fx bs ps N k p j f g i y r) (hm : MayT bs ps) {b : Int} {l : List Slot} {n c : Nat} (hO : Og (ofTo (rlw r) b ps.toNat) l n c) (e : (tl (tq bs ps y)).filter (inBlk b) = []) : False := by
  have h1 := h.ofLen hm b
  rw [e, hO.len] at h1
  have := hO.pos
  simp at h1; omega
theorem Fx.len0 (h : Fx bs ps N k p j f g i y r) (hm : MayT bs ps) {b : Int} (e : ofTo (rlw r) b ps.toNat = []) {L : Nat} (hL : L = ((tl (tq bs ps y)).filter (inBlk b)).length) (h10 : decide ((L : Int) ≠ 0) = true) : False := by
  have := of_decide_eq_true h10
  rw [hL, h.ofNil hm b e] at this
  exact this rfl
theorem Fx.lenN (h : Fx bs ps N k p j f g i y r) (hm : MayT bs ps) {b : Int} {l : List Slot} {n c : Nat} (hO : Og (ofTo (rlw r) b ps.toNat) l n c) {L : Nat} (hL : L = ((tl (tq bs ps y)).filter (inBlk b)).length) (h10 : decide ((L : Int) ≠ (n : Int)) = true) : False := by
  have := of_decide_eq_true h10
  rw [hL, h.ofLen hm b, hO.len] at this
  exact this rfl
/-- The block's slots, told by both. -/
theorem Fx.same (h : Fx bs ps N k p j f g i y r) (hm : MayT bs ps) {b : Int} {L sp : List Slot} {Y : Rw} {l : List Slot} {n c : Nat} (hS : Srt lePage ((tl (tq bs ps y)).filter (inBlk b)) L) (hY : rlw Y = List.take L.length (List.drop 0 (L ++ sp)) ∧ Y.2.2.2.1 = L.length ∧ Y.2.2.2.1 ≤ Y.2.2.2.2 ∧ Y.2.2.2.2 ≤ Y.2.2.1.length) (hO : Og (ofTo (rlw r) b ps.toNat) l n c)
    (h11 : (!lEq (List.take Y.2.2.2.1 (List.drop 0 Y.2.2.1)) (List.take n (List.drop 0 l))) = true) : False := by
  have e1 : List.take Y.2.2.2.1 (List.drop 0 Y.2.2.1) = L := by
    have := hY.1
    show rlw Y = L
    rw [this, List.drop_zero, List.take_append_of_le_length (Nat.le_refl _), List.take_of_length_le (Nat.le_refl _)]
  have e2 : List.take n (List.drop 0 l) = ofTo (rlw r) b ps.toNat := hO.eq
  rw [e1, e2, lEq_yes (h.ofEq hm b hS)] at h11
  cases h11
end
theorem dec2 {a b N : Nat} (h3 : (a : Int) = (b : Int)) (hl : b + 1 ≤ N) : N - (b + 1) < N - a := by omega
theorem dec3 {a b c N : Nat} (h3 : (a : Int) = (b : Int)) (h4 : (b : Int) = (c : Int)) (hl : c + 1 ≤ N) : N - (c + 1) < N - a := by omega
theorem inr2 {c N : Nat} (hl : c + 1 ≤ N) (h0 : decide ((100 : Int) < (N : Int)) = false) : inR .i64 ((c : Int) + 1) := by
  have := of_decide_eq_false h0
  exact inR64 (by omega) (by omega)
theorem rd_inr {rd : Nat} (h : decide ((rd : Int) < 2) = true) : inR .i64 ((rd : Int) + 1) := by
  have := of_decide_eq_true h
  exact inR64 (by omega) (by omega)
theorem rd_le {rd : Nat} (h : decide ((rd : Int) < 2) = true) : rd + 1 ≤ 2 := by
  have := of_decide_eq_true h
  omega
theorem rd_ms {rd : Nat} (h : decide ((rd : Int) < 2) = true) : 2 - (rd + 1) < 2 - rd := by
  have := of_decide_eq_true h
  omega
theorem all_no {bs ps : Int} {i : Nat} {T L : List Slot} {A : Prop} (h : Syn bs ps i T []) (p : Srt leKey T L ∧ 0 < L.length ∧ A) : False := by
  have := p.1.perm.length_eq
  rw [h.nilT] at this
  have := p.2.1
  simp_all
theorem br_kill {A X : Bool} (h8 : X = true) (h9 : (A && !X) = true) : False := by
  rw [h8] at h9; cases A <;> cases h9
section
variable {bs ps : Int} {N i : Nat} {y : Yt'} {r : Rw}
theorem Sb.n0 (h : Sb bs ps N i y r) (e : tl (tq bs ps y) = []) : r.2.2.2.1 = 0 ∧ rlw r = [] := by
  have h1 := h.syn.leng
  rw [e, rlw_len h.cap h.fit] at h1
  have h2 := rlw_len h.cap h.fit
  have h3 : r.2.2.2.1 = 0 := by simpa using h1.symm
  rw [h3] at h2
  exact ⟨h3, List.length_eq_zero_iff.1 h2⟩
theorem Sb.nsPre (h : Sb bs ps N i y r) : 0 + r.2.2.2.1 ≤ r.2.2.1.length := by
  have := h.cap
  have := h.fit
  omega
theorem Sb.nsKill (h : Sb bs ps N i y r) (e : tl (tq bs ps y) = []) (h3 : (!lEq [] (List.take r.2.2.2.1 (List.drop 0 r.2.2.1))) = true) : False := by
  have e' : lEq [] (List.take r.2.2.2.1 (List.drop 0 r.2.2.1)) = true := lEq_yes (h.n0 e).2.symm
  rw [e'] at h3
  cases h3
theorem Sb.z (h : Sb bs ps N i y r) (e : tl (tq bs ps y) = []) {B : Bool} (h6 : (decide ((0 : Int) ≠ (r.2.2.2.1 : Int)) && B) = true) : False := by
  rw [(h.n0 e).1] at h6
  simp at h6
variable {L sp : List Slot}
theorem Sb.lm (h : Sb bs ps N i y r) (p : Srt leKey (tl (tq bs ps y)) L) : L.length = r.2.2.2.1 ∧ L = rlw r := by
  have e := h.syn.all p
  exact ⟨by rw [e]; exact rlw_len h.cap h.fit, e⟩
theorem kb_lt {j m : Nat} (h5 : (L.length : Int) = (m : Int)) (h6 : decide ((j : Int) < (m : Int)) = true) : (j : Int) < (L.length : Int) := by
  have := of_decide_eq_true h6
  omega
theorem kb_ix {j m : Nat} (h5 : (L.length : Int) = (m : Int)) (h6 : decide ((j : Int) < (m : Int)) = true) : (j : Int).toNat + 0 < (L ++ sp).length := by
  have := of_decide_eq_true h6
  rw [List.length_append]
  omega
theorem Sb.kbLt (h : Sb bs ps N i y r) (p : Srt leKey (tl (tq bs ps y)) L) {j m : Nat} (h5 : (L.length : Int) = (m : Int)) (h6 : decide ((j : Int) < (m : Int)) = true) : (j : Int) < (r.2.2.2.1 : Int) ∧ (j : Int).toNat + 0 < r.2.2.1.length := by
  have := of_decide_eq_true h6
  have h1 := (h.lm p).1
  have := h.cap
  have := h.fit
  exact ⟨by omega, by omega⟩
theorem Sb.kbKill (h : Sb bs ps N i y r) (p : Srt leKey (tl (tq bs ps y)) L) {j m : Nat} (h5 : (L.length : Int) = (m : Int)) (h6 : decide ((j : Int) < (m : Int)) = true)
    (h7 : (decide ((r.2.2.2.1 : Int) ≤ (j : Int)) || decide ((j : Int) ≠ (j : Int)) || decide (((L ++ sp).getD ((j : Int).toNat + 0) slot0).key ≠ (r.2.2.1.getD ((j : Int).toNat + 0) slot0).key)) = true) : False := by
  obtain ⟨h1, h2⟩ := h.lm p
  have h6' := of_decide_eq_true h6
  have hj : j < L.length := by omega
  have e : (L ++ sp).getD ((j : Int).toNat + 0) slot0 = r.2.2.1.getD ((j : Int).toNat + 0) slot0 := by
    show (L ++ sp).getD j slot0 = r.2.2.1.getD j slot0
    rw [show (L ++ sp).getD j slot0 = L.getD j slot0 by simp [List.getD, List.getElem?_append_left hj], h2]
    exact rl_get (by omega)
  rw [e] at h7
  have : ¬ ((r.2.2.2.1 : Int) ≤ (j : Int)) := by omega
  simp [this] at h7
theorem Sb.kbEnd (h : Sb bs ps N i y r) (p : Srt leKey (tl (tq bs ps y)) L) {j m : Nat} (h5 : (L.length : Int) = (m : Int)) (hle : j ≤ m) (h6 : decide ((j : Int) < (m : Int)) = false) {B : Bool} (h7 : (decide ((j : Int) ≠ (r.2.2.2.1 : Int)) && B) = true) : False := by
  have := of_decide_eq_false h6
  have h1 := (h.lm p).1
  have : (j : Int) = (r.2.2.2.1 : Int) := by omega
  simp [this] at h7
theorem kb_inr {j m : Nat} {M : Nat} (hM : m ≤ M) (hM' : M ≤ 1000000) (h6 : decide ((j : Int) < (m : Int)) = true) : inR .i64 ((j : Int) + 1) := by
  have := of_decide_eq_true h6
  exact inR64 (by omega) (by omega)
theorem Sb.kbIn (h : Sb bs ps N i y r) (h0 : decide ((100 : Int) < (N : Int)) = false) (p : Srt leKey (tl (tq bs ps y)) L) {j m : Nat} (h5 : (L.length : Int) = (m : Int)) (h6 : decide ((j : Int) < (m : Int)) = true) : inR .i64 ((j : Int) + 1) := by
  have := of_decide_eq_true h6
  have h1 := (h.lm p).1
  have h2 := h.syn.len
  rw [rlw_len h.cap h.fit] at h2
  have := h.le
  have := of_decide_eq_false h0
  exact inR64 (by omega) (by omega)
theorem kb_ms {j m : Nat} (h6 : decide ((j : Int) < (m : Int)) = true) : j + 1 ≤ m ∧ m - (j + 1) < m - j := by
  have := of_decide_eq_true h6
  omega
theorem Sb.asPre (h : Sb bs ps N i y r) (h0 : decide ((100 : Int) < (N : Int)) = false) (p : Srt leKey (tl (tq bs ps y)) L) (hp : 0 < L.length) : 0 + L.length ≤ (L ++ sp).length ∧ 0 < L.length ∧ L.length < 524288 := by
  have h1 := (h.lm p).1
  have h2 := h.syn.len
  rw [rlw_len h.cap h.fit] at h2
  have := h.le
  have := of_decide_eq_false h0
  exact ⟨by rw [List.length_append]; omega, hp, by omega⟩
theorem Sb.ssPre (h : Sb bs ps N i y r) (h0 : decide ((100 : Int) < (N : Int)) = false) (p : Srt leKey (tl (tq bs ps y)) L) {Y : Rw} (hY : rlw Y = List.take L.length (List.drop 0 (L ++ sp)) ∧ Y.2.2.2.1 = L.length ∧ Y.2.2.2.1 ≤ Y.2.2.2.2 ∧ Y.2.2.2.2 ≤ Y.2.2.1.length) :
    0 + Y.2.2.2.1 ≤ Y.2.2.1.length ∧ 0 + r.2.2.2.1 ≤ r.2.2.1.length ∧ Y.2.2.2.1 < 1048576 := by
  have h1 := (h.lm p).1
  have h2 := h.syn.len
  rw [rlw_len h.cap h.fit] at h2
  have := h.le
  have := of_decide_eq_false h0
  obtain ⟨_, a, b, c⟩ := hY
  exact ⟨by omega, h.nsPre, by omega⟩
theorem Sb.ssKill (h : Sb bs ps N i y r) (p : Srt leKey (tl (tq bs ps y)) L) {Y : Rw} (hY : rlw Y = List.take L.length (List.drop 0 (L ++ sp)) ∧ Y.2.2.2.1 = L.length ∧ Y.2.2.2.1 ≤ Y.2.2.2.2 ∧ Y.2.2.2.2 ≤ Y.2.2.1.length)
    (h3 : (!lEq (List.take Y.2.2.2.1 (List.drop 0 Y.2.2.1)) (List.take r.2.2.2.1 (List.drop 0 r.2.2.1))) = true) : False := by
  have e1 : List.take Y.2.2.2.1 (List.drop 0 Y.2.2.1) = L := by
    show rlw Y = L
    rw [hY.1, List.drop_zero, List.take_append_of_le_length (Nat.le_refl _), List.take_of_length_le (Nat.le_refl _)]
  have e2 : List.take r.2.2.2.1 (List.drop 0 r.2.2.1) = L := (h.lm p).2.symm
  rw [e1, e2, lEq_yes rfl] at h3
  cases h3
end
section
variable {bs ps : Int} {N i j : Nat} {k : Int} {p : Pl} {f g : Int} {y : Yt'} {r : Rw}
/-- The pre's of the block's slots. -/
theorem Fx.bsPre (h : Fx bs ps N k p j f g i y r) (h0 : decide ((100 : Int) < (N : Int)) = false) {b : Int} {L sp : List Slot} (hS : Srt lePage ((tl (tq bs ps y)).filter (inBlk b)) L) (hp : 0 < L.length) : 0 + L.length ≤ (L ++ sp).length ∧ 0 < L.length ∧ L.length < 524288 := by
  have h1 := hS.perm.length_eq
  have h2 := List.length_filter_le (inBlk b) (tl (tq bs ps y))
  have h3 := h.sb.syn.leng
  rw [rlw_len h.sb.cap h.sb.fit] at h3
  have := h.nle
  have := h.sb.le
  have := of_decide_eq_false h0
  exact ⟨by rw [List.length_append]; omega, hp, by omega⟩
theorem Fx.bssPre (h : Fx bs ps N k p j f g i y r) (h0 : decide ((100 : Int) < (N : Int)) = false) {b : Int} {L sp : List Slot} (hS : Srt lePage ((tl (tq bs ps y)).filter (inBlk b)) L) {Y : Rw} (hY : rlw Y = List.take L.length (List.drop 0 (L ++ sp)) ∧ Y.2.2.2.1 = L.length ∧ Y.2.2.2.1 ≤ Y.2.2.2.2 ∧ Y.2.2.2.2 ≤ Y.2.2.1.length)
    {A l : List Slot} {n c : Nat} (hO : Og A l n c) : 0 + Y.2.2.2.1 ≤ Y.2.2.1.length ∧ 0 + n ≤ l.length ∧ Y.2.2.2.1 < 1048576 := by
  have h1 := hS.perm.length_eq
  have h2 := List.length_filter_le (inBlk b) (tl (tq bs ps y))
  have h3 := h.sb.syn.leng
  rw [rlw_len h.sb.cap h.sb.fit] at h3
  have := h.nle
  have := h.sb.le
  have := of_decide_eq_false h0
  have := hO.cap
  have := hO.fit
  obtain ⟨_, a, b', c'⟩ := hY
  exact ⟨by omega, by omega, by omega⟩
theorem Fx.rk (h : Fx bs ps N k p j f g i y r) (h0 : decide ((100 : Int) < (N : Int)) = false) : Rk r.2.2.1 r.2.2.2.1 r.2.2.2.2 := rk_of h.sb.syn (le200 h.sb.le h0) h.sb.cap h.sb.fit
theorem may_ps {bs ps : Int} (h : MayT bs ps) : 1 ≤ ps ∧ ps ≤ 64 := ⟨h.2.2.1, h.2.2.2⟩
end
section
variable {bs ps : Int} {i : Nat} {T : List Slot} (hs : Syn bs ps i T [])
include hs
theorem isA {k : Int} (h : lhas T k = true) : False := by rw [hs.nilT] at h; cases h
theorem latA {p : Pl} (h : lat T p = true) : False := by rw [hs.nilT] at h; cases h
theorem latN (p : Pl) : lat T p = false := by rw [hs.nilT]; rfl
theorem c1A {k : Int} (h : (!(lhas T k == decide ((0 : Int) ≤ -1))) = true) : False := by
  rw [hs.nilT] at h
  revert h
  show (!(false == decide ((0 : Int) ≤ -1))) = true → False
  decide
theorem filA (b : Int) : T.filter (inBlk b) = [] := by rw [hs.nilT]; rfl
theorem restA {p : Pl} {b : Int} (h : ((!(lat T p == decide ((0 : Int) ≤ -1))) || decide ((T.length : Int) ≠ 0) || decide (((T.filter (inBlk b)).length : Int) ≠ 0)) = true) : False := by
  rw [hs.nilT] at h
  revert h
  show ((!(false == decide ((0 : Int) ≤ -1))) || decide (((0 : Nat) : Int) ≠ 0) || decide (((0 : Nat) : Int) ≠ 0)) = true → False
  decide
end
end Go.Vx
