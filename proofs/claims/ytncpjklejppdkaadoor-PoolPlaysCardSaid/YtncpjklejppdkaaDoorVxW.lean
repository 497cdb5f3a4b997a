/-
  The symbolic evaluator, twenty-first part: the walk of a frame that calls yield, that is a round's, or that ranges over a function.
  Conditions: none.
-/
import Derived.Test.YtncpjklejppdkaaDoorVxV
set_option linter.unusedVariables false
namespace Go.Vx
open Go
variable {C : Nat → Codec}

theorem draw_any {P : Program} {S : Sx} {w0 w : World} {E : Env P C} {ops : Array Oper} {Q : Act → World → Prop} {tm : Tm} {m : List (Ck C)} {K : Tm → List (Ck C) → Tr} {a : Act}
    {F : List Nat} {pl : List Tk} (hp : planned ops pl = true) (hin : inMem F m) (hs : splan E ops F m pl tm m K) (h : ActOK (ads m) E.n tm a) (hm : MemOK S w0 w m)
    (hq : ∀ tm' m' a' w', K tm' m' → ActOK (ads m') E.n tm' a' → MemOK S w0 w' m' → (m.length ≤ m'.length ∧ ∀ k, k < m.length → ads m k = ads m' k) → Q a' w') :
    wpAny P .any ops (fun e a w => match e with | .normal => Q a w | _ => False) ops.size (Array.replicate ops.size false) a { w with drawn := w.drawn + 1 } := by
  unfold planned at hp
  simp only [Bool.and_eq_true] at hp
  obtain ⟨⟨h1, h2⟩, h3⟩ := hp
  have h3 := Nat.eq_of_beq_eq_true h3
  have hm0 : memLt m.length m = true := by
    unfold inMem at hin
    split at hin
    · rename_i hc; exact (Bool.and_eq_true_iff.1 hc).1
    · exact hin.elim
  have := splan_ok (S := S) (w0 := w0) hm0 (Q := fun e a w => match e with | .normal => Q a w | _ => False) (fun c a w hc => hc) (L := lates pl) (F0 := F) h1 pl false F _ tm m K a (by simp) h2 hs h hm.glob (fun _ _ => rfl) (Nat.le_refl _) (fun _ _ => rfl) rfl (fun tm' m' a' w' hk h' hm' hg => hq _ _ _ _ hk h' hm' hg)
  rw [h3] at this
  exact wpAT_any _ _ _ _ (Hy_sound _ _ _ _ (fun l w _ hm => .inr (Stay.of hm hm0 (fun _ _ => rfl) (fun _ _ => rfl))) this hm.drew)

/-- The chunks' places that must stay. -/
def FixOK (A0 : Nat → Ad) (fx : List Nat) (m : List (Ck C)) : Prop := ∀ c ∈ fx, c < m.length ∧ ads m c = A0 c
theorem FixOK.grow {A0 : Nat → Ad} {fx : List Nat} {m m' : List (Ck C)} (h : FixOK A0 fx m) (hl : m.length ≤ m'.length) (ha : ∀ k, k < m.length → ads m k = ads m' k) : FixOK A0 fx m' := by
  intro c hc
  obtain ⟨h1, h2⟩ := h c hc
  exact ⟨by omega, (ha c h1).symm.trans h2⟩
def fixB (ρ : List Nat) (n : Nat) : List Nat → Bool
  | [] => true
  | c :: r => Nat.beq (rn ρ c) c && Nat.blt c n && fixB ρ n r
theorem fixB_ok {ρ : List Nat} {n : Nat} : ∀ {fx : List Nat}, fixB ρ n fx = true → ∀ c ∈ fx, rn ρ c = c ∧ c < n
  | [], _, c, hc => by cases hc
  | x :: r, h, c, hc => by
    simp only [fixB, Bool.and_eq_true] at h
    rcases List.mem_cons.1 hc with rfl | hc
    · exact ⟨Nat.eq_of_beq_eq_true h.1.1, by simpa using h.1.2⟩
    · exact fixB_ok h.2 c hc

mutual
/-- The chunks that a value names. -/
def SV.nm : SV → List Nat
  | .ptr c _ _ => [c]
  | .sl c _ _ _ => [c]
  | .agg vs => SV.nms vs
  | .tup vs => SV.nms vs
  | .ifc _ v => SV.nm v
  | .fn _ a b => SV.nms a ++ SV.nms b
  | .cnd _ v => SV.nm v
  | _ => []
def SV.nms : List SV → List Nat
  | [] => []
  | v :: r => SV.nm v ++ SV.nms r
end
mutual
theorem SV.va_nm {ad ad' : Nat → Ad} : ∀ v : SV, (∀ c ∈ v.nm, ad c = ad' c) → SV.va ad v = SV.va ad' v
  | .junk, _ | .undef, _ | .int _ _, _ | .bool _, _ | .nilp, _ | .nils, _ | .nili, _ | .nilf, _ | .gp _, _ | .val _, _ => by simp [SV.va]
  | .ptr c i f, h => by simp [SV.va, h c (by simp [SV.nm])]
  | .sl c i f m, h => by simp [SV.va, h c (by simp [SV.nm])]
  | .agg vs, h => by simp [SV.va, SV.vas_nm vs (by simpa [SV.nm] using h)]
  | .tup vs, h => by simp [SV.va, SV.vas_nm vs (by simpa [SV.nm] using h)]
  | .ifc t v, h => by simp [SV.va, SV.va_nm v (by simpa [SV.nm] using h)]
  | .fn f a b, h => by
    simp only [SV.nm, List.mem_append] at h
    simp [SV.va, SV.vas_nm a (fun c hc => h c (.inl hc)), SV.vas_nm b (fun c hc => h c (.inr hc))]
  | .cnd cs v, h => by simp [SV.va, SV.va_nm v (by simpa [SV.nm] using h)]
theorem SV.vas_nm {ad ad' : Nat → Ad} : ∀ vs : List SV, (∀ c ∈ SV.nms vs, ad c = ad' c) → SV.vas ad vs = SV.vas ad' vs
  | [], _ => rfl
  | v :: r, h => by
    simp only [SV.nms, List.mem_append] at h
    simp [SV.vas, SV.va_nm v (fun c hc => h c (.inl hc)), SV.vas_nm r (fun c hc => h c (.inr hc))]
end
def tmNm : Tm → List Nat
  | [] => []
  | (_, v) :: r => SV.nm v ++ tmNm r
theorem tmNm_get : ∀ {tm : Tm} {t c : Nat}, c ∈ (get tm t).nm → c ∈ tmNm tm
  | [], t, c, h => by simp [get, SV.nm] at h
  | (k, v) :: r, t, c, h => by
    rw [get_put] at h
    simp only [tmNm, List.mem_append]
    split at h
    · exact .inl h
    · exact .inr (tmNm_get h)
theorem ActOK.fixed {ad ad' : Nat → Ad} {n : Nat} {tm : Tm} {a : Act} (h : ActOK ad n tm a) (he : ∀ c ∈ tmNm tm, ad c = ad' c) : ActOK ad' n tm a := by
  refine ⟨h.defers, h.size, fun t => ?_, h.inv⟩
  rcases h.tmps t with h1 | h1
  · exact .inl h1
  · right; rw [h1, SV.va_nm _ (fun c hc => he c (tmNm_get hc))]

def subRx (fx : List Nat) (tm : Tm) (m : List (Ck C)) (tm' : Tm) (m' : List (Ck C)) (ρ : List Nat) : Tr :=
  match fixB ρ m'.length fx with
  | false => .no
  | true => subR tm m tm' m' ρ
/-- 'subP', and these chunks keep their names. -/
def subPx (fx : List Nat) (tm : Tm) (m : List (Ck C)) (tm' : Tm) (m' : List (Ck C)) (acc : List (Nat × Nat)) : Tr :=
  fP acc fun acc => unifMemK m 0 m' acc fun A => fNames (namesOf A 0 m') fun ρ => subRx fx tm m tm' m' ρ
theorem subPx_ok {S : Sx} {w0 w : World} {n : Nat} {fx : List Nat} {A0 : Nat → Ad} {tm tm' : Tm} {m m' : List (Ck C)} {acc : List (Nat × Nat)} (h : subPx fx tm m tm' m' acc) {a : Act} (ha : ActOK (ads m) n tm a) (hm : MemOK S w0 w m) (hx : FixOK A0 fx m) :
    ActOK (ads m') n tm' a ∧ MemOK S w0 w m' ∧ FixOK A0 fx m' := by
  unfold subPx at h
  rw [fP_eq, unifMemK_eq, fNames_eq] at h
  unfold subRx at h
  split at h
  · exact h.elim
  rename_i hf
  have hP : (subP tm m tm' m' acc).holds := by rw [subP_eq]; exact h
  obtain ⟨h1, h2⟩ := subP_ok hP ha hm
  refine ⟨h1, h2, fun c hc => ?_⟩
  obtain ⟨hr, hl⟩ := fixB_ok hf c hc
  refine ⟨hl, ?_⟩
  -- the places
  unfold subR at h
  split at h <;> try (first | contradiction | exact False.elim h)
  split at h <;> try (first | contradiction | exact False.elim h)
  rename_i ps qs hps hqs
  obtain ⟨hps', _⟩ := (allOf_append _ _).1 (allLf_ok h)
  obtain ⟨_, hk⟩ := cksEq_ok hps hps'
  obtain ⟨_, qs', h3, h4⟩ := hk c hl
  have he := ckEq_ok h3 h4
  have := (hx c hc).2
  rw [← this, ← congrArg (ads m) hr]
  simp [ads, Ck.ad, he.block, he.base, he.sz]

/-- A jump that a round has left. -/
abbrev PJ := Option Ex
/-- How a call of yield is gone through: what is handed, the caller's slots, the chunks. -/
abbrev Yf (C : Nat → Codec) := List SV → Tm → List (Ck C) → (Bool → PJ → List (Ck C) → Tr) → Tr
/-- How a range over a function is gone through. -/
abbrev Rf (C : Nat → Codec) := Operand → Array Tmp → Code → Code → Tm → List (Ck C) → (Ex → Tm → List (Ck C) → Tr) → Tr

/-- A call of yield that no guard stands ahead of. -/
def yieldOf (tm : Tm) (m : List (Ck C)) (o : Oper) : Option (Nat × List SV) :=
  match o.guard with
  | some _ => none
  | none => match o.op with
    | .call c => match c.callee with
      | .value f => match ev tm m [] f, optAll (ev tm m []) c.args.toList with
        | some (.fn (.yield l) [] []), some as => some (l, as)
        | _, _ => none
      | _ => none
    | _ => none

def stepY {P : Program} (E : Env P C) (Y : Option (Nat × Yf C)) (ops : Array Oper) (o : Oper) (pj : PJ) (tm : Tm) (m : List (Ck C)) (K : PJ → Tm → List (Ck C) → Tr) : Tr :=
  match Y with
  | none => stepP E ops o tm m (K pj)
  | some (l, go) => match yieldOf tm m o with
    | none => stepP E ops o tm m (K pj)
    | some (l', as) => match pj with
      | some _ => .no
      | none => .and (.lf (l' = l)) (go as tm m fun b pj' m' => match put? E.n tm o.dst [] (.bool (SB.lit b)) with
        | some tm' => K pj' tm' m'
        | none => .no)

def sopsG {P : Program} (E : Env P C) (Y : Option (Nat × Yf C)) (ops : Array Oper) : List Oper → PJ → Tm → List (Ck C) → (PJ → Tm → List (Ck C) → Tr) → Tr
  | [], pj, tm, m, K => K pj tm m
  | o :: r, pj, tm, m, K => stepY E Y ops o pj tm m fun pj' tm' m' => fTm1 tm' fun tm' => fM m' fun m' => sopsG E Y ops r pj' tm' m' K

/-- Where things stand: which objects lie where, by the jump that is left and the marks. -/
structure Gs where
  r : Option Nat
  Sp : PJ → List Nat → Sx
  w0 : World
  dm : List Nat → List Deferred
  A0 : Nat → Ad
  fx : List Nat

/-- A call of yield is gone through rightly. -/
def YOK (P : Program) (G : Gs) (Y : Option (Nat × Yf C)) : Prop :=
  ∀ l go, Y = some (l, go) → ∀ as tm (m : List (Ck C)) Kc w ds R, (go as tm m Kc : Tr).holds → MemOK (G.Sp none ds) G.w0 w m → FixOK G.A0 G.fx m →
    (∀ b pj m' w', (Kc b pj m').holds → MemOK (G.Sp pj ds) G.w0 w' m' → FixOK G.A0 G.fx m' → (∀ c ∈ tmNm tm, c < m'.length ∧ ads m' c = ads m c) → R (.returned (.bool b)) w') →
    ∃ fn tmps assign body, (Instr.yield l (SV.vas (ads m) as).toArray).run P w = .ok (.round l fn tmps assign body) w ∧ RoundIn (FR G.r) 0 P l fn tmps assign body w R
/-- A range over a function is gone through rightly. -/
def ROK (P : Program) (n : Nat) (G : Gs) (RF : Rf C) : Prop :=
  ∀ g ps as bd tm (m : List (Ck C)) K a w (Q : Exit → Act → World → Prop) ds, (RF g ps as bd tm m K).holds → ActOK (ads m) n tm a → MemOK (G.Sp none ds) G.w0 w m → FixOK G.A0 G.fx m →
    (∀ e tm' m' a' w' ds', (K e tm' m').holds → ActOK (ads m') n tm' a' → MemOK (G.Sp none ds') G.w0 w' m' → FixOK G.A0 G.fx m' → Q (Ex.of e) (wa a' (G.dm ds')) w') → (Code.rangeFunc g ps as bd).wpIn (FR G.r) 0 P Q (wa a (G.dm ds)) w

theorem sopsG_ok {P : Program} {G : Gs} {E : Env P C} {Y : Option (Nat × Yf C)} (hY : YOK P G Y) {ops : Array Oper} {ds : List Nat} {Q : Exit → Act → World → Prop} : ∀ {l : List Oper} (hnd : ∀ o ∈ l, ∀ c, o.op ≠ .defer c) {pj : PJ} {tm : Tm} {m : List (Ck C)} {K : PJ → Tm → List (Ck C) → Tr} {a : Act} {w : World},
    (sopsG E Y ops l pj tm m K).holds → ActOK (ads m) E.n tm a → MemOK (G.Sp pj ds) G.w0 w m → FixOK G.A0 G.fx m →
    (∀ pj' tm' m' a' w', (K pj' tm' m').holds → ActOK (ads m') E.n tm' a' → MemOK (G.Sp pj' ds) G.w0 w' m' → FixOK G.A0 G.fx m' → Q .normal (wa a' (G.dm ds)) w') → wpListIn (FR G.r) 0 P ops Q l (wa a (G.dm ds)) w
  | [], _, pj, tm, m, K, a, w, hs, h, hm, hx, hq => hq _ _ _ _ _ hs h hm hx
  | o :: r, hnd, pj, tm, m, K, a, w, hs, h, hm, hx, hq => by
    have hndr : ∀ o ∈ r, ∀ c, o.op ≠ .defer c := fun o ho => hnd o (List.mem_cons_of_mem _ ho)
    have ht : (wa a (G.dm ds)).tmps = a.tmps := rfl
    have plain : stepP E ops o tm m (fun tm' m' => fTm1 tm' fun tm' => fM m' fun m' => sopsG E Y ops r pj tm' m' K) → wpListIn (FR G.r) 0 P ops Q (o :: r) (wa a (G.dm ds)) w := by
      intro hs
      obtain ⟨h1, h2⟩ := stepP_ok (Q := fun _ _ _ => False) (next := fun a' w' => wpListIn (FR G.r) 0 P ops Q r (wa a' (G.dm ds)) w') hs h hm (fun tm' m' a' w' hk h' hm' hads => by
        simp only [fTm1_eq, fM_eq] at hk
        exact sopsG_ok hY hndr hk h' hm' (hx.grow hads.1 hads.2) hq)
      unfold wpListIn
      rw [ht]
      split
      · rename_i hw
        refine Oper.wpIn_mono ?_ (wpIn_of_wp (r := G.r) (n := 0) (ds := G.dm ds) (hnd o (List.mem_cons_self ..)) (h1 hw) fun e b w hb => hb.elim)
        rintro a' w' ⟨b, hb, rfl⟩; exact hb
      · rename_i hw
        refine ⟨fun f _ => FR_fn _ f, ?_⟩
        rw [wa_put]
        exact h2 (by simpa using hw)
    simp only [sopsG] at hs
    unfold stepY at hs
    split at hs
    · exact plain hs
    · rename_i l go
      split at hs
      · exact plain hs
      · rename_i l' as hyo
        split at hs
        · exact hs.elim
        obtain ⟨hl, hs⟩ := hs
        have hl : l' = l := hl
        subst hl
        -- the call
        unfold yieldOf at hyo
        split at hyo <;> try contradiction
        rename_i hg
        split at hyo <;> try contradiction
        rename_i c hop
        split at hyo <;> try contradiction
        rename_i fo hcal
        split at hyo <;> try contradiction
        rename_i l2 as2 hf has
        simp only [Option.some.injEq, Prod.mk.injEq] at hyo
        obtain ⟨rfl, rfl⟩ := hyo
        have hnil : AlOK tm [] := by intro p hp; cases hp
        have ef := ev_ok h hm.glob hnil _ _ hf
        have eas := optAll_ok (g := SV.va (ads m)) (ev_ok h hm.glob hnil) has
        unfold wpListIn
        rw [ht, if_pos (by simp [Region.wanted, hg])]
        refine ⟨fun f _ => FR_fn _ f, ?_⟩
        rw [wa_eval, Oper.semAt_eq _ _ _ (hnd o (List.mem_cons_self ..))]
        obtain ⟨fn, tmps, assign, body, hy, hR⟩ := hY _ _ rfl as2 tm m _ w ds (fun e w'' => match e with
            | .returned v => wpListIn (FR G.r) 0 P ops Q r ((wa a (G.dm ds)).put o.dst v) w''
            | _ => False) hs hm hx (by
          intro b pj' m' w' hk hm' hx' hfx
          split at hk
          · rename_i tm' hp
            show wpListIn (FR G.r) 0 P ops Q r ((wa a (G.dm ds)).put o.dst (.bool b)) w'
            rw [wa_put]
            have hA : ActOK (ads m') E.n tm a := h.fixed (fun c hc => ((hfx c hc).2).symm)
            have hA' := put_ok hA hp (by simp) (.bool b) (by simp [mkc, SV.va, SB.val_lit])
            simp only [fTm1_eq, fM_eq] at hk
            exact sopsG_ok hY hndr hk hA' hm' hx' hq
          · exact hk.elim)
        have hexec : (execOp a.eval o).run P w = .ok (.round l2 fn tmps assign body) w := by
          have hargs : c.args.map a.eval = (SV.vas (ads m) as2).toArray := by
            apply Array.ext'
            simp [SV.vas_eq, eas]
          obtain ⟨dst, op, type, pos, after, guard⟩ := o
          simp only at hop
          subst hop
          obtain ⟨callee, args, argTypes⟩ := c
          simp only at hcal
          subst hcal
          simp only at hargs
          simp only [execOp, resolve, ef, SV.va, SV.vas, hargs, Deferred.ofValue]
          simp [invoke, hy]
        rw [hexec]
        refine ⟨fun hd => (by rw [FR_depth] at hd; cases hd), hR.mono ?_⟩
        intro e w'' he
        cases e with
        | returned v => exact he
        | panicked _ => exact he.elim
        | outgrown => exact he.elim


def sregG {P : Program} (E : Env P C) (Y : Option (Nat × Yf C)) (id : Nat) (ops : Array Oper) (draw : Bool) (pj : PJ) (tm : Tm) (m : List (Ck C)) (K : PJ → Tm → List (Ck C) → Tr) : Tr :=
  match noDefer ops.toList with
  | false => .no
  | true => match draw with
    | false => sopsG E Y ops ops.toList pj tm m K
    | true => match findPlan id E.plans with
      | none => .and (.lf (Region.lexB .any ops = true)) (sopsQ E ops m ops.toList tm fun tm' => K pj tm' m)
      | some (F, pl) => .and (.lf (planned ops pl = true)) (.and (inMem F m) (splan E ops F m pl tm m (K pj)))

/-- A piece of code, in a frame that may call yield. -/
def sexecG {P : Program} (E : Env P C) (L : List (Inv' C)) (fx : List Nat) (Y : Option (Nat × Yf C)) (RF : Rf C) : Code → PJ → Tm → List (Ck C) → (Ex → PJ → Tm → List (Ck C) → Tr) → Tr
  | .skip, pj, tm, m, K => K .nor pj tm m
  | .region id ops draw, pj, tm, m, K => sregG E Y id ops draw pj tm m fun pj' tm' m' => K .nor pj' tm' m'
  | .seq a b, pj, tm, m, K => sexecG E L fx Y RF a pj tm m fun e pj' tm' m' => match e with
    | .nor => sexecG E L fx Y RF b pj' tm' m' K
    | e => K e pj' tm' m'
  | .cond c x y, pj, tm, m, K => match ev tm m [] c with
    | some (.bool .t) => sexecG E L fx Y RF x pj tm m K
    | some (.bool .f) => sexecG E L fx Y RF y pj tm m K
    | some (.bool (.tm b)) => .and (.imp (b = true) (sexecG E L fx Y RF x pj tm m K)) (.imp (b = false) (sexecG E L fx Y RF y pj tm m K))
    | _ => .no
  | .block id c, pj, tm, m, K => sexecG E L fx Y RF c pj tm m fun e pj' tm' m' => match e with
    | .exit i => match Nat.beq i id with
      | true => K .nor pj' tm' m'
      | false => K (.exit i) pj' tm' m'
    | e => K e pj' tm' m'
  | .loop c, pj, tm, m, K => match pj with
    | some _ => .no
    | none => fL (findInvs (firstId c) L) fun Is => fLN (writes c) fun ws =>
      .and (.lf (Stands Is fun I x0 => I.inv x0 ∧ (linked (linkP ws tm (I.tm x0)) (subPx fx tm m (I.tm x0 ++ keepTm (keysOf (I.tm x0) ++ ws) tm) (I.mem x0 m) (unifTm tm (I.tm x0)))).holds))
        (allI Is fun I => .all fun x => ifNo (linkNo ws tm (I.tm x)) (.imp (I.inv x) (linkT (linkP ws tm (I.tm x)) (fTm (I.tm x ++ keepTm (keysOf (I.tm x) ++ ws) tm) fun tmL => fM (I.mem x m) fun mL => sexecG E L fx Y RF c none tmL mL fun e pj' tm' m' => match e with
          | .nor => match pj' with
            | some _ => .no
            | none => Tr.lf (Stands Is fun I' x' => I'.inv x' ∧ I'.meas x' < I.meas x ∧ (linked (linkP ws tm (I'.tm x')) (subPx fx tm' m' (I'.tm x' ++ keepTm (keysOf (I'.tm x') ++ ws) tm) (I'.mem x' m) (unifTm tm' (I'.tm x')))).holds)
          | e => K e pj' tm' m'))))
  | .exit id, pj, tm, m, K => K (.exit id) pj tm m
  | .ret, pj, tm, m, K => K .ret pj tm m
  | .rangeFunc g ps as bd, pj, tm, m, K => match pj with
    | some _ => .no
    | none => RF g ps as bd tm m fun e tm' m' => K e none tm' m'
  | _, _, _, _, _ => .no

theorem wpIn_loop' {F : Fence} {n : Nat} {P : Program} {Q : Exit → Act → World → Prop} {a : Act} {w : World} {c : Code} (I : Nat → Act → World → Prop) (k0 : Nat) (h₀ : I k0 a w)
    (round : ∀ k a w, I k a w → c.wpIn F n P (Exit.then (fun a' w' => ∃ k', k' < k ∧ I k' a' w') Q) a w) : (Code.loop c).wpIn F n P Q a w := by
  intro b k cs hro hb hr
  have key : ∀ j a w, I j a w → ∃ e a' w', Q e a' w' ∧ ArrivesIn (Machine.fenced P F) P (lone (b.atR a (.code c :: .inLoop c :: k)) cs w) b k cs e a' w' := by
    intro j
    induction j using Nat.strongRecOn with
    | _ j ih =>
      intro a w hI
      obtain ⟨e, a₁, w₁, hq, harr⟩ := round j a w hI b (.inLoop c :: k) cs hro hb hr
      cases e with
      | normal =>
        obtain ⟨j', hlt, hI₁⟩ := hq
        obtain ⟨e₂, a₂, w₂, hq₂, harr₂⟩ := ih j' hlt a₁ w₁ hI₁
        exact ⟨e₂, a₂, w₂, hq₂, .of_steps (StepsIn.trans harr (.one (fenced_calm hb hr rfl) stepR_inLoop)) harr₂⟩
      | exit id => exact ⟨_, a₁, w₁, hq, .pass (x := .inLoop c) rfl (fun _ _ => .inl (by simp)) harr⟩
      | goto l => exact ⟨_, a₁, w₁, hq, .pass (x := .inLoop c) rfl (fun _ _ => .inl (by simp)) harr⟩
      | ret => exact ⟨_, a₁, w₁, hq, .pass (x := .inLoop c) rfl (fun _ _ => .inl (by simp)) harr⟩
      | panic ch => exact ⟨_, a₁, w₁, hq, .pass (x := .inLoop c) rfl (fun _ _ => .inl (by simp)) harr⟩
      | outgrown => exact ⟨_, a₁, w₁, hq, .pass (x := .inLoop c) rfl (fun _ _ => .inl (by simp)) harr⟩
  obtain ⟨e, a', w', hq, harr⟩ := key k0 a w h₀
  exact ⟨e, a', w', hq, .of_steps (.one (fenced_calm hb hr rfl) stepR_loop) harr⟩

theorem sexecG_ok {P : Program} (hmix : P.follows .mixedOrders = true) {G : Gs} {E : Env P C} {L : List (Inv' C)} {Y : Option (Nat × Yf C)} {RF : Rf C} (hY : YOK P G Y) (hR : ROK P E.n G RF) :
    ∀ {c : Code} {pj : PJ} {tm : Tm} {m : List (Ck C)} {K : Ex → PJ → Tm → List (Ck C) → Tr} {a : Act} {w : World} {ds : List Nat} {Q : Exit → Act → World → Prop},
    (sexecG E L G.fx Y RF c pj tm m K).holds → ActOK (ads m) E.n tm a → MemOK (G.Sp pj ds) G.w0 w m → FixOK G.A0 G.fx m →
    (∀ e pj' tm' m' a' w' ds', (K e pj' tm' m').holds → ActOK (ads m') E.n tm' a' → MemOK (G.Sp pj' ds') G.w0 w' m' → FixOK G.A0 G.fx m' → Q (Ex.of e) (wa a' (G.dm ds')) w') → c.wpIn (FR G.r) 0 P Q (wa a (G.dm ds)) w := by
  intro c
  induction c with
  | skip => intro pj tm m K a w ds Q hs h hm hx hq; exact wpIn_skip (hq _ _ _ _ _ _ _ hs h hm hx)
  | region id ops draw =>
    intro pj tm m K a w ds Q hs h hm hx hq
    simp only [sexecG, sregG] at hs
    split at hs
    · exact hs.elim
    rename_i hnd
    have hnd' := noDefer_ok hnd
    cases draw with
    | false => exact wpIn_region_list (sopsG_ok hY hnd' hs h hm hx (fun pj' tm' m' a' w' hk h' hm' hx' => hq _ _ _ _ _ _ _ hk h' hm' hx'))
    | true =>
      have hndi : ∀ (i : Nat) (o : Oper), ops[i]? = some o → ∀ c, o.op ≠ .defer c := fun i o ho => hnd' o (by
        have := List.mem_of_getElem? (l := ops.toList) (i := i) (by simpa using ho)
        exact this)
      have fin : ∀ (Q0 : Act → World → Prop), (∀ a' w', Q0 a' w' → Q .normal (wa a' (G.dm ds)) w') →
          wpAny P .any ops (fun e a w => match e with | .normal => Q0 a w | _ => False) ops.size (Array.replicate ops.size false) a { w with drawn := w.drawn + 1 } → (Code.region id ops true).wpIn (FR G.r) 0 P Q (wa a (G.dm ds)) w := by
        intro Q0 h0 hA
        refine Go.wpIn_mono (wpIn_region_any hmix (wpAnyIn_of hndi (fun _ _ h => h) _ _ _ _ hA)) ?_
        rintro e a' w' ⟨b, hb, rfl⟩
        cases e with
        | normal => exact h0 _ _ hb
        | _ => exact hb.elim
      simp only at hs
      split at hs
      · obtain ⟨hB, hs⟩ := hs
        have hB' : Region.lexB .any ops = true := hB
        simp only [Region.lexB, Bool.and_eq_true] at hB'
        refine fin (fun a' w' => Q .normal (wa a' (G.dm ds)) w') (fun _ _ h => h) ?_
        refine wpAny_of_quiet (C := fun w => MemOK (G.Sp pj ds) G.w0 w m) (Q := fun a' => ∀ w', MemOK (G.Sp pj ds) G.w0 w' m → Q .normal (wa a' (G.dm ds)) w') (fun _ w' hw' h => h w' hw') _ _ _ _ hm.drew ?_
        have := wpAnyQ_lex (C := fun w => MemOK (G.Sp pj ds) G.w0 w m) (md := .any) hB'.1 ops.toList 0 (Array.replicate ops.size false) a (by simp) (by simpa using hB'.2)
          (sopsQ_ok (Q := fun a' => ∀ w', MemOK (G.Sp pj ds) G.w0 w' m → Q .normal (wa a' (G.dm ds)) w') hm.glob hs h (fun tm' a' hk h' w' hm' => hq _ _ _ _ _ _ _ hk h' hm' hx))
        simpa using this
      · exact fin (fun a' w' => ∃ tm' m', (K .nor pj tm' m').holds ∧ ActOK (ads m') E.n tm' a' ∧ MemOK (G.Sp pj ds) G.w0 w' m' ∧ FixOK G.A0 G.fx m')
          (fun a' w' ⟨tm', m', hk, h', hm', hx'⟩ => hq _ _ _ _ _ _ _ hk h' hm' hx') (by
            refine draw_any hs.1 hs.2.1 hs.2.2 h hm (fun tm' m' a' w' hk h' hm' hg => ⟨tm', m', hk, h', hm', hx.grow hg.1 hg.2⟩))
  | seq x y ihx ihy =>
    intro pj tm m K a w ds Q hs h hm hx hq
    refine wpIn_seq (ihx hs h hm hx fun e pj' tm' m' a' w' ds' hk h' hm' hx' => ?_)
    cases e with
    | nor => exact ihy hk h' hm' hx' hq
    | exit i => exact hq _ _ _ _ _ _ _ hk h' hm' hx'
    | ret => exact hq _ _ _ _ _ _ _ hk h' hm' hx'
  | cond c x y ihx ihy =>
    intro pj tm m K a w ds Q hs h hm hx hq
    have hnil : AlOK tm [] := by intro p hp; cases hp
    simp only [sexecG] at hs
    split at hs <;> try (first | contradiction | exact False.elim hs)
    · rename_i hc
      exact wpIn_cond (t := true) (by rw [wa_eval]; exact ev_ok h hm.glob hnil _ _ hc) (ihx hs h hm hx hq)
    · rename_i hc
      exact wpIn_cond (t := false) (by rw [wa_eval]; exact ev_ok h hm.glob hnil _ _ hc) (ihy hs h hm hx hq)
    · rename_i b hc
      cases b with
      | true => exact wpIn_cond (t := true) (by rw [wa_eval]; exact ev_ok h hm.glob hnil _ _ hc) (ihx (hs.1 rfl) h hm hx hq)
      | false => exact wpIn_cond (t := false) (by rw [wa_eval]; exact ev_ok h hm.glob hnil _ _ hc) (ihy (hs.2 rfl) h hm hx hq)
  | block id c ih =>
    intro pj tm m K a w ds Q hs h hm hx hq
    refine wpIn_block (ih hs h hm hx fun e pj' tm' m' a' w' ds' hk h' hm' hx' => ?_)
    cases e with
    | nor => exact hq _ _ _ _ _ _ _ hk h' hm' hx'
    | exit i =>
      simp only [Ex.of, Exit.inBlock]
      simp only at hk
      split at hk
      · rename_i hb
        rw [if_pos (Nat.eq_of_beq_eq_true hb)]
        exact hq _ _ _ _ _ _ _ hk h' hm' hx'
      · rename_i hb
        rw [if_neg (Nat.ne_of_beq_eq_false hb)]
        exact hq _ _ _ _ _ _ _ hk h' hm' hx'
    | ret => exact hq _ _ _ _ _ _ _ hk h' hm' hx'
  | loop c ih =>
    intro pj tm m K a w ds Q hs h hm hx hq
    simp only [sexecG, fL_eq, fLN_eq] at hs
    split at hs
    · exact hs.elim
    obtain ⟨⟨I0, hI0, x0, hi0, hs0⟩, hround⟩ := hs
    have hround := allI_ok hround
    obtain ⟨hl0, hs0⟩ := linked_ok hs0
    obtain ⟨ha0, hm0, hx0⟩ := subPx_ok hs0 h hm hx
    refine wpIn_loop' (fun n a w => ∃ I ∈ findInvs (firstId c) L, ∃ x, ∃ b ds, a = wa b (G.dm ds) ∧ (I.inv x ∧ allOf (linkP (writes c) tm (I.tm x))) ∧ I.meas x = n ∧ ActOK (ads (I.mem x m)) E.n (I.tm x ++ keepTm (keysOf (I.tm x) ++ writes c) tm) b ∧ MemOK (G.Sp none ds) G.w0 w (I.mem x m) ∧ FixOK G.A0 G.fx (I.mem x m)) (I0.meas x0) ⟨I0, hI0, x0, a, ds, rfl, ⟨hi0, hl0⟩, rfl, ha0, hm0, hx0⟩ ?_
    rintro n a1 w1 ⟨I, hI, x, b, ds1, rfl, ⟨hix, hlx⟩, rfl, hax, hmx, hxx⟩
    have hro := (ifNo_h (hround I hI x)).resolve_left (fun hno => linkNo_ok hno hlx)
    have hro := linkT_ok (hro hix) hlx
    simp only [fTm_eq, fM_eq] at hro
    refine ih hro hax hmx hxx fun e pj' tm' m' a' w' ds' hk h' hm' hx' => ?_
    cases e with
    | nor =>
      simp only at hk
      split at hk
      · exact hk.elim
      obtain ⟨I', hI', x', hi', hlt, hs'⟩ := hk
      obtain ⟨hl', hs'⟩ := linked_ok hs'
      obtain ⟨ha', hm'', hx''⟩ := subPx_ok hs' h' hm' hx'
      exact ⟨I'.meas x', hlt, I', hI', x', a', ds', rfl, ⟨hi', hl'⟩, rfl, ha', hm'', hx''⟩
    | exit i => exact hq _ _ _ _ _ _ _ hk h' hm' hx'
    | ret => exact hq _ _ _ _ _ _ _ hk h' hm' hx'
  | exit id => intro pj tm m K a w ds Q hs h hm hx hq; exact wpIn_exit (hq _ _ _ _ _ _ _ hs h hm hx)
  | ret => intro pj tm m K a w ds Q hs h hm hx hq; exact wpIn_ret (hq _ _ _ _ _ _ _ hs h hm hx)
  | rangeFunc g ps as bd _ _ =>
    intro pj tm m K a w ds Q hs h hm hx hq
    simp only [sexecG] at hs
    split at hs
    · exact hs.elim
    exact hR _ _ _ _ _ _ _ _ _ _ _ hs h hm hx fun e tm' m' a' w' ds' hk h' hm' hx' => hq _ _ _ _ _ _ _ hk h' hm' hx'
  | scope _ _ => intro pj tm m K a w ds Q hs; exact False.elim hs
  | label _ => intro pj tm m K a w ds Q hs; exact False.elim hs
  | goto _ => intro pj tm m K a w ds Q hs; exact False.elim hs
  | refuse _ => intro pj tm m K a w ds Q hs; exact False.elim hs

end Go.Vx
