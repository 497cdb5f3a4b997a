/-
  The symbolic evaluator, seventeenth part: functions and their contracts.
  Conditions: none.
-/
import Derived.Test.YtgbgfdmhmahonaaDoorVxP
namespace Go.Vx
open Go
variable {C : Nat → Codec}

def initTm : Nat → List SV → Tm
  | _, [] => []
  | k, v :: r => (k, v) :: initTm (k + 1) r

def retOne (P : Program) (tm : Tm) (m : List (Ck C)) : ResultVar → Ans
  | .tmp t => match get tm t with
    | .junk => none
    | .cnd _ _ => none
    | v => some ([], v)
  | .cell a t => match get tm a with
    | .ptr c i f => loadSV P m t c i f
    | _ => none
def retAll (P : Program) (tm : Tm) (m : List (Ck C)) : List ResultVar → Option (List Prop × List SV)
  | [] => some ([], [])
  | x :: r => match retOne P tm m x, retAll P tm m r with
    | some (p, v), some (q, vs) => some (p ++ q, v :: vs)
    | _, _ => none
def retSV (P : Program) (fn : Func) (tm : Tm) (m : List (Ck C)) : Ans :=
  match fn.results.toList with
  | [x] => retOne P tm m x
  | l => (retAll P tm m l).map fun (p, vs) => (p, .tup vs)

def readRes (tmps : Array Value) : ResultVar → Sem Value
  | .tmp t => pure (tmps.getD t Go.undef)
  | .cell b t => do loadVar t (← asAddr (tmps.getD b Go.undef))

theorem retOne_ok {P : Program} {S : Sx} {w0 w : World} {n : Nat} {tm : Tm} {m : List (Ck C)} {a : Act} (h : ActOK (ads m) n tm a) (hm : MemOK S w0 w m) {x : ResultVar} {ps : List Prop} {r : SV}
    (hr : retOne P tm m x = some (ps, r)) (hp : allOf ps) :
    (readRes a.tmps x).run P w = .ok (r.va (ads m)) w := by
  cases x with
  | tmp t =>
    simp only [retOne] at hr
    have key : ∀ v, get tm t = v → v ≠ .junk → (a.tmps.getD t Go.undef) = v.va (ads m) := by
      intro v hv hj
      rcases h.tmps t with h1 | h1
      · exact absurd (hv.symm.trans h1) hj
      · simp [h1, hv]
    split at hr <;> try (first | contradiction | exact False.elim hr)
    rename_i h1 h2
    simp only [Option.some.injEq, Prod.mk.injEq] at hr
    obtain ⟨rfl, rfl⟩ := hr
    simp only [readRes, Sem.run_pure]
    rw [key _ rfl h1]
  | cell b t =>
    simp only [retOne] at hr
    split at hr <;> try (first | contradiction | exact False.elim hr)
    rename_i c i f hg
    have hl := loadSV_ok hm hr hp
    rcases h.tmps b with h1 | h1
    · rw [hg] at h1; cases h1
    · rw [hg] at h1
      simp [readRes, h1, SV.va, asAddr, hl]

theorem retSV_ok {P : Program} {S : Sx} {w0 w : World} {n : Nat} {tm : Tm} {m : List (Ck C)} {a : Act} (h : ActOK (ads m) n tm a) (hm : MemOK S w0 w m) {fn : Func} {ps : List Prop} {r : SV}
    (hr : retSV P fn tm m = some (ps, r)) (hp : allOf ps) : (results fn a.tmps).run P w = .ok (r.va (ads m)) w := by
  have hall : ∀ (l : List ResultVar) (ps : List Prop) (vs : List SV), retAll P tm m l = some (ps, vs) → allOf ps →
      (l.mapM (readRes a.tmps)).run P w = .ok (SV.vas (ads m) vs) w := by
    intro l
    induction l with
    | nil => intro ps vs hr _; simp [retAll] at hr; obtain ⟨rfl, rfl⟩ := hr; rfl
    | cons x l ih =>
      intro ps vs hr hp
      simp only [retAll] at hr
      split at hr <;> try (first | contradiction | exact False.elim hr)
      rename_i p v q vs' h1 h2
      simp only [Option.some.injEq, Prod.mk.injEq] at hr
      obtain ⟨rfl, rfl⟩ := hr
      have hpq := (allOf_append p q).1 hp
      have e1 := retOne_ok h hm h1 hpq.1
      have e2 := ih _ _ h2 hpq.2
      simp only [List.mapM_cons, Sem.run_bind, e1, Result.andThen_ok, e2, Sem.run_pure, SV.vas]
  have hres : results fn a.tmps = (do
      let vs ← fn.results.mapM (readRes a.tmps)
      pure (if h : vs.size = 1 then vs[0] else .tuple vs)) := by
    unfold results
    congr 1
  have hmap : ∀ vs, (fn.results.toList.mapM (readRes a.tmps)).run P w = .ok vs w →
      (fn.results.mapM (readRes a.tmps)).run P w = .ok vs.toArray w := by
    intro vs hvs
    rw [← Array.toArray_toList (xs := fn.results), List.mapM_toArray]
    simp only [Sem.run_map, hvs, Result.andThen_ok]
  rw [hres]
  unfold retSV at hr
  split at hr
  · rename_i x hx
    have e1 := retOne_ok h hm hr hp
    have := hmap [r.va (ads m)] (by rw [hx]; simp only [List.mapM_cons, List.mapM_nil, Sem.run_bind, e1, Result.andThen_ok, Sem.run_pure])
    simp only [Sem.run_bind, this, Result.andThen_ok, Sem.run_pure]
    simp
  · rename_i hne
    cases hra : retAll P tm m fn.results.toList with
    | none => simp [hra] at hr
    | some q =>
      obtain ⟨p, vs⟩ := q
      simp only [hra, Option.map_some, Option.some.injEq, Prod.mk.injEq] at hr
      obtain ⟨rfl, rfl⟩ := hr
      have := hmap _ (hall _ _ _ hra hp)
      have hlen : ∀ (l : List ResultVar) (ps : List Prop) (vs : List SV), retAll P tm m l = some (ps, vs) → vs.length = l.length := by
        intro l
        induction l with
        | nil => intro ps vs hr; simp [retAll] at hr; obtain ⟨rfl, rfl⟩ := hr; rfl
        | cons x l ih =>
          intro ps vs hr
          simp only [retAll] at hr
          split at hr <;> try (first | contradiction | exact False.elim hr)
          rename_i p v q vs' h1 h2
          simp only [Option.some.injEq, Prod.mk.injEq] at hr
          obtain ⟨rfl, rfl⟩ := hr
          simp [ih _ _ h2]
      have hl := hlen _ _ _ hra
      have h1 : vs.length ≠ 1 := by
        intro e
        rw [hl] at e
        obtain ⟨x, hx⟩ := List.length_eq_one_iff.1 e
        exact hne x hx
      simp only [Sem.run_bind, this, Result.andThen_ok, Sem.run_pure, SV.va]
      rw [dif_neg (by simp [SV.vas_eq, h1])]

/-- A function's body, from its arguments and the chunks that it finds. -/
def fexec {P : Program} (E : Env P C) (L : List (Inv' C)) (fn : Func) (c : Code) (args : List SV) (mem : List (Ck C)) (G : SV → List (Ck C) → Tr) : Tr :=
  fTm (initTm 0 args) fun tm0 => fM mem fun mem0 => sexec E L c tm0 mem0 fun e tm m => match e with
    | .exit _ => .no
    | _ => match retSV P fn tm m with
      | some (ps, r) => conj ps (fSV r fun r => fM m fun m => G r m)
      | none => .no

theorem get_init : ∀ (args : List SV) (k t : Nat), get (initTm k args) t = .junk ∨ (k ≤ t ∧ ∃ v, args[t - k]? = some v ∧ get (initTm k args) t = v)
  | [], _, _ => .inl rfl
  | v :: r, k, t => by
    simp only [initTm]
    rw [get_put]
    split
    · rename_i e; subst e; exact .inr ⟨Nat.le_refl _, v, by simp, rfl⟩
    · rename_i e
      rcases get_init r (k + 1) t with h | ⟨h1, u, h2, h3⟩
      · exact .inl h
      · exact .inr ⟨by omega, u, by rw [show t - k = (t - (k + 1)) + 1 by omega]; simpa using h2, h3⟩

def noCnds : List SV → Bool
  | [] => true
  | v :: r => notCnd v && noCnds r
theorem noCnds_ok : ∀ {l : List SV}, noCnds l = true → ∀ v ∈ l, notCnd v = true
  | [], _, v, h => by cases h
  | x :: r, h, v, hv => by
    simp only [noCnds, Bool.and_eq_true] at h
    rcases List.mem_cons.1 hv with rfl | hv
    · exact h.1
    · exact noCnds_ok h.2 v hv

theorem fexec_ok {P : Program} (hmix : P.follows .mixedOrders = true) {E : Env P C} {L : List (Inv' C)} {f : FuncId} {fn : Func} {c : Code} {args : List SV} {mem : List (Ck C)} {G : SV → List (Ck C) → Tr}
    (hf : P.funcs[f]? = some fn) (hb : fn.body = some c) (hn : fn.ntmps = E.n) (hlen : Nat.ble args.length E.n = true) (hnc : noCnds args = true) (h : fexec E L fn c args mem G) (w : World) (hm : MemOK (wrS mem) w w mem) :
    Calls P f (SV.vas (ads mem) args).toArray w fun e w' => ∃ r m', e = .returned (r.va (ads m')) ∧ MemOK (wrS mem) w w' m' ∧ G r m' := by
  have hlen : args.length ≤ E.n := Nat.le_of_ble_eq_true hlen
  refine calls_of_wp hf hb ?_
  have hsz : (SV.vas (ads mem) args).toArray.size = args.length := by simp [SV.vas_eq]
  have hact : ActOK (ads mem) E.n (initTm 0 args) { tmps := (SV.vas (ads mem) args).toArray ++ Array.replicate (fn.ntmps - (SV.vas (ads mem) args).toArray.size) Go.undef, defers := [] } := by
    refine ⟨rfl, by simp [hn, SV.vas_eq]; omega, fun t => ?_, ?_⟩
    · rcases get_init args 0 t with h1 | ⟨_, v, h2, h3⟩
      · exact .inl h1
      · right
        simp only [Nat.sub_zero] at h2
        have hlt : t < args.length := (List.getElem?_eq_some_iff.1 h2).1
        rw [h3, Array.getElem?_append_left (by rw [hsz]; exact hlt)]
        simp [SV.vas_eq, h2]
    · intro t cs v hg
      exfalso
      rcases get_init args 0 t with h1 | ⟨_, u, h2, h3⟩
      · rw [h1] at hg; cases hg
      · rw [h3] at hg
        exact notCnd_ok (noCnds_ok hnc u (List.mem_of_getElem? h2)) cs v hg
  unfold fexec at h
  simp only [fTm_eq, fM_eq, fSV_eq] at h
  refine sexec_ok hmix (w0 := w) (S := wrS mem) h hact hm fun e tm m a w' hk ha hm' => ?_
  have fin : (match retSV P fn tm m with | some (ps, r) => conj ps (G r m) | none => .no : Tr).holds → a.defers = [] ∧ ∃ v, (results fn a.tmps).run P w' = .ok v w' ∧ ∃ r m', Ending.returned v = .returned (r.va (ads m')) ∧ MemOK (wrS mem) w w' m' ∧ G r m' := by
    intro hk
    split at hk <;> try (first | contradiction | exact False.elim hk)
    rename_i ps r hr
    obtain ⟨hp, hG⟩ := (conj_iff _ _).1 hk
    exact ⟨ha.defers, _, retSV_ok ha hm' hr hp, r, m, rfl, hm', hG⟩
  cases e with
  | nor => exact fin hk
  | exit i => exact False.elim hk
  | ret => exact fin hk

def idNames : Nat → List (Ck C) → List (Nat × Nat)
  | _, [] => []
  | k, _ :: r => (k, k) :: idNames (k + 1) r
/-- The chunks that were there lie where they lay. -/
def placeEq : List (Ck C) → List (Ck C) → Option (List Prop)
  | [], out => if extB [] out then some [] else none
  | a :: s, o :: out => if Nat.beq o.sz a.sz && beqB o.wr a.wr then (placeEq s out).map fun ps => (o.block = a.block) :: (o.base = a.base) :: ps else none
  | _ :: _, [] => none

/-- The end of a function is told by its contract. -/
def finR (mem : List (Ck C)) (r : SV) (m : List (Ck C)) (res : SV) (out : List (Ck C)) (ρ : List Nat) : Tr :=
  match memLt out.length out && SV.lt out.length res && apartB ρ out with
  | false => .no
  | true => match cksEq ρ m ρ out, eqv r (res.ren ρ), placeEq mem out with
    | some ps, some qs, some rs => allLf (ps ++ qs ++ rs)
    | _, _, _ => .no
def finP (mem : List (Ck C)) (r : SV) (m : List (Ck C)) (res : SV) (out : List (Ck C)) : Tr :=
  fP (idNames 0 mem ++ unif res r) fun acc => unifMemK m 0 out acc fun A => fNames (namesOf A 0 out) fun ρ => finR mem r m res out ρ
theorem finP_eq (mem : List (Ck C)) (r : SV) (m : List (Ck C)) (res : SV) (out : List (Ck C)) : finP mem r m res out = finR mem r m res out (namesOf (unifMem m 0 out (idNames 0 mem ++ unif res r)) 0 out) := by
  simp only [finP, fP_eq, unifMemK_eq, fNames_eq]

theorem placeEq_ok : ∀ {mem out : List (Ck C)} {ps : List Prop}, placeEq mem out = some ps → allOf ps → Ext mem out
  | [], out, ps, h, _ => by
    simp only [placeEq] at h
    split at h <;> try (first | contradiction | exact False.elim h)
    rename_i he
    refine ⟨by simp, fun k hk => by simp at hk, fun k _ hk hl => ?_⟩
    have := List.all_eq_true.1 he _ (nth_mem hk)
    simpa [hl] using this
  | a :: s, [], ps, h, _ => by simp [placeEq] at h
  | a :: s, o :: out, ps, h, hp => by
    simp only [placeEq] at h
    split at h <;> try (first | contradiction | exact False.elim h)
    rename_i hc
    simp only [Bool.and_eq_true] at hc
    cases hs : placeEq s out with
    | none => simp [hs] at h
    | some qs =>
      simp only [hs, Option.map_some, Option.some.injEq] at h; subst h
      obtain ⟨h1, h2, h3⟩ := hp
      have ih := placeEq_ok hs h3
      refine ⟨by simpa using ih.len, fun k hk => ?_, fun k hk hk' hl => ?_⟩
      · cases k with
        | zero =>
          refine ⟨h1, h2, Nat.eq_of_beq_eq_true hc.1, ?_⟩
          have := hc.2
          show o.wr = a.wr
          revert this
          cases o.wr <;> cases a.wr <;> simp [beqB]
        | succ k => exact ih.same k (by simpa using hk)
      · cases k with
        | zero => simp at hk
        | succ k => exact ih.new k (by simpa using hk) (by simpa using hk') hl

theorem finP_ok {S : Sx} {w0 w : World} {mem m out : List (Ck C)} {r res : SV} (h : finP mem r m res out) (hm : MemOK S w0 w m) : MemOK S w0 w out ∧ r.va (ads m) = res.va (ads out) ∧ Ext mem out := by
  rw [finP_eq] at h
  obtain ⟨ρ, hρ⟩ : ∃ ρ, ρ = namesOf (unifMem m 0 out (idNames 0 mem ++ unif res r)) 0 out := ⟨_, rfl⟩
  rw [← hρ] at h
  unfold finR at h
  split at h <;> try (first | contradiction | exact False.elim h)
  rename_i hc
  simp only [Bool.and_eq_true] at hc
  obtain ⟨⟨c1, c2⟩, c3⟩ := hc
  split at h <;> try (first | contradiction | exact False.elim h)
  rename_i ps qs rs hps hqs hrs
  obtain ⟨hpq, hrs'⟩ := (allOf_append _ _).1 (allLf_ok h)
  obtain ⟨hps', hqs'⟩ := (allOf_append _ _).1 hpq
  obtain ⟨hlen, hk⟩ := cksEq_ok hps hps'
  have hk' : ∀ k, k < out.length → rn ρ k < m.length ∧ CkEq ρ (nth out k) (nth m (rn ρ k)) := fun k hkl => by
    obtain ⟨h1, qs, h2, h3⟩ := hk k hkl
    exact ⟨h1, ckEq_ok h2 h3⟩
  obtain ⟨hm', hads⟩ := hm.sub c1 hk' (apartB_ok c3 hlen)
  exact ⟨hm', by rw [eqv_ok (ads m) _ _ qs hqs hqs', SV.va_ren hads _ c2], placeEq_ok hrs hrs'⟩

theorem run_callFunc {P : Program} {f : FuncId} {fn : Func} {c : Code} (hf : P.funcs[f]? = some fn) (hb : fn.body = some c) (hname : (fn.name == "runtime.NumGoroutine") = false) (vals : Array Value) (w : World) :
    (callFunc f vals).run P w = .ok (.enter f vals) w := by
  have hname : ¬ fn.name = "runtime.NumGoroutine" := by simpa using hname
  simp [callFunc, hf, hname, hb]

/-- From the body to the contract. -/
theorem loc_fn {P : Program} (hmix : P.follows .mixedOrders = true) {E : Env P C} {L : List (Inv' C)} {f : FuncId} {fn : Func} {c : Code} {args : List SV} {mem : List (Ck C)} {alts : List (Alt C)}
    (hf : P.funcs[f]? = some fn) (hb : fn.body = some c) (hname : (fn.name == "runtime.NumGoroutine") = false) (hn : fn.ntmps = E.n) (hlen : Nat.ble args.length E.n = true) (hnc : noCnds args = true)
    (h : fexec E L fn c args mem fun r m => .lf (Ends alts fun A y => (finP mem r m (A.res y) (A.out y)).holds)) :
    LocG P (.fn f) mem args fun r m' => Ends alts fun A y => r = A.res y ∧ m' = A.out y := by
  intro w hm
  refine ⟨f, _, run_callFunc hf hb hname _ w, (fexec_ok hmix hf hb hn hlen hnc h w hm).mono ?_⟩
  rintro e w' ⟨r, m', rfl, hm', A, hA, y, hy, hfin⟩
  obtain ⟨hm'', hv, hx⟩ := finP_ok hfin hm'
  exact ⟨A.res y, A.out y, by rw [hv], hm'', hx, A, hA, y, hy, rfl, rfl⟩

theorem loc_pc {P : Program} (hmix : P.follows .mixedOrders = true) {E : Env P C} {L : List (Inv' C)} {f : FuncId} {fn : Func} {c : Code} {args : List SV} {mem : List (Ck C)} {res : SV}
    (hf : P.funcs[f]? = some fn) (hb : fn.body = some c) (hname : (fn.name == "runtime.NumGoroutine") = false) (hn : fn.ntmps = E.n) (hlen : Nat.ble args.length E.n = true) (hnc : noCnds args = true)
    (h : fexec E L fn c args mem fun r m => finP mem r m res mem) :
    LocG P (.fn f) mem args fun r m' => r = res ∧ m' = mem := by
  intro w hm
  refine ⟨f, _, run_callFunc hf hb hname _ w, (fexec_ok hmix hf hb hn hlen hnc h w hm).mono ?_⟩
  rintro e w' ⟨r, m', rfl, hm', hfin⟩
  obtain ⟨hm'', hv, hx⟩ := finP_ok hfin hm'
  exact ⟨res, mem, by rw [hv], hm'', hx, rfl, rfl⟩

/-- A method of an interface value. -/
theorem loc_inv {P : Program} {f : FuncId} {fn : Func} {c : Code} {t : Nat} {name : String} {mem : List (Ck C)} {v recv : SV} {args : List SV} {post : SV → List (Ck C) → Prop}
    (hf : P.funcs[f]? = some fn) (hb : fn.body = some c) (hname : (fn.name == "runtime.NumGoroutine") = false)
    (hmeth : ∀ w, MemOK (wrS mem) w w mem → (method (P.types.size + Made.depth) t (v.va (ads mem)) name).run P w = .ok (f, recv.va (ads mem)) w)
    (h : LocG P (.fn f) mem (recv :: args) post) : LocG P (.inv t name) mem (v :: args) post := by
  intro w hm
  obtain ⟨f', vals, hr, hc⟩ := h w hm
  rw [show tgSem (.fn f) (SV.vas (ads mem) (recv :: args)).toArray = callFunc f (SV.vas (ads mem) (recv :: args)).toArray from rfl, run_callFunc hf hb hname] at hr
  simp only [Result.ok.injEq, Next.enter.injEq, and_true] at hr
  obtain ⟨rfl, rfl⟩ := hr
  refine ⟨f, _, ?_, hc⟩
  have e1 : (SV.vas (ads mem) (v :: args)).toArray.getD 0 Go.undef = v.va (ads mem) := by simp [SV.vas]
  have e2 : (SV.vas (ads mem) (v :: args)).toArray.extract 1 (SV.vas (ads mem) (v :: args)).toArray.size = (SV.vas (ads mem) args).toArray := by
    apply Array.ext'; simp [SV.vas]
  simp only [tgSem, e1, e2, callMethod, Sem.run_bind, run_program, Result.andThen_ok, hmeth w hm]
  rw [run_callFunc hf hb hname]
  simp [SV.vas]

end Go.Vx
