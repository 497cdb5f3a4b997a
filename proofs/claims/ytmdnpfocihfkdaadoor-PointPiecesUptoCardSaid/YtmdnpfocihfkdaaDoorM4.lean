/-
  The symbolic evaluator, seventeenth part: functions and their contracts.
  The symbolic evaluator, eighteenth part: which function a method of an interface value is.
  The symbolic evaluator, nineteenth part: from a contract to a law's own call.
  The symbolic evaluator, twenty-third part: what a row's laid sentinels give a walk, a whole list of them.
  A slice of structs that came in, az a row of chunks.
  Inputs that hold slices: a struct's own slices, slices of slices; the frame that also tells what the input's blocks hold.
  Round 23: element types; errors; slices of slices.
  Round 23: sums of bytes, the program's and the document's.
  Round 23: numbers az four bytes, laid and read.
  Round 23: numbers are read; bytes are compared.
  Round 23: what is the same.
  Round 23: numbers that may be; a block of a number; a record that may be.
  Round 23: a record that may be: its fields one after another.
  Conditions: none.
-/
import Derived.Test.YtmdnpfocihfkdaaDoorM3
import Derived.Below
import Derived.Stop.LaidErr
import Derived.ProofKit
import Derived.OpenShut
import Derived.ChangeArms
import Derived.MakeChecks
import Derived.Deep.Slices
import Derived.Deep.Strs
import Derived.Handed
import Derived.Deep.Matrix
import Derived.Test.YtmdnpfocihfkdaaDoorProg
import Derived.KernelRfl
namespace Go.Vx
open Go
variable {C : Nat → Codec}

def initTm : Nat → List SV → Tm
  | _, [] => []
  | k, v :: r => (k, v) :: initTm (k + 1) r

def retOne (P : Program) (tm : Tm) (m : List (Ck C)) : ResultVar → Ans
  | .tmp t => match get tm t with
    | .junk => none
    | .cnd _ _ => none
    | v => some ([], v)
  | .cell a t => match get tm a with
    | .ptr c i f => loadSV P m t c i f
    | _ => none
def retAll (P : Program) (tm : Tm) (m : List (Ck C)) : List ResultVar → Option (List Prop × List SV)
  | [] => some ([], [])
  | x :: r => match retOne P tm m x, retAll P tm m r with
    | some (p, v), some (q, vs) => some (p ++ q, v :: vs)
    | _, _ => none
def retSV (P : Program) (fn : Func) (tm : Tm) (m : List (Ck C)) : Ans :=
  match fn.results.toList with
  | [x] => retOne P tm m x
  | l => (retAll P tm m l).map fun (p, vs) => (p, .tup vs)

def readRes (tmps : Array Value) : ResultVar → Sem Value
  | .tmp t => pure (tmps.getD t Go.undef)
  | .cell b t => do loadVar t (← asAddr (tmps.getD b Go.undef))

theorem retOne_ok {P : Program} {S : Sx} {w0 w : World} {n : Nat} {tm : Tm} {m : List (Ck C)} {a : Act} (h : ActOK (ads m) n tm a) (hm : MemOK S w0 w m) {x : ResultVar} {ps : List Prop} {r : SV}
    (hr : retOne P tm m x = some (ps, r)) (hp : allOf ps) :
    (readRes a.tmps x).run P w = .ok (r.va (ads m)) w := by
  cases x with
  | tmp t =>
    simp only [retOne] at hr
    have key : ∀ v, get tm t = v → v ≠ .junk → (a.tmps.getD t Go.undef) = v.va (ads m) := by
      intro v hv hj
      rcases h.tmps t with h1 | h1
      · exact absurd (hv.symm.trans h1) hj
      · simp [h1, hv]
    split at hr <;> try (first | contradiction | exact False.elim hr)
    rename_i h1 h2
    simp only [Option.some.injEq, Prod.mk.injEq] at hr
    obtain ⟨rfl, rfl⟩ := hr
    simp only [readRes, Sem.run_pure]
    rw [key _ rfl h1]
  | cell b t =>
    simp only [retOne] at hr
    split at hr <;> try (first | contradiction | exact False.elim hr)
    rename_i c i f hg
    have hl := loadSV_ok hm hr hp
    rcases h.tmps b with h1 | h1
    · rw [hg] at h1; cases h1
    · rw [hg] at h1
      simp [readRes, h1, SV.va, asAddr, hl]

theorem retSV_ok {P : Program} {S : Sx} {w0 w : World} {n : Nat} {tm : Tm} {m : List (Ck C)} {a : Act} (h : ActOK (ads m) n tm a) (hm : MemOK S w0 w m) {fn : Func} {ps : List Prop} {r : SV}
    (hr : retSV P fn tm m = some (ps, r)) (hp : allOf ps) : (results fn a.tmps).run P w = .ok (r.va (ads m)) w := by
  have hall : ∀ (l : List ResultVar) (ps : List Prop) (vs : List SV), retAll P tm m l = some (ps, vs) → allOf ps →
      (l.mapM (readRes a.tmps)).run P w = .ok (SV.vas (ads m) vs) w := by
    intro l
    induction l with
    | nil => intro ps vs hr _; simp [retAll] at hr; obtain ⟨rfl, rfl⟩ := hr; rfl
    | cons x l ih =>
      intro ps vs hr hp
      simp only [retAll] at hr
      split at hr <;> try (first | contradiction | exact False.elim hr)
      rename_i p v q vs' h1 h2
      simp only [Option.some.injEq, Prod.mk.injEq] at hr
      obtain ⟨rfl, rfl⟩ := hr
      have hpq := (allOf_append p q).1 hp
      have e1 := retOne_ok h hm h1 hpq.1
      have e2 := ih _ _ h2 hpq.2
      simp only [List.mapM_cons, Sem.run_bind, e1, Result.andThen_ok, e2, Sem.run_pure, SV.vas]
  have hres : results fn a.tmps = (do
      let vs ← fn.results.mapM (readRes a.tmps)
      pure (if h : vs.size = 1 then vs[0] else .tuple vs)) := by
    unfold results
    congr 1
  have hmap : ∀ vs, (fn.results.toList.mapM (readRes a.tmps)).run P w = .ok vs w →
      (fn.results.mapM (readRes a.tmps)).run P w = .ok vs.toArray w := by
    intro vs hvs
    rw [← Array.toArray_toList (xs := fn.results), List.mapM_toArray]
    simp only [Sem.run_map, hvs, Result.andThen_ok]
  rw [hres]
  unfold retSV at hr
  split at hr
  · rename_i x hx
    have e1 := retOne_ok h hm hr hp
    have := hmap [r.va (ads m)] (by rw [hx]; simp only [List.mapM_cons, List.mapM_nil, Sem.run_bind, e1, Result.andThen_ok, Sem.run_pure])
    simp only [Sem.run_bind, this, Result.andThen_ok, Sem.run_pure]
    simp
  · rename_i hne
    cases hra : retAll P tm m fn.results.toList with
    | none => simp [hra] at hr
    | some q =>
      obtain ⟨p, vs⟩ := q
      simp only [hra, Option.map_some, Option.some.injEq, Prod.mk.injEq] at hr
      obtain ⟨rfl, rfl⟩ := hr
      have := hmap _ (hall _ _ _ hra hp)
      have hlen : ∀ (l : List ResultVar) (ps : List Prop) (vs : List SV), retAll P tm m l = some (ps, vs) → vs.length = l.length := by
        intro l
        induction l with
        | nil => intro ps vs hr; simp [retAll] at hr; obtain ⟨rfl, rfl⟩ := hr; rfl
        | cons x l ih =>
          intro ps vs hr
          simp only [retAll] at hr
          split at hr <;> try (first | contradiction | exact False.elim hr)
          rename_i p v q vs' h1 h2
          simp only [Option.some.injEq, Prod.mk.injEq] at hr
          obtain ⟨rfl, rfl⟩ := hr
          simp [ih _ _ h2]
      have hl := hlen _ _ _ hra
      have h1 : vs.length ≠ 1 := by
        intro e
        rw [hl] at e
        obtain ⟨x, hx⟩ := List.length_eq_one_iff.1 e
        exact hne x hx
      simp only [Sem.run_bind, this, Result.andThen_ok, Sem.run_pure, SV.va]
      rw [dif_neg (by simp [SV.vas_eq, h1])]

/-- A function's body, from its arguments and the chunks that it finds. -/
def fexec {P : Program} (E : Env P C) (L : List (Inv' C)) (fn : Func) (c : Code) (args : List SV) (mem : List (Ck C)) (G : SV → List (Ck C) → Tr) : Tr :=
  fTm (initTm 0 args) fun tm0 => fM mem fun mem0 => sexec E L c tm0 mem0 fun e tm m => match e with
    | .exit _ => .no
    | _ => match retSV P fn tm m with
      | some (ps, r) => conj ps (fSV r fun r => fM m fun m => G r m)
      | none => .no

theorem get_init : ∀ (args : List SV) (k t : Nat), get (initTm k args) t = .junk ∨ (k ≤ t ∧ ∃ v, args[t - k]? = some v ∧ get (initTm k args) t = v)
  | [], _, _ => .inl rfl
  | v :: r, k, t => by
    simp only [initTm]
    rw [get_put]
    split
    · rename_i e; subst e; exact .inr ⟨Nat.le_refl _, v, by simp, rfl⟩
    · rename_i e
      rcases get_init r (k + 1) t with h | ⟨h1, u, h2, h3⟩
      · exact .inl h
      · exact .inr ⟨by omega, u, by rw [show t - k = (t - (k + 1)) + 1 by omega]; simpa using h2, h3⟩

def noCnds : List SV → Bool
  | [] => true
  | v :: r => notCnd v && noCnds r
theorem noCnds_ok : ∀ {l : List SV}, noCnds l = true → ∀ v ∈ l, notCnd v = true
  | [], _, v, h => by cases h
  | x :: r, h, v, hv => by
    simp only [noCnds, Bool.and_eq_true] at h
    rcases List.mem_cons.1 hv with rfl | hv
    · exact h.1
    · exact noCnds_ok h.2 v hv

theorem fexec_ok {P : Program} (hmix : P.follows .mixedOrders = true) {E : Env P C} {L : List (Inv' C)} {f : FuncId} {fn : Func} {c : Code} {args : List SV} {mem : List (Ck C)} {G : SV → List (Ck C) → Tr}
    (hf : P.funcs[f]? = some fn) (hb : fn.body = some c) (hn : fn.ntmps = E.n) (hlen : Nat.ble args.length E.n = true) (hnc : noCnds args = true) (h : fexec E L fn c args mem G) (w : World) (hm : MemOK (wrS mem) w w mem) :
    Calls P f (SV.vas (ads mem) args).toArray w fun e w' => ∃ r m', e = .returned (r.va (ads m')) ∧ MemOK (wrS mem) w w' m' ∧ G r m' := by
  have hlen : args.length ≤ E.n := Nat.le_of_ble_eq_true hlen
  refine calls_of_wp hf hb ?_
  have hsz : (SV.vas (ads mem) args).toArray.size = args.length := by simp [SV.vas_eq]
  have hact : ActOK (ads mem) E.n (initTm 0 args) { tmps := (SV.vas (ads mem) args).toArray ++ Array.replicate (fn.ntmps - (SV.vas (ads mem) args).toArray.size) Go.undef, defers := [] } := by
    refine ⟨rfl, by simp [hn, SV.vas_eq]; omega, fun t => ?_, ?_⟩
    · rcases get_init args 0 t with h1 | ⟨_, v, h2, h3⟩
      · exact .inl h1
      · right
        simp only [Nat.sub_zero] at h2
        have hlt : t < args.length := (List.getElem?_eq_some_iff.1 h2).1
        rw [h3, Array.getElem?_append_left (by rw [hsz]; exact hlt)]
        simp [SV.vas_eq, h2]
    · intro t cs v hg
      exfalso
      rcases get_init args 0 t with h1 | ⟨_, u, h2, h3⟩
      · rw [h1] at hg; cases hg
      · rw [h3] at hg
        exact notCnd_ok (noCnds_ok hnc u (List.mem_of_getElem? h2)) cs v hg
  unfold fexec at h
  simp only [fTm_eq, fM_eq, fSV_eq] at h
  refine sexec_ok hmix (w0 := w) (S := wrS mem) h hact hm fun e tm m a w' hk ha hm' => ?_
  have fin : (match retSV P fn tm m with | some (ps, r) => conj ps (G r m) | none => .no : Tr).holds → a.defers = [] ∧ ∃ v, (results fn a.tmps).run P w' = .ok v w' ∧ ∃ r m', Ending.returned v = .returned (r.va (ads m')) ∧ MemOK (wrS mem) w w' m' ∧ G r m' := by
    intro hk
    split at hk <;> try (first | contradiction | exact False.elim hk)
    rename_i ps r hr
    obtain ⟨hp, hG⟩ := (conj_iff _ _).1 hk
    exact ⟨ha.defers, _, retSV_ok ha hm' hr hp, r, m, rfl, hm', hG⟩
  cases e with
  | nor => exact fin hk
  | exit i => exact False.elim hk
  | ret => exact fin hk

def idNames : Nat → List (Ck C) → List (Nat × Nat)
  | _, [] => []
  | k, _ :: r => (k, k) :: idNames (k + 1) r
/-- The chunks that were there lie where they lay. -/
def placeEq : List (Ck C) → List (Ck C) → Option (List Prop)
  | [], out => if extB [] out then some [] else none
  | a :: s, o :: out => if Nat.beq o.sz a.sz && beqB o.wr a.wr then (placeEq s out).map fun ps => onEq o.gl a.gl ++ (o.block = a.block) :: (o.base = a.base) :: ps else none
  | _ :: _, [] => none

/-- The end of a function is told by its contract. -/
def finR (mem : List (Ck C)) (r : SV) (m : List (Ck C)) (res : SV) (out : List (Ck C)) (ρ : List Nat) : Tr :=
  match memLt m.length m && SV.lt m.length r && memLt out.length out && SV.lt out.length res with
  | false => .no
  | true => withOffs m ρ out fun ρ M => match apartB ρ out with
    | false => .no
    | true => match cksEq m.length ρ M ρ out, eqv m.length r (res.ren ρ), placeEq mem out with
      | some ps, some qs, some rs => allLf (ps ++ qs ++ rs)
      | _, _, _ => .no
/-- Chunks that are written off keep their places. -/
def deads : List (Ck C) → List (Ck C)
  | [] => []
  | ⟨b, ba, sz, w, g, _⟩ :: r => ⟨b, ba, sz, w, g, .dead⟩ :: deads r
def someDead : List (Ck C) → List (Ck C) → Bool
  | _ :: s, o :: out => !o.alive || someDead s out
  | _, _ => false
def idNamesD (n : Nat) : Nat → List (Ck C) → List (Ck C) → List (Nat × Nat)
  | k, _ :: s, o :: out => (match o.alive with
    | true => (k, k)
    | false => (k, n + k)) :: idNamesD n (k + 1) s out
  | _, _, _ => []
def finP (mem : List (Ck C)) (r : SV) (m : List (Ck C)) (res : SV) (out : List (Ck C)) : Tr :=
  match memLt m.length m && SV.lt m.length r with
  | false => .no
  | true => match someDead mem out with
  | false => fP (idNames 0 mem ++ unif res r) fun acc => unifMemK m 0 out acc fun A => fNames (namesOf A 0 out) fun ρ => finR mem r m res out ρ
  | true => fM (m ++ deads mem) fun M => fP (idNamesD m.length 0 mem out ++ unif res r) fun acc => unifMemK M 0 out acc fun A => fNames (namesOf A 0 out) fun ρ => finR mem r M res out ρ

theorem placeEq_ok : ∀ {mem out : List (Ck C)} {ps : List Prop}, placeEq mem out = some ps → allOf ps → Ext mem out
  | [], out, ps, h, _ => by
    simp only [placeEq] at h
    split at h <;> try (first | contradiction | exact False.elim h)
    rename_i he
    refine ⟨by simp, fun k hk => by simp at hk, fun k _ hk hl => ?_⟩
    have := List.all_eq_true.1 he _ (nth_mem hk)
    simpa [hl] using this
  | a :: s, [], ps, h, _ => by simp [placeEq] at h
  | a :: s, o :: out, ps, h, hp => by
    simp only [placeEq] at h
    split at h <;> try (first | contradiction | exact False.elim h)
    rename_i hc
    simp only [Bool.and_eq_true] at hc
    cases hs : placeEq s out with
    | none => simp [hs] at h
    | some qs =>
      simp only [hs, Option.map_some, Option.some.injEq] at h; subst h
      obtain ⟨h0, h1, h2, h3⟩ := (allOf_append _ _).1 hp
      have ih := placeEq_ok hs h3
      refine ⟨by simpa using ih.len, fun k hk => ?_, fun k hk hk' hl => ?_⟩
      · cases k with
        | zero =>
          refine ⟨h1, h2, Nat.eq_of_beq_eq_true hc.1, ?_, onEq_ok h0⟩
          have := hc.2
          show o.wr = a.wr
          revert this
          cases o.wr <;> cases a.wr <;> simp [beqB]
        | succ k => exact ih.same k (by simpa using hk)
      · cases k with
        | zero => simp at hk
        | succ k => exact ih.new k (by simpa using hk) (by simpa using hk') hl

theorem finR_ok {S : Sx} {w0 w : World} {mem m out : List (Ck C)} {r res : SV} {ρ0 : List Nat} (h0 : finR mem r m res out ρ0) (hm : MemOK S w0 w m) : MemOK S w0 w out ∧ r.va (ads m) = res.va (ads out) ∧ Ext mem out ∧ SV.lt m.length r = true := by
  have h := h0
  unfold finR at h
  split at h <;> try (first | contradiction | exact False.elim h)
  rename_i hc
  simp only [Bool.and_eq_true] at hc
  obtain ⟨⟨⟨c0, c0'⟩, c1⟩, c2⟩ := hc
  obtain ⟨ρ', o, h, ho, hlM, _⟩ := withOffs_ok h c0
  clear h0
  revert h
  generalize ρ' = ρ
  intro h
  obtain ⟨M, hMe⟩ : ∃ M, M = m ++ o := ⟨_, rfl⟩
  have hmM := hm.withO c0 ho
  obtain ⟨hadsP, hN⟩ := ads_offs (m := m) (o := o) (fun x hx => (ho x hx).1)
  rw [← hMe] at h hlM hmM hadsP hN
  split at h <;> try (first | contradiction | exact False.elim h)
  rename_i c3
  split at h <;> try (first | contradiction | exact False.elim h)
  rename_i ps qs rs hps hqs hrs
  obtain ⟨hpq, hrs'⟩ := (allOf_append _ _).1 (allLf_ok h)
  obtain ⟨hps', hqs'⟩ := (allOf_append _ _).1 hpq
  obtain ⟨hlen, hk⟩ := cksEq_ok hps hps'
  have hk' : ∀ k, k < out.length → rn ρ k < M.length ∧ CkEq m.length ρ (nth out k) (nth M (rn ρ k)) := fun k hkl => by
    obtain ⟨h1, qs, h2, h3⟩ := hk k hkl
    exact ⟨h1, ckEq_ok h2 h3⟩
  obtain ⟨hm', hads⟩ := hmM.sub hN c1 hk' (apartB_ok c3 hlen)
  exact ⟨hm', by rw [SV.va_congr hadsP _ c0', eqv_ok hN _ _ qs hqs hqs', SV.va_ren hads _ c2], placeEq_ok hrs hrs', c0'⟩

theorem length_deads : ∀ (l : List (Ck C)), (deads l).length = l.length
  | [] => rfl
  | ⟨_, _, _, _, _, _⟩ :: r => by simp [deads, length_deads r]
theorem MemOK.dead1 {S : Sx} {w0 w : World} {m : List (Ck C)} (h : MemOK S w0 w m) (hl : memLt m.length m = true) {x : Ck C} (hx : x.cells = .dead) (hS : x.wr = true → x.on = true → x.block < w0.heap.size → S.set x.block) (hb : x.on = true → x.block < w.heap.size) : MemOK S w0 w (m ++ [x]) := by
  have hm : ∀ y, y ∈ m ++ [x] → y ∈ m ∨ y = x := by intro y hy; simpa using hy
  have no : ∀ {p : Prop}, x.live = true → p := fun h => by simp [Ck.live, Ck.alive, hx] at h
  refine ⟨h.os, h.tape, h.output, h.size, h.keep, ?_, ?_, ?_, ?_, ?_, ?_⟩
  · intro y hy hw ho hb0
    rcases hm y hy with hy | rfl
    · exact h.inS y hy hw ho hb0
    · exact hS hw ho hb0
  · intro y hy ho
    rcases hm y hy with hy | rfl
    · exact Ck.ok_ads (ads_append m _) (memLt_mem hl hy) (h.ok y hy ho)
    · unfold Ck.ok; rw [hx]; trivial
  · intro y hy hw hlv a ha
    rcases hm y hy with hy | rfl
    · exact h.wrok y hy hw hlv a ha
    · exact no hlv
  · intro i j hi hj hij hiw hil hjl
    simp only [List.length_append, List.length_singleton] at hi hj
    rw [nth_append] at hiw hil ⊢
    rw [nth_append] at hjl ⊢
    by_cases h1 : i < m.length
    · by_cases h2 : j < m.length
      · rw [if_pos h1] at hiw hil ⊢
        rw [if_pos h2] at hjl ⊢
        exact h.apart i j h1 h2 hij hiw hil hjl
      · rw [if_neg h2, if_pos (by omega)] at hjl
        exact no hjl
    · rw [if_neg h1, if_pos (by omega)] at hil
      exact no hil
  · intro y hy ho
    rcases hm y hy with hy | rfl
    · exact h.lt y hy ho
    · exact hb ho
  · refine h.more.mono h.inS (fun _ _ _ => rfl) (fun y hy hyl => ?_) h.size (Nat.le_refl _) (fun y hy => ?_)
    · rcases hm y hy with hy | rfl
      · exact .inl ⟨y, hy, hyl, rfl, id⟩
      · exact no hyl
    · rcases hm y hy with hy | rfl
      · exact CsIn.self hy
      · rw [hx]; exact CsIn.other fun _ _ e => by cases e
theorem MemOK.withD {S : Sx} {w0 w : World} : ∀ {mem m : List (Ck C)}, MemOK S w0 w m → memLt m.length m = true → (∀ a ∈ mem, (a.wr = true → a.on = true → a.block < w0.heap.size → S.set a.block) ∧ (a.on = true → a.block < w.heap.size)) →
    MemOK S w0 w (m ++ deads mem) ∧ memLt (m ++ deads mem).length (m ++ deads mem) = true
  | [], m, h, hl, _ => by simpa [deads] using ⟨h, hl⟩
  | ⟨b, ba, sz, wr, g, cs⟩ :: r, m, h, hl, hS => by
    obtain ⟨h1, h2⟩ := hS _ (List.mem_cons_self ..)
    have hm := h.dead1 hl (x := ⟨b, ba, sz, wr, g, .dead⟩) rfl h1 h2
    have hl' : memLt (m ++ [(⟨b, ba, sz, wr, g, .dead⟩ : Ck C)]).length (m ++ [⟨b, ba, sz, wr, g, .dead⟩]) = true := memLt_app (memLt_mono (by simp) hl) (by simp [memLt, Ck.lt])
    have := MemOK.withD hm hl' (fun a ha => hS a (List.mem_cons_of_mem _ ha))
    simpa [deads] using this
theorem memLt_drop {n : Nat} : ∀ {a b : List (Ck C)}, memLt n (a ++ b) = true → memLt n a = true
  | [], _, _ => rfl
  | x :: a, b, h => by
    simp only [List.cons_append, memLt, Bool.and_eq_true] at h ⊢
    exact ⟨h.1, memLt_drop h.2⟩
theorem finP_ok {w w' : World} {mem m out : List (Ck C)} {r res : SV} (h : finP mem r m res out) (hm : MemOK (wrS mem) w w' m) (hmem : MemOK (wrS mem) w w mem) :
    MemOK (wrS mem) w w' out ∧ r.va (ads m) = res.va (ads out) ∧ Ext mem out := by
  unfold finP at h
  split at h
  · exact h.elim
  rename_i hc
  obtain ⟨hml, hrl⟩ := Bool.and_eq_true_iff.1 hc
  split at h
  · rw [fP_eq, unifMemK_eq, fNames_eq] at h
    obtain ⟨h1, h2, h3, _⟩ := finR_ok h hm
    exact ⟨h1, h2, h3⟩
  · rw [fM_eq, fP_eq, unifMemK_eq, fNames_eq] at h
    have hD := hm.withD (mem := mem) hml (fun a ha => ⟨fun hw ho _ => ⟨a, ha, hw, ho, rfl⟩, fun ho => Nat.lt_of_lt_of_le (hmem.lt a ha ho) hm.size⟩)
    obtain ⟨h1, h2, h3, _⟩ := finR_ok h hD.1
    refine ⟨h1, ?_, h3⟩
    rw [← h2]
    refine SV.va_congr (fun c hc => ?_) r hrl
    simp [ads, nth_app, hc]

theorem run_callFunc {P : Program} {f : FuncId} {fn : Func} {c : Code} (hf : P.funcs[f]? = some fn) (hb : fn.body = some c) (hname : (fn.name == "runtime.NumGoroutine") = false) (vals : Array Value) (w : World) :
    (callFunc f vals).run P w = .ok (.enter f vals) w := by
  have hname : ¬ fn.name = "runtime.NumGoroutine" := by simpa using hname
  simp [callFunc, hf, hname, hb]

/-- From the body to the contract. -/
theorem loc_fn {P : Program} (hmix : P.follows .mixedOrders = true) {E : Env P C} {L : List (Inv' C)} {f : FuncId} {fn : Func} {c : Code} {args : List SV} {mem : List (Ck C)} {alts : List (Alt C)}
    (hf : P.funcs[f]? = some fn) (hb : fn.body = some c) (hname : (fn.name == "runtime.NumGoroutine") = false) (hn : fn.ntmps = E.n) (hlen : Nat.ble args.length E.n = true) (hnc : noCnds args = true)
    (h : fexec E L fn c args mem fun r m => .lf (Ends alts fun A y => (finP mem r m (A.res y) (A.out y)).holds)) :
    LocG P (.fn f) mem args fun r m' => Ends alts fun A y => r = A.res y ∧ m' = A.out y := by
  intro w hm
  refine ⟨f, _, run_callFunc hf hb hname _ w, (fexec_ok hmix hf hb hn hlen hnc h w hm).mono ?_⟩
  rintro e w' ⟨r, m', rfl, hm', A, hA, y, hy, hfin⟩
  obtain ⟨hm'', hv, hx⟩ := finP_ok hfin hm' hm
  exact ⟨A.res y, A.out y, by rw [hv], hm'', hx, A, hA, y, hy, rfl, rfl⟩

theorem loc_pc {P : Program} (hmix : P.follows .mixedOrders = true) {E : Env P C} {L : List (Inv' C)} {f : FuncId} {fn : Func} {c : Code} {args : List SV} {mem : List (Ck C)} {res : SV}
    (hf : P.funcs[f]? = some fn) (hb : fn.body = some c) (hname : (fn.name == "runtime.NumGoroutine") = false) (hn : fn.ntmps = E.n) (hlen : Nat.ble args.length E.n = true) (hnc : noCnds args = true)
    (h : fexec E L fn c args mem fun r m => finP mem r m res mem) :
    LocG P (.fn f) mem args fun r m' => r = res ∧ m' = mem := by
  intro w hm
  refine ⟨f, _, run_callFunc hf hb hname _ w, (fexec_ok hmix hf hb hn hlen hnc h w hm).mono ?_⟩
  rintro e w' ⟨r, m', rfl, hm', hfin⟩
  obtain ⟨hm'', hv, hx⟩ := finP_ok hfin hm' hm
  exact ⟨res, mem, by rw [hv], hm'', hx, rfl, rfl⟩

/-- A method of an interface value. -/
theorem loc_inv {P : Program} {f : FuncId} {fn : Func} {c : Code} {t : Nat} {name : String} {mem : List (Ck C)} {v recv : SV} {args : List SV} {post : SV → List (Ck C) → Prop}
    (hf : P.funcs[f]? = some fn) (hb : fn.body = some c) (hname : (fn.name == "runtime.NumGoroutine") = false)
    (hmeth : ∀ w, MemOK (wrS mem) w w mem → (method (P.types.size + Made.depth) t (v.va (ads mem)) name).run P w = .ok (f, recv.va (ads mem)) w)
    (h : LocG P (.fn f) mem (recv :: args) post) : LocG P (.inv t name) mem (v :: args) post := by
  intro w hm
  obtain ⟨f', vals, hr, hc⟩ := h w hm
  rw [show tgSem (.fn f) (SV.vas (ads mem) (recv :: args)).toArray = callFunc f (SV.vas (ads mem) (recv :: args)).toArray from rfl, run_callFunc hf hb hname] at hr
  simp only [Result.ok.injEq, Next.enter.injEq, and_true] at hr
  obtain ⟨rfl, rfl⟩ := hr
  refine ⟨f, _, ?_, hc⟩
  have e1 : (SV.vas (ads mem) (v :: args)).toArray.getD 0 Go.undef = v.va (ads mem) := by simp [SV.vas]
  have e2 : (SV.vas (ads mem) (v :: args)).toArray.extract 1 (SV.vas (ads mem) (v :: args)).toArray.size = (SV.vas (ads mem) args).toArray := by
    apply Array.ext'; simp [SV.vas]
  simp only [tgSem, e1, e2, callMethod, Sem.run_bind, run_program, Result.andThen_ok, hmeth w hm]
  rw [run_callFunc hf hb hname]
  simp [SV.vas]

end Go.Vx
namespace Go.Vx
open Go
variable {C : Nat → Codec}

theorem method_ptr {P : Program} {t elem : TypeId} {i : TypeInfo} {name : String} {f : FuncId} {k : Nat} {mm} (hi : P.info? t = some i) (hm : i.methods.find? (·.name == name) = some mm) (hp : mm.path = #[]) (hf : mm.func = some (f, true))
    (hu : P.underlying t = some (.pointer elem)) (v : Value) (w : World) : (method (k + 1) t v name).run P w = .ok (f, v) w := by
  simp [method, typeInfo, hi, hm, hp, hf, follow, receiverAt, run_underlying hu, Place.get]

theorem wrapNil (ts : Array TypeId) (t : TypeId) (a : Addr) (x y : String) : Builtin.ssaWrapNilChk_ ts t #[.pointer (some a), strVal x, strVal y] = pure (.pointer (some a)) := rfl
theorem method_val {P : Program} {t elem : TypeId} {i : TypeInfo} {name : String} {f : FuncId} {k : Nat} {mm} (hi : P.info? t = some i) (hm : i.methods.find? (·.name == name) = some mm) (hp : mm.path = #[]) (hf : mm.func = some (f, false))
    (hu : P.underlying t = some (.pointer elem)) {a : Addr} {w : World} {r : Value} (hl : (loadVar elem a).run P w = .ok r w) : (method (k + 1) t (.pointer (some a)) name).run P w = .ok (f, r) w := by
  simp [method, typeInfo, hi, hm, hp, hf, follow, receiverAt, run_underlying hu, Place.get, wrapNil, asAddr, hl]

end Go.Vx
set_option linter.unusedVariables false
namespace Go.Vx
open Go Go.RowKit
variable {C : Nat → Codec}

/-- Where no variable of a package is known. -/
theorem More.bare {w : World} {mem : List (Ck C)} (h1 : ∀ g, (C g).gv = none) (h2 : ∀ g, (C g).gpins = []) (h3 : ∀ c ∈ mem, ∀ t l, c.cells = .rows t l → ∀ x ∈ l, (C t).good w x ∧ ∀ b ∈ (C t).blks x, Blk (wrS mem) w w mem b) : More (wrS mem) w w mem where
  deep := h3
  gv g v h := by rw [h1] at h; cases h
  gp g p h := by rw [h2] at h; cases h
  pin p h := by cases h
  nod := List.nodup_nil
/-- Chunks that are only read. -/
theorem memRo {w : World} {mem : List (Ck C)} (hnw : noWr mem = true) (hok : ∀ c ∈ mem, c.on = true → Ck.ok (ads mem) w c) (hlt : ∀ c ∈ mem, c.on = true → c.block < w.heap.size) (hmore : More (wrS mem) w w mem) : MemOK (wrS mem) w w mem where
  more := hmore
  os := rfl
  tape := rfl
  output := rfl
  size := Nat.le_refl _
  keep _ _ _ := rfl
  inS c hc hw ho _ := ⟨c, hc, hw, ho, rfl⟩
  ok := hok
  wrok c hc hw := by rw [noWr_ok hnw c hc] at hw; cases hw
  apart i j hi _ _ hw := by rw [noWr_ok hnw _ (nth_mem hi)] at hw; cases hw
  lt := hlt

/-- A function that only tells something, called with chunks that are only read: it turns nothing that was there. -/
theorem Tells.calls {P : Program} {f : FuncId} {fn : Func} {c : Code} (hf : P.funcs[f]? = some fn) (hb : fn.body = some c) (hname : (fn.name == "runtime.NumGoroutine") = false) {mem : List (Ck C)} {args : List SV} {res : SV}
    (h : Tells P (.fn f) mem args res) (hnw : noWr mem = true) {w : World} (hm : MemOK (wrS mem) w w mem) :
    Calls P f (SV.vas (ads mem) args).toArray w fun e w' => e = .returned (res.va (ads mem)) ∧ Below w.heap.size w w' := by
  obtain ⟨f', vals, hr, hc⟩ := h w hm
  rw [show tgSem (.fn f) (SV.vas (ads mem) args).toArray = callFunc f (SV.vas (ads mem) args).toArray from rfl, run_callFunc hf hb hname] at hr
  simp only [Result.ok.injEq, Next.enter.injEq, and_true] at hr
  obtain ⟨rfl, rfl⟩ := hr
  refine hc.mono ?_
  rintro e w' ⟨r, m', rfl, hm', _, rfl, rfl⟩
  refine ⟨rfl, hm'.os, hm'.tape, hm'.output, hm'.size, fun k hk => hm'.keep k hk ?_⟩
  rintro ⟨c, hc, hw, _⟩
  rw [noWr_ok hnw c hc] at hw; cases hw

/-- What is known of an address of a slice that came in. -/
theorem okWide_at {P : Program} {w : World} {r : Reach} {base : Nat} {t e : TypeId} {a : Addr} {len cap : Nat} (ht : P.underlying t = some (.slice e)) (h : Value.okWide P w r base t (.slice (some a) len cap)) : a.spot = none ∧ a.block < w.heap.size := by
  simp only [Value.okWide, ht, Cell.okWide, Cell.ok, World.has] at h
  obtain ⟨_, _, _, h1, row, cells, h2, _⟩ := h
  refine ⟨h1, ?_⟩
  unfold World.shape? at h2
  cases hb : w.heap[a.block]? with
  | none => simp [hb] at h2
  | some o => exact (Array.getElem?_eq_some_iff.1 hb).1

/-- Integers in a row. -/
theorem intRow_ok {ad : Nat → Ad} {w : World} {t : Nat} {k : IntKind} {x : Addr} {l : List Int} {wr : Bool} {gl : Option Bool} (hx : x.spot = none) (hc : ∀ i, i < l.length → w.cell? (x.add i) = some (.int k (l.getD i 0)))
    (C : Nat → Codec) (hsz : (C t).sz = 1) (rows : List (C t).α) (hlen : rows.length = l.length) (henc : ∀ i, i < l.length → ((C t).enc (rows.getD i (C t).dflt)).getD 0 .junk = .int k (l.getD i 0)) :
    Ck.ok ad w (⟨x.block, x.off, 1, wr, gl, .rows t rows⟩ : Ck C) := by
  unfold Ck.ok
  refine ⟨hsz.symm, fun i hi f hf => ?_⟩
  have hf : f = 0 := by omega
  subst hf
  rw [henc i (by omega)]
  have e : (⟨x.block, x.off + (i * 1 + 0), none⟩ : Addr) = x.add i := by
    unfold Addr.add
    split
    · rename_i h; subst h
      obtain ⟨b, o, s⟩ := x
      simp only at hx; subst hx; rfl
    · simp
  show w.cell? ⟨x.block, x.off + (i * 1 + 0), none⟩ = _
  rw [e, hc i (by omega)]
  rfl

end Go.Vx
set_option linter.unusedVariables false
namespace Go.Vx
open Go Go.RowKit Go.ChangeShapes

/-- A list of sentinels, with the numbers of their variables. -/
def SentL (P : Program) (nm : String) (ti : TypeId) : List (String × DataW Unit) → List Nat → Prop
  | [], [] => True
  | x :: r, g :: s => (∃ text, x.2 = .iface nm (.ptr (.agg [.lit (.string text)]))) ∧ P.globalNamed x.1 = some g ∧ (P.globals[g]?).map (·.type) = some ti ∧ SentL P nm ti r s
  | _, _ => False
/-- Where they lie: no two at one place, each in a row of its own that nobody writes. -/
def SentAt (W : World) (tp : TypeId) : List Nat → List Addr → Prop
  | [], [] => True
  | g :: s, a :: t => W.cell? ⟨g, 0, none⟩ = some (.iface tp (.pointer (some a))) ∧ (∃ c ty, W.heap[a.block]? = some (.cells c ty (0, 0))) ∧ a ∉ t ∧ SentAt W tp s t
  | _, _ => False

theorem laid_all {P : Program} {W : World} {nm : String} {ti tp te ts : TypeId} {ms : Array (String × TypeId)} {f : Field}
    (hi : P.underlying ti = some (.interface ms)) (hrow : ∀ u, P.typeName? 3 u = some nm → u = tp) (hp : P.underlying tp = some (.pointer te)) (he : P.underlying te = some (.struct #[f]))
    (hft : f.type = ts) (hfo : f.offset = 0) (hs : P.underlying ts = some .string) (hc : P.cellsOf te = 1) (hcs : P.cellsOf ts = 1) :
    ∀ (L : List (String × DataW Unit)) (G : List Nat) (ps : List MemPlace), SentL P nm ti L G → DataW.LaidVars P W L ps → ps.Nodup →
      (∀ b off, MemPlace.cell b off ∈ ps → (∃ c t, W.heap[b]? = some (.cells c t (0, 0))) ∧ ∀ u v, W.cell? ⟨b, off, none⟩ = some (.iface u v) → Value.okWide P W .any 0 u v) →
      ∃ az, SentAt W tp G az ∧ ∀ a ∈ az, MemPlace.cell a.block a.off ∈ ps
  | [], [], ps, _, _, _, _ => ⟨[], trivial, fun a h => by cases h⟩
  | [], _ :: _, _, h, _, _, _ => h.elim
  | _ :: _, [], _, h, _, _, _ => h.elim
  | (n, d) :: r, g :: s, ps, hL, hv, hnd, hrows => by
    obtain ⟨⟨text, rfl⟩, hg, ht, hL⟩ := hL
    obtain ⟨g', t', cs, fu, p, q, hg', ht', hv0, hd, hq, rfl⟩ := hv
    obtain rfl := Option.some.inj (hg.symm.trans hg')
    obtain rfl := Option.some.inj (ht.symm.trans ht')
    obtain ⟨l⟩ := cs
    have ok0 : ∀ u v, l = [.iface u v] → Value.okWide P W .any 0 u v := fun u v e => by
      subst e
      exact (hrows g 0 (by simp [MemPlace.row])).2 u v (by simpa using World.var?_cell hg' hv0 0)
    obtain ⟨a, str, rfl, hca, hsa, hza, rfl⟩ := errorString_of_trod hi hrow hp he hft hfo hs hc hcs hd ok0
    have hsub : q.Sublist (MemPlace.row ⟨g, 0, none⟩ (#[Value.iface tp (.pointer (some a))]).size ++ MemPlace.row a 1 ++ q) := List.sublist_append_right _ _
    obtain ⟨az, h1, h2⟩ := laid_all hi hrow hp he hft hfo hs hc hcs r s q hL hq (hnd.sublist hsub) (fun b off hm => hrows b off (hsub.subset hm))
    refine ⟨a :: az, ⟨by simpa using World.var?_cell hg' hv0 0, (hrows a.block a.off (by simp [MemPlace.row])).1, fun hm => ?_, h1⟩, fun x hx => ?_⟩
    · have := h2 a hm
      have hd2 := (List.nodup_append.1 hnd).2.2 (.cell a.block a.off) (by simp [MemPlace.row]) _ this
      exact hd2 rfl
    · rcases List.mem_cons.1 hx with rfl | hx
      · simp [MemPlace.row]
      · exact hsub.subset (h2 x hx)

theorem SentAt.get {W : World} {tp : TypeId} : ∀ {G : List Nat} {az : List Addr}, SentAt W tp G az → ∀ i, i < G.length →
    W.cell? ⟨G.getD i 0, 0, none⟩ = some (.iface tp (.pointer (some (az.getD i default)))) ∧ ∃ c ty, W.heap[(az.getD i default).block]? = some (.cells c ty (0, 0))
  | [], _, _, i, h => by simp at h
  | g :: s, [], h, _, _ => h.elim
  | g :: s, a :: t, h, 0, _ => ⟨h.1, h.2.1⟩
  | g :: s, a :: t, h, i + 1, hi => by simpa using SentAt.get h.2.2.2 i (by simpa using hi)
theorem SentAt.apart {W : World} {tp : TypeId} : ∀ {G : List Nat} {az : List Addr}, SentAt W tp G az → az.length = G.length ∧ az.Nodup
  | [], [], _ => ⟨rfl, List.nodup_nil⟩
  | [], _ :: _, h => h.elim
  | _ :: _, [], h => h.elim
  | g :: s, a :: t, h => by
    obtain ⟨h1, h2⟩ := SentAt.apart h.2.2.2
    exact ⟨by simp [h1], List.nodup_cons.2 ⟨h.2.2.1, h2⟩⟩
theorem SentAt.one {W : World} {tp : TypeId} {G : List Nat} {az : List Addr} (h : SentAt W tp G az) {i j : Nat} (hi : i < G.length) (hj : j < G.length) (he : az.getD i default = az.getD j default) : i = j := by
  obtain ⟨h1, h2⟩ := h.apart
  have hi' : i < az.length := by omega
  have hj' : j < az.length := by omega
  rw [List.getD_eq_getElem?_getD, List.getD_eq_getElem?_getD, List.getElem?_eq_getElem hi', List.getElem?_eq_getElem hj'] at he
  exact (List.getElem_inj h2).1 he
end Go.Vx
set_option linter.unusedVariables false
namespace Go.Vx
open Go Go.ChangeShapes Go.WideShapes Go.Deep Go.RowKit
variable {C : Nat → Codec}
/-- A thing's cell. -/
def cellV (c : Codec) (b : c.α) (f : Nat) : Value := (((c.enc b).getD f .junk)).va noAd
/-- What the walk is told of a slice that came in. -/
def IsRows (c : Codec) (w : World) (a : Option Addr) (len cap : Nat) (zs : List c.α) : Prop :=
  (a = none ∧ len = 0 ∧ cap = 0 ∧ zs = []) ∨
  ∃ x, a = some x ∧ x.spot = none ∧ x.block < w.heap.size ∧ len ≤ cap ∧ zs.length = cap ∧ ∀ i, i < cap → ∀ f, f < c.sz → w.cell? (x.add (i * c.sz + f)) = some (cellV c (zs.getD i c.dflt) f)
theorem rows_ok {ad : Nat → Ad} {w : World} {x : Addr} {t : Nat} {l : List (C t).α} {wr : Bool} {gl : Option Bool} (hx : x.spot = none) (hc : ∀ i, i < l.length → ∀ f, f < (C t).sz → w.cell? (x.add (i * (C t).sz + f)) = some (cellV (C t) (l.getD i (C t).dflt) f)) :
    Ck.ok ad w (⟨x.block, x.off, (C t).sz, wr, gl, .rows t l⟩ : Ck C) := by
  unfold Ck.ok
  refine ⟨rfl, fun i hi f hf => ?_⟩
  have e : (⟨x.block, x.off + (i * (C t).sz + f), none⟩ : Addr) = x.add (i * (C t).sz + f) := by
    unfold Addr.add
    split
    · rename_i h; rw [h]
      obtain ⟨b, o, s⟩ := x
      simp only at hx; subst hx; rfl
    · simp
  show w.cell? ⟨x.block, x.off + (i * (C t).sz + f), none⟩ = _
  rw [e, hc i hi f hf]
  have hl := (C t).len (l.getD i (C t).dflt)
  have e2 := congrArg (fun L => L[f]?) ((C t).flat (l.getD i (C t).dflt) noAd ad)
  simp only [List.getElem?_map, List.getElem?_eq_getElem (show f < ((C t).enc (l.getD i (C t).dflt)).length by omega), Option.map_some, Option.some.injEq] at e2
  unfold cellV
  rw [List.getD_eq_getElem?_getD (l := (C t).enc (l.getD i (C t).dflt)), List.getElem?_eq_getElem (show f < ((C t).enc (l.getD i (C t).dflt)).length by omega)]
  exact congrArg some e2
theorem one_at {cs : List Value} {i : Nat} {v : Value} (h : (cs.drop i).take 1 = [v]) : cs[i]? = some v := by
  cases hd : cs.drop i with
  | nil => rw [hd] at h; simp at h
  | cons y r =>
    rw [hd] at h
    simp at h
    have := List.getElem?_drop (xs := cs) (i := i) (j := 0)
    rw [hd] at this
    simpa [h] using this.symm
/-- A part's part. -/
theorem part_at {cs : List Value} {i n j : Nat} {v : Value} (h : ((cs.drop i).take n)[j]? = some v) : cs[i + j]? = some v := by
  rw [List.getElem?_take] at h
  split at h
  · rw [List.getElem?_drop] at h; exact h
  · cases h
theorem rows_open {P : Program} {H : Type} {enc : TypeId × Value → H} {W : World} {base b0 : Nat} {r : Reach} {a : Option Addr} {len cap : Nat} {d : DataW H} {p : List MemPlace} {ts te : TypeId} (c : Codec) (hu : P.underlying ts = some (.slice te)) (hsz : P.cellsOf te = c.sz)
    (hop : ∀ (fuel : Nat) (cs : List Value) (y : DataW H × List MemPlace), DataW.trod enc P W base (fun _ => true) true fuel te cs = some y → ∃ b : c.α, ∀ f, f < c.sz → cs[f]? = some (cellV c b f))
    (hv : Value.okWide P W r b0 ts (.slice a len cap)) (h : DataW.Trod enc P W base (fun _ => true) true ts (.slice a len cap) d p) : ∃ zs, IsRows c W a len cap zs := by
  obtain ⟨fuel, hf⟩ := h
  rcases open_slice hu hf with ⟨hcs, _⟩ | ⟨x, l, c', m, n, D, Pl, hcs, _, hl, hm, hmc, _, hall⟩
  · simp [Value.cells] at hcs
    obtain ⟨rfl, rfl, rfl⟩ := hcs
    exact ⟨[], .inl ⟨rfl, rfl, rfl, rfl⟩⟩
  · simp [Value.cells] at hcs
    obtain ⟨rfl, rfl, rfl⟩ := hcs
    simp at hmc
    subst hmc
    obtain ⟨hs, hb⟩ := okWide_at hu hv
    have hex : ∀ i, i < m → ∃ b : c.α, ∀ f, f < c.sz → W.cell? (x.add (i * c.sz + f)) = some (cellV c b f) := fun i hi => by
      obtain ⟨cs', h1, h2⟩ := hall i hi
      rw [hsz] at h1
      obtain ⟨b, hb⟩ := hop _ _ _ h2
      obtain ⟨_, _, h3⟩ := World.cells?_some h1
      exact ⟨b, fun f hf => by rw [← add_add, h3 f hf, hb f hf]⟩
    haveI : Inhabited c.α := ⟨c.dflt⟩
    obtain ⟨g, hg⟩ := choose_lt hex
    refine ⟨(List.range m).map g, .inr ⟨x, rfl, hs, hb, hl, by simp, fun i hi f hf => ?_⟩⟩
    rw [hg i hi f hf]
    congr 2
    simp [List.getD_eq_getElem?_getD, hi]
end Go.Vx
set_option linter.unusedVariables false
namespace Go.Vx
open Go Go.ChangeShapes Go.WideShapes Go.Deep Go.RowKit
variable {C : Nat → Codec}

/-- Each cell of a block of the input is well. -/
def Blocks (P : Program) (W : World) (base : Nat) : Prop := ∀ (k : Nat) (o : Obj), base ≤ k → W.heap[k]? = some o → ∃ cs t, o = .cells cs t ∧ Row.ok P W .any base t cs
theorem okWide_addr {P : Program} {w : World} {r : Reach} {base : Nat} {u : TypeId} {a : Addr} {len cap : Nat} (h : Cell.okWide P w r base u (.slice (some a) len cap)) : a.spot = none ∧ a.block < w.heap.size := by
  have h : Cell.ok P w r base u (.slice (some a) len cap) := by
    unfold Cell.okWide at h
    split at h <;> first | exact h | (rename_i h1; cases h1) | (rename_i _ h1; cases h1)
  unfold Cell.ok at h
  split at h <;> try contradiction
  all_goals rename_i h2
  · simp at h2
  simp only [Value.slice.injEq] at h2
  obtain ⟨h2, rfl, rfl⟩ := h2
  obtain rfl := Option.some.inj h2
  obtain ⟨_, _, _, h1, row, cells, h2, _⟩ := h
  refine ⟨h1, ?_⟩
  unfold World.shape? at h2
  cases hb : w.heap[a.block]? with
  | none => simp [hb] at h2
  | some o => exact (Array.getElem?_eq_some_iff.1 hb).1
theorem Blocks.at {P : Program} {W : World} {base : Nat} (h : Blocks P W base) {x a : Addr} {len cap : Nat} (hb : base ≤ x.block) (hc : W.cell? x = some (.slice (some a) len cap)) : a.spot = none ∧ a.block < W.heap.size := by
  unfold World.cell? at hc
  split at hc <;> try contradiction
  rename_i c ty fz ho
  obtain ⟨cs, t, he, ts, _, _, hall⟩ := h x.block _ hb ho
  cases he
  split at hc <;> try contradiction
  obtain ⟨u, _, hu⟩ := hall _ _ hc
  refine okWide_addr (P := P) (w := W) (r := .any) (base := base) (u := u) (len := len) (cap := cap) ?_
  unfold Cell.okWide
  split <;> first | exact hu | trivial | (rename_i h1; cases h1) | (rename_i _ h1; cases h1)
theorem arg_at {P : Program} {W : World} {r : Reach} {base : Nat} {t : TypeId} {fs : Array Field} {cs : Array Value} (ht : P.underlying t = some (.struct fs)) (h : Value.okWide P W r base t (.agg cs)) {i : Nat} {a : Addr} {len cap : Nat}
    (hc : cs[i]? = some (.slice (some a) len cap)) : a.spot = none ∧ a.block < W.heap.size := by
  unfold Value.okWide at h
  rw [ht] at h
  obtain ⟨cs', he, _, ts, _, _, hall⟩ := h
  cases he
  obtain ⟨u, _, hu⟩ := hall _ _ hc
  exact okWide_addr hu

/-- As the kit's frame; it also tells what the input's blocks hold. -/
theorem handed_blocks {H : Type} {enc : TypeId × Value → H} {a : Assume} {C : Checked} {os : Os} {f : FuncId} {fn : Func} {s : ChangeSpec} {conds : List PathCond} {apart fresh handsOn again : Bool} {X : World → Array Value → Prop}
    (hX : ∀ (w w' : World) (args : Array Value), w.heap = w'.heap → X w args → X w' args)
    (own : ownKnob C.prog.godebug = none) (started : os.Started) (noInit : C.prog.inits.idxOf? f = none) (hfn : C.prog.funcs[f]? = some fn)
    (witness : ∃ (w : World) (tape : Tape) (i : Input), w.os = os ∧ (w.forCall tape i).Shaped C.prog ∧ i.vars = [] ∧ Input.okWide C.prog (w.forCall tape i) .any w.heap.size f i ∧
      ((s.pre enc C.prog fn conds apart (w.forCall tape i).memory i.args ∧ X (w.forCall tape i).memory i.args) ∧ sizedMet enc C.prog fn (OpenSpec.ofChange s) apart (w.forCall tape i).memory i.args) ∧ a.holds C.prog (lone (Frame.enter C.prog f i.args .normal) [] (w.forCall tape i)))
    (contract : ∀ (W : World) (base : Nat) (args : Array Value) (ds gs : List (DataW H)) (before : List MemPlace),
      (∀ (j : Nat) t v, fn.params[j]? = some t → args[j]? = some v → Value.okWide C.prog W .any base t v) →
      DataW.Whole enc C.prog fn.params.toList s.vars apart W args.toList ds gs before →
      Blocks C.prog W base → X W args →
      Calls C.prog f args W fun e W' => ∃ v, e = .returned v ∧ s.post enc C.prog fn apart fresh handsOn again W args v W') :
    ReturnsInHanded a C os f .any (fun w args => (s.pre enc C.prog fn conds apart w args ∧ X w args) ∧ sizedMet enc C.prog fn (OpenSpec.ofChange s) apart w args) (s.post enc C.prog fn apart fresh handsOn again) := by
  refine returnsInHanded_of_calls own started noInit witness ?_
  intro w tape i _ _ hv hok hpre hholds
  obtain ⟨hblk, _, _, fn', hfn', _, _, _, _, hval⟩ := hok
  have e : fn' = fn := Option.some.inj (hfn'.symm.trans hfn)
  subst e
  obtain ⟨⟨⟨ds, gs, before, hw, hc⟩, hx⟩, hz⟩ := hpre
  have hw' := DataW.Whole.of_heap (w' := w.forCall tape i) (by rfl) hw
  have hB : Blocks C.prog (w.forCall tape i) w.heap.size := by
    intro k o hk ho
    have he : (w.forCall tape i).heap = w.heap ++ i.blocks := Input.heap_fresh hv w.heap
    rw [he, Array.getElem?_append_right hk] at ho
    obtain ⟨cs, t, h1, _, h2⟩ := hblk o (Array.mem_of_getElem? ho)
    exact ⟨cs, t, h1, h2⟩
  refine (contract (w.forCall tape i) w.heap.size i.args ds gs before hval hw' hB (hX _ _ _ (by rfl) hx)).mono fun e W' ⟨v, he, hp⟩ => ?_
  subst he
  exact ChangeSpec.post_blind hp

/-- A slice of things that have no slices of their own. -/
theorem rows_open2 {P : Program} {H : Type} {enc : TypeId × Value → H} {W : World} {base : Nat} {a : Option Addr} {len cap : Nat} {fuel : Nat} {y : DataW H × List MemPlace} {ts te : TypeId} (c : Codec) (hu : P.underlying ts = some (.slice te)) (hsz : P.cellsOf te = c.sz)
    (hop : ∀ (fuel : Nat) (cs : List Value) (y : DataW H × List MemPlace), DataW.trod enc P W base (fun _ => true) true fuel te cs = some y → ∃ b : c.α, ∀ f, f < c.sz → cs[f]? = some (cellV c b f))
    (hv : ∀ x, a = some x → x.spot = none ∧ x.block < W.heap.size) (hf : DataW.trod enc P W base (fun _ => true) true fuel ts [.slice a len cap] = some y) : ∃ zs, IsRows c W a len cap zs := by
  rcases open_slice hu hf with ⟨hcs, _⟩ | ⟨x, l, c', m, n, D, Pl, hcs, _, hl, hm, hmc, _, hall⟩
  · simp at hcs
    obtain ⟨rfl, rfl, rfl⟩ := hcs
    exact ⟨[], .inl ⟨rfl, rfl, rfl, rfl⟩⟩
  · simp at hcs
    obtain ⟨rfl, rfl, rfl⟩ := hcs
    simp at hmc
    subst hmc
    obtain ⟨hs, hb⟩ := hv _ rfl
    have hex : ∀ i, i < m → ∃ b : c.α, ∀ f, f < c.sz → W.cell? (x.add (i * c.sz + f)) = some (cellV c b f) := fun i hi => by
      obtain ⟨cs', h1, h2⟩ := hall i hi
      rw [hsz] at h1
      obtain ⟨b, hb⟩ := hop _ _ _ h2
      obtain ⟨_, _, h3⟩ := World.cells?_some h1
      exact ⟨b, fun f hf => by rw [← add_add, h3 f hf, hb f hf]⟩
    haveI : Inhabited c.α := ⟨c.dflt⟩
    obtain ⟨g, hg⟩ := choose_lt hex
    refine ⟨(List.range m).map g, .inr ⟨x, rfl, hs, hb, hl, by simp, fun i hi f hf => ?_⟩⟩
    rw [hg i hi f hf]
    congr 2
    simp [List.getD_eq_getElem?_getD, hi]
/-- What is known of a row that is a slice of numbers. -/
structure RwIn (c : Codec) (W : World) (r : Rw c.α) : Prop where
  good : Rw.ok c W r
  lt : ∀ b ∈ r.blks, b < W.heap.size
  nil : r.on = false → r.l.length = 0 ∧ r.m = 0
  cap : r.l.length ≤ r.m
abbrev cNum (k : IntKind) : Codec where
  α := Int
  dflt := 0
  sz := 1
  enc n := [.int k n]
  upd _ f v := match f, v with
    | 0, .int k' n => if sameKind k k' then some n else none
    | _, _ => none
  len _ := rfl
  cell _ v h := by simp at h; subst h; rfl
  flat _ _ _ := rfl
  upd_ok ad x f v y h := by
    split at h <;> try contradiction
    split at h <;> try contradiction
    rename_i hk
    simp at h; subst h
    simp [SV.va, sameKind_eq hk]
  beq a b := decide (a = b)
/-- A slice az it lies, whatever it points to. -/
abbrev Raw := Option Addr × Nat × Nat
abbrev cRaw : Codec where
  α := Raw
  dflt := (none, 0, 0)
  sz := 1
  enc x := [.val (.slice x.1 x.2.1 x.2.2)]
  upd _ _ _ := none
  len _ := rfl
  cell _ v h := by simp at h; subst h; rfl
  flat _ _ _ := rfl
  upd_ok _ _ _ _ _ h := by cases h
/-- What is known of the rows ahead of k, of a slice that came in. -/
def IsPart (c : Codec) (w : World) (a : Option Addr) (len cap : Nat) (zs : List c.α) : Prop :=
  (a = none ∧ len = 0 ∧ cap = 0 ∧ zs = []) ∨
  ∃ x, a = some x ∧ x.spot = none ∧ x.block < w.heap.size ∧ len ≤ cap ∧ len ≤ zs.length ∧ ∀ i, i < zs.length → ∀ f, f < c.sz → w.cell? (x.add (i * c.sz + f)) = some (cellV c (zs.getD i c.dflt) f)
theorem IsRows.part {c : Codec} {w : World} {a : Option Addr} {len cap : Nat} {zs : List c.α} (h : IsRows c w a len cap zs) : IsPart c w a len cap zs := by
  rcases h with h | ⟨x, h1, h2, h3, h4, h5, h6⟩
  · exact .inl h
  · exact .inr ⟨x, h1, h2, h3, h4, by omega, fun i hi => h6 i (by omega)⟩
theorem IsRows.cap {c : Codec} {w : World} {a : Option Addr} {len cap : Nat} {zs : List c.α} (h : IsRows c w a len cap zs) : cap ≤ zs.length := by
  rcases h with ⟨_, _, rfl, _⟩ | ⟨x, h1, h2, h3, h4, h5, h6⟩
  · exact Nat.zero_le _
  · omega
/-- A slice of slices of numbers: the rows that are seen, az they lie; where none is empty, what they hold. -/
theorem rws_open {P : Program} {H : Type} {enc : TypeId × Value → H} {W : World} {b0 base : Nat} {a : Option Addr} {len cap : Nat} {fuel : Nat} {y : DataW H × List MemPlace} {ts te tq : TypeId} {k : IntKind}
    (ht : P.underlying ts = some (.slice te)) (he : P.underlying te = some (.slice tq)) (hq : P.underlying tq = some (.int k)) (ce : P.cellsOf te = 1) (cq : P.cellsOf tq = 1)
    (hv : ∀ x, a = some x → x.spot = none ∧ x.block < W.heap.size) (hf : DataW.trod enc P W base (fun _ => true) true fuel ts [.slice a len cap] = some y) :
    ∃ R : List Raw, R.length = len ∧ IsPart cRaw W a len cap R ∧ ((∀ r ∈ R, 0 < r.2.1) → ∃ zs : List (Rw Int), zs.length = len ∧ (∀ i, i < len → (zs.getD i Rw.nil).l.length = (R.getD i (none, 0, 0)).2.1) ∧ IsPart (rwCodec (cNum k)) W a len cap zs ∧ ∀ r ∈ zs, RwIn (cNum k) W r ∧ ∀ n ∈ r.l, (Lit.int k n).wf = true) := by
  rcases open_int_rows ht he hq ce cq hf with ⟨hcs, _⟩ | ⟨x, l, c', A, L, Cp, Z, hcs, hb, hl, hm, _, hall⟩
  · simp at hcs
    obtain ⟨rfl, rfl, rfl⟩ := hcs
    exact ⟨[], rfl, .inl ⟨rfl, rfl, rfl, rfl⟩, fun _ => ⟨[], rfl, fun i hi => by omega, .inl ⟨rfl, rfl, rfl, rfl⟩, fun r hr => by cases hr⟩⟩
  · simp at hcs
    obtain ⟨rfl, rfl, rfl⟩ := hcs
    obtain ⟨hs, hlt⟩ := hv _ rfl
    refine ⟨(List.range len).map fun r => (A r, L r, Cp r), by simp, .inr ⟨x, rfl, hs, hlt, hl, by simp, fun i hi f hf => ?_⟩, fun hpos => ?_⟩
    · obtain rfl : f = 0 := by
        have : f < 1 := hf
        omega
      have hi : i < len := by simpa using hi
      rw [show i * 1 + 0 = i by omega, (hall i (by omega)).1]
      unfold cellV
      simp [List.getD_eq_getElem?_getD, hi, SV.va]
    let g : Nat → Rw Int := fun r => match A r with
      | none => Rw.nil
      | some a' => ⟨true, a'.block, a'.off, Cp r, (Z r).take (L r)⟩
    have hg : ∀ r, r < len → (g r).l.length = L r ∧ (W.cell? (x.add r) = some (g r).val) ∧ RwIn (cNum k) W (g r) ∧ ∀ n ∈ (g r).l, (Lit.int k n).wf = true := by
      intro r hr
      have hL : 0 < L r := hpos (A r, L r, Cp r) (List.mem_map.2 ⟨r, List.mem_range.2 hr, rfl⟩)
      obtain ⟨k1, k2, k3, k4, k5, k6, k7⟩ := hall r (by omega)
      cases hA : A r with
      | none =>
        have hC := k6 hA
        omega
      | some a' =>
        have e : g r = ⟨true, a'.block, a'.off, Cp r, (Z r).take (L r)⟩ := by simp [g, hA]
        rw [hA] at k1
        have h0 := (k7 a' hA).2 0 (by omega)
        have hsp : a'.spot = none ∧ a'.block < W.heap.size := by
          simp only [Addr.add, if_true] at h0
          unfold World.cell? at h0
          split at h0 <;> try contradiction
          rename_i ho
          split at h0 <;> try contradiction
          rename_i hs'
          exact ⟨by simpa using hs', (Array.getElem?_eq_some_iff.1 ho).1⟩
        obtain ⟨hsp, hlt'⟩ := hsp
        have hlen : ((Z r).take (L r)).length = L r := by rw [List.length_take, k4]; omega
        have haddr : (⟨a'.block, a'.off, none⟩ : Addr) = a' := by
          obtain ⟨b, o, s⟩ := a'
          simp only at hsp; subst hsp; rfl
        rw [e]
        refine ⟨hlen, by rw [k1]; simp [Rw.val, hlen, haddr], ⟨?_, ?_, (fun h => by cases h), by rw [hlen]; exact k2⟩, fun n hn => k5 n (List.mem_of_mem_take hn)⟩
        · unfold Rw.ok
          simp only
          intro i hi f hf
          rw [hlen] at hi
          obtain rfl : f = 0 := by omega
          have := (k7 a' hA).2 i (by omega)
          have e2 : (⟨a'.block, a'.off + (i * 1 + 0), none⟩ : Addr) = a'.add i := by
            unfold Addr.add
            split
            · rename_i h; rw [h]; exact haddr
            · rw [Nat.mul_one, Nat.add_zero]
          rw [e2, this]
          show _ = some (Value.int k (((Z r).take (L r)).getD i 0))
          rw [List.getD_eq_getElem?_getD (l := (Z r).take (L r)), List.getElem?_take_of_lt hi, ← List.getD_eq_getElem?_getD]
        · intro b hb'
          simp [Rw.blks] at hb'
          rw [hb']; exact hlt'
    refine ⟨(List.range len).map g, by simp, fun i hi => ?_, .inr ⟨x, rfl, hs, hlt, hl, by simp, fun i hi f hf => ?_⟩, fun r hr => ?_⟩
    · simp only [List.getD_eq_getElem?_getD, List.getElem?_map, List.getElem?_range hi, Option.map_some, Option.getD_some]
      exact (hg i hi).1
    · obtain rfl : f = 0 := by
        have : f < 1 := hf
        omega
      have hi : i < len := by simpa using hi
      have := (hg i hi).2.1
      rw [show i * 1 + 0 = i by omega, this]
      unfold cellV
      simp [List.getD_eq_getElem?_getD, hi, Rw.sv_va]
    · obtain ⟨i, hi, rfl⟩ := List.mem_map.1 hr
      exact (hg i (List.mem_range.1 hi)).2.2
/-- Chunks that are only read: their rows' own slices. -/
theorem deep_ro {W : World} {mem : List (Ck C)} (hnw : noWr mem = true) (h : ∀ c ∈ mem, ∀ t l, c.cells = .rows t l → ∀ x ∈ l, (C t).good W x ∧ ∀ b ∈ (C t).blks x, b < W.heap.size) :
    ∀ c ∈ mem, ∀ t l, c.cells = .rows t l → ∀ x ∈ l, (C t).good W x ∧ ∀ b ∈ (C t).blks x, Blk (wrS mem) W W mem b := by
  intro c hc t l he x hx
  obtain ⟨h1, h2⟩ := h c hc t l he x hx
  refine ⟨h1, fun b hb => ⟨h2 b hb, fun _ => .inr ⟨c, hc, t, l, he, x, hx, hb⟩, fun c' hc' hw => ?_, fun p hp => by cases hp⟩⟩
  rw [noWr_ok hnw c' hc'] at hw; cases hw
def inB (a : Option Addr) : Nat := match a with
  | none => 0
  | some x => x.block
def inQ (a : Option Addr) : Nat := match a with
  | none => 0
  | some x => x.off
/-- The chunk of a slice that came in. -/
abbrev inCk (t : Nat) (a : Option Addr) (l : List (C t).α) : Ck C := ⟨inB a, inQ a, (C t).sz, false, some a.isSome, .rows t l⟩
theorem IsPart.ok {W : World} {t : Nat} {a : Option Addr} {n c : Nat} {l : List (C t).α} (h : IsPart (C t) W a n c l) (ad : Nat → Ad) (ho : (inCk t a l : Ck C).on = true) : Ck.ok ad W (inCk t a l : Ck C) := by
  rcases h with ⟨rfl, _⟩ | ⟨x, rfl, hx, hb, hl, hz, hc⟩
  · cases ho
  · exact rows_ok hx hc
theorem IsPart.lt {W : World} {t : Nat} {a : Option Addr} {n c : Nat} {l : List (C t).α} (h : IsPart (C t) W a n c l) (ho : (inCk t a l : Ck C).on = true) : (inCk t a l : Ck C).block < W.heap.size := by
  rcases h with ⟨rfl, _⟩ | ⟨x, rfl, hx, hb, hl, hz, hc⟩
  · cases ho
  · exact hb
theorem IsPart.sq {c' : Codec} {W : World} {a : Option Addr} {n c : Nat} {l : List c'.α} (h : IsPart c' W a n c l) : n ≤ c ∧ n ≤ l.length ∧ (a.isSome = false → n = 0 ∧ c = 0) := by
  rcases h with ⟨rfl, rfl, rfl, rfl⟩ | ⟨x, rfl, hx, hb, hl, hz, hc⟩
  · exact ⟨Nat.le_refl _, Nat.le_refl _, fun _ => ⟨rfl, rfl⟩⟩
  · exact ⟨hl, hz, fun h => by cases h⟩
theorem IsPart.va {W : World} {t : Nat} {a : Option Addr} {n c : Nat} {l : List (C t).α} (h : IsPart (C t) W a n c l) {ad : Nat → Ad} {i : Nat} (hi : ad i = (inCk t a l : Ck C).ad) : SV.va ad (.sl i 0 n c) = .slice a n c := by
  rcases h with ⟨rfl, rfl, rfl, rfl⟩ | ⟨x, rfl, hx, hb, hl, hz, hc⟩
  · simp only [SV.va, hi]; rfl
  · simp only [SV.va, hi]
    obtain ⟨b, o, s⟩ := x
    simp only at hx; subst hx
    simp [Ck.ad, Ck.on, Ad.at, inB, inQ]
end Go.Vx
set_option linter.unusedSectionVars false
set_option maxRecDepth 100000
set_option linter.unusedVariables false
set_option linter.unusedSimpArgs false
namespace Go.Vx
open Go Go.Proofs

abbrev cInt (k : IntKind) : Codec where
  α := Int
  dflt := 0
  sz := 1
  enc n := [.int k n]
  upd _ f v := match f, v with
    | 0, .int k' n => if sameKind k k' then some n else none
    | _, _ => none
  len _ := rfl
  cell _ v h := by simp at h; subst h; rfl
  flat _ _ _ := rfl
  upd_ok ad x f v y h := by
    split at h <;> try contradiction
    split at h <;> try contradiction
    rename_i hk
    simp at h; subst h
    simp [SV.va, sameKind_eq hk]
  beq a b := decide (a = b)
/-- Two numbers: a place; a sealed block. -/
abbrev Pl := Int × Int
abbrev cPl : Codec where
  α := Pl
  dflt := (0, 0)
  sz := 2
  enc x := [.int .i64 x.1, .int .i64 x.2]
  upd x f v := match f, v with
    | 0, .int .i64 n => some (n, x.2)
    | 1, .int .i64 n => some (x.1, n)
    | _, _ => none
  whole vs := match vs with
    | [.int .i64 a, .int .i64 b] => some (a, b)
    | _ => none
  whole_ok ad vs y h := by
    split at h <;> try contradiction
    simp only [Option.some.injEq] at h; subst h; rfl
  len _ := rfl
  cell _ v h := by simp at h; rcases h with rfl | rfl <;> rfl
  flat _ _ _ := rfl
  upd_ok ad x f v y h := by
    split at h <;> try contradiction
    all_goals simp at h; subst h; rfl
  agg := true
/-- What is said of a page. -/
structure Me where
  kind : Int
  key : Int
  seq : Int
  stamp : Int
  batch : Int
  floor : Int
structure Slot where
  key : Int
  pl : Pl
  me : Me
/-- A page: where, of what class, what is said of it. -/
structure Pg where
  pl : Pl
  cl : Int
  me : Me
abbrev me0 : Me := ⟨0, 0, 0, 0, 0, 0⟩
abbrev slot0 : Slot := ⟨0, (0, 0), me0⟩
abbrev meE (m : Me) : List SV := [.int .i64 m.kind, .int .i64 m.key, .int .i64 m.seq, .int .i64 m.stamp, .int .i64 m.batch, .int .i64 m.floor]
abbrev plE (p : Pl) : List SV := [.int .i64 p.1, .int .i64 p.2]
abbrev slotE (x : Slot) : List SV := [.int .i64 x.key, .int .i64 x.pl.1, .int .i64 x.pl.2, .int .i64 x.me.kind, .int .i64 x.me.key, .int .i64 x.me.seq, .int .i64 x.me.stamp, .int .i64 x.me.batch, .int .i64 x.me.floor]
abbrev cSlot : Codec where
  α := Slot
  dflt := slot0
  sz := 9
  enc x := slotE x
  upd x f v := none
  whole vs := match vs with
    | [.int .i64 k, .int .i64 a, .int .i64 b, .int .i64 m1, .int .i64 m2, .int .i64 m3, .int .i64 m4, .int .i64 m5, .int .i64 m6] => some ⟨k, (a, b), ⟨m1, m2, m3, m4, m5, m6⟩⟩
    | _ => none
  whole_ok ad vs y h := by
    split at h <;> try contradiction
    simp only [Option.some.injEq] at h; subst h; rfl
  len _ := rfl
  cell _ v h := by simp [slotE] at h; rcases h with rfl | rfl | rfl | rfl | rfl | rfl | rfl | rfl | rfl <;> rfl
  flat _ _ _ := rfl
  upd_ok ad x f v y h := by cases h
  agg := true
abbrev pgE (x : Pg) : List SV := [.int .i64 x.pl.1, .int .i64 x.pl.2, .int .i64 x.cl, .int .i64 x.me.kind, .int .i64 x.me.key, .int .i64 x.me.seq, .int .i64 x.me.stamp, .int .i64 x.me.batch, .int .i64 x.me.floor]
abbrev cPg : Codec where
  α := Pg
  dflt := ⟨(0, 0), 0, me0⟩
  sz := 9
  enc x := pgE x
  upd x f v := none
  whole vs := match vs with
    | [.int .i64 a, .int .i64 b, .int .i64 k, .int .i64 m1, .int .i64 m2, .int .i64 m3, .int .i64 m4, .int .i64 m5, .int .i64 m6] => some ⟨(a, b), k, ⟨m1, m2, m3, m4, m5, m6⟩⟩
    | _ => none
  whole_ok ad vs y h := by
    split at h <;> try contradiction
    simp only [Option.some.injEq] at h; subst h; rfl
  len _ := rfl
  cell _ v h := by simp [pgE] at h; rcases h with rfl | rfl | rfl | rfl | rfl | rfl | rfl | rfl | rfl <;> rfl
  flat _ _ _ := rfl
  upd_ok ad x f v y h := by cases h
  agg := true
/-- Functions, by their numbers. -/
abbrev cFn : Codec where
  α := Nat
  dflt := 0
  sz := 1
  enc n := match n with
    | 0 => [.nilf]
    | n + 1 => [.fn (.func (n + 1)) [] []]
  upd _ f v := match f, v with
    | 0, .fn (.func (n + 1)) [] [] => some (n + 1)
    | _, _ => none
  len n := by cases n <;> rfl
  cell n v h := by cases n <;> (simp at h; subst h; rfl)
  flat n _ _ := by cases n <;> rfl
  upd_ok ad x f v y h := by
    split at h <;> try contradiction
    simp at h; subst h
    cases x <;> simp [SV.va, SV.vas]
abbrev cBool : Codec where
  α := Bool
  dflt := false
  sz := 1
  enc b := [.bool (.tm b)]
  upd _ f v := match f, v with
    | 0, .bool s => some s.val
    | _, _ => none
  len _ := rfl
  cell _ v h := by simp at h; subst h; rfl
  flat _ _ _ := rfl
  upd_ok ad x f v y h := by
    split at h <;> try contradiction
    simp at h; subst h
    simp [SV.va, SB.val]
/-- Where the errors lie, and what lies there: by the number of the package's variable; how many of them are laid. -/
class Gl where
  A : Nat → Addr
  c : Nat → Array Value
  t : Nat → TypeId
  lv : Nat
def errV : Option Addr → Value
  | none => .nilIface
  | some a => .iface 195 (.pointer (some a))
abbrev cErr : Codec where
  α := Option Addr
  dflt := none
  sz := 1
  enc e := [.val (errV e)]
  upd _ f v := match f, v with
    | 0, .nili => some none
    | 0, .ifc 195 (.val (.pointer (some a))) => some (some a)
    | _, _ => none
  len _ := rfl
  cell e v h := by simp at h; subst h; cases e <;> rfl
  flat _ _ _ := rfl
  upd_ok ad x f v y h := by
    split at h <;> try contradiction
    all_goals
      simp at h; subst h
      simp [SV.va, errV]
/-- Is it laid. -/
abbrev glB [Gl] (g : Nat) : Bool := match Nat.blt g 3 with
  | true => true
  | false => Nat.blt g Gl.lv
abbrev glV [Gl] (g : Nat) : Option SV := match glB g with
  | true => some (.ifc 195 (.val (.pointer (some (Gl.A g)))))
  | false => none
abbrev glP [Gl] (g : Nat) : List (Nat × Obj) := match glB g with
  | true => [((Gl.A g).block, .cells (Gl.c g) (Gl.t g) (0, 0))]
  | false => []
theorem glV_flat [Gl] (g : Nat) : ∀ v, glV g = some v → ∀ ad ad', SV.va ad v = SV.va ad' v := by
  intro v h ad ad'
  unfold glV at h
  split at h
  · simp only [Option.some.injEq] at h; subst h; rfl
  · cases h
abbrev cG [Gl] (g : Nat) (c : Codec) : Codec := { c with gv := glV g, gpins := glP g, gflat := glV_flat g }
abbrev C0 [Gl] : Nat → Codec := fun t => match t with
  | 5 => cG 5 (cInt .u8)
  | 66 => cG 66 cPl
  | 87 => cG 87 cPl
  | 74 => cG 74 cSlot
  | 88 => cG 88 cSlot
  | 70 => cG 70 cPg
  | 71 => cG 71 (rwCodec (cInt .i64))
  | 26 => cG 26 (rwCodec (cInt .u8))
  | 1071 => cG 1071 cRaw
  | 127 => cG 127 cFn
  | 4 => cG 4 cBool
  | 30 => cG 30 cErr
  | t => cG t (cInt .i64)
theorem mix : Tryd.prog.follows .mixedOrders = true := by kernel_rfl
theorem inR64 {n : Int} (h1 : -9223372036854775808 ≤ n) (h2 : n ≤ 9223372036854775807) : inR .i64 n := by
  unfold inR IntKind.wrap
  simp [IntKind.bits, IntKind.signed]
  omega
section
variable [Gl]
/-- [][]int, [][]byte: read. -/
def fI : Fam C0 where
  te := 71
  off := 0
  t := 3
  get x := x
  enc x := Rw.sv_va x noAd
  good w x h := h
  blk x b hb := hb
  flat := rfl
  hoff := Nat.zero_lt_one
def fB : Fam C0 where
  te := 26
  off := 0
  t := 5
  get x := x
  enc x := Rw.sv_va x noAd
  good w x h := h
  blk x b hb := hb
  flat := rfl
  hoff := Nat.zero_lt_one
/-- And made. -/
def wI : FamW C0 where
  te := 71
  t := 3
  put x := x
  sz := rfl
  enc x := Rw.sv_va x noAd
  blks x := rfl
  good w x h := h
def wB : FamW C0 where
  te := 26
  t := 5
  put x := x
  sz := rfl
  enc x := Rw.sv_va x noAd
  blks x := rfl
  good w x h := h
end
end Go.Vx
set_option linter.unusedSectionVars false
set_option maxRecDepth 100000
set_option linter.unusedVariables false
set_option linter.unusedSimpArgs false
namespace Go.Vx
open Go Go.Proofs
variable [Gl]

/-- A register behind a bit 0. -/
def cstep (x : Int) : Int := ibit .xor .u32 (ishr .u32 x 1) (ibit .and .u32 3988292384 (IntKind.u32.wrap (0 - ibit .and .u32 x 1)))
def itn (f : Int → Int) : Nat → Int → Int
  | 0, x => x
  | n + 1, x => itn f n (f x)
theorem itn_succ (f : Int → Int) : ∀ (n : Nat) (x : Int), itn f (n + 1) x = f (itn f n x)
  | 0, x => rfl
  | n + 1, x => itn_succ f n (f x)
/-- Behind a byte. -/
@[irreducible] def sumB (x b : Int) : Int := itn cstep 8 (ibit .xor .u32 x (IntKind.u32.wrap b))
def crc (l : List Int) : Int := ibit .xor .u32 (l.foldl sumB 4294967295) 4294967295
theorem step_ok (x : Int) : Tells (C := C0) Tryd.prog (.fn 101) [] [.int .u32 x] (.int .u32 (cstep x)) := by
  refine loc_pc (P := Tryd.prog) (E := ⟨[], [], 10, [], [], []⟩) (L := []) mix Tryd.func101 rfl (by kernel_rfl) (by kernel_rfl) rfl rfl ?_
  ((conv => (arg 1; reduce)); with_reducible repeat' (first | exact Tr.yes_h | refine Tr.and_h ?_ ?_ | refine Tr.imp_h fun _ => ?_ | refine Tr.all_h fun _ => ?_ | refine Tr.lf_h ?_))
  all_goals (first | first | (show Region.lexB _ _ = true; kernel_rfl) | (show planned _ _ = true; kernel_rfl) | exact rfl | exact True.intro | ((try dsimp only [imp, C0, cG, cInt, cPl, cSlot, cPg, rwCodec, cRaw] at *); (try refine inR64 ?_ ?_) <;> (try simp only [List.length_set, List.length_append, List.length_take, List.length_drop]) <;> omega))
def pcStep : Pc Tryd.prog C0 where
  tg := .fn 101
  X := Int
  args x := [.int .u32 x]
  mem _ := []
  pre _ := True
  res x := .int .u32 (cstep x)
  mat vs _ := match vs with
    | [.int _ x] => some (x, [])
    | _ => none
  ok x _ := step_ok x
def Byt (x0 : Int) : Inv' C0 := ⟨2, Nat × Int, fun x => [(13, .int .i64 (x.1 : Int))], fun x m => match m with
  | [a] => [⟨a.block, a.base, 1, true, none, .one [.int .u32 x.2]⟩]
  | m => m, fun x => x.1 ≤ 8 ∧ x.2 = itn cstep x.1 x0, fun x => 8 - x.1⟩
theorem byte_ok (b q : Nat) (x c : Int) : Does (C := C0) Tryd.prog (.fn 81) [⟨b, q, 1, true, none, .one [.int .u32 x]⟩] [.ptr 0 0 0, .int .u8 c]
    [⟨Unit, fun _ => True, fun _ => .tup [], fun _ => [⟨b, q, 1, true, none, .one [.int .u32 (sumB x c)]⟩]⟩] := by
  refine loc_fn (P := Tryd.prog) (E := ⟨[], [pcStep], 24, [], [], []⟩) (L := [Byt (ibit .xor .u32 x (IntKind.u32.wrap c))]) mix Tryd.func81 rfl (by kernel_rfl) (by kernel_rfl) rfl rfl ?_
  ((conv => (arg 1; reduce)); with_reducible repeat' (first | exact Tr.yes_h | refine Tr.and_h ?_ ?_ | refine Tr.imp_h fun _ => ?_ | refine Tr.all_h fun _ => ?_ | refine Tr.lf_h ?_))
  all_goals try (first | first | (show Region.lexB _ _ = true; kernel_rfl) | (show planned _ _ = true; kernel_rfl) | exact rfl | exact True.intro | ((try dsimp only [imp, C0, cG, cInt, cPl, cSlot, cPg, rwCodec, cRaw] at *); (try refine inR64 ?_ ?_) <;> (try simp only [List.length_set, List.length_append, List.length_take, List.length_drop]) <;> omega))
  · refine Stands.one (0, ibit .xor .u32 x (IntKind.u32.wrap c)) ⟨⟨Nat.zero_le _, rfl⟩, ?_⟩
    ((conv => (arg 1; reduce)); with_reducible repeat' (first | exact Tr.yes_h | refine Tr.and_h ?_ ?_ | refine Tr.imp_h fun _ => ?_ | refine Tr.all_h fun _ => ?_ | refine Tr.lf_h ?_))
    all_goals (first | first | (show Region.lexB _ _ = true; kernel_rfl) | (show planned _ _ = true; kernel_rfl) | exact rfl | exact True.intro | ((try dsimp only [imp, C0, cG, cInt, cPl, cSlot, cPg, rwCodec, cRaw] at *); (try refine inR64 ?_ ?_) <;> (try simp only [List.length_set, List.length_append, List.length_take, List.length_drop]) <;> omega))
  · ((try dsimp only [imp, C0, cG, cInt, cPl, cSlot, cPg, rwCodec, cRaw, Byt] at *); (try simp only [decide_eq_true_eq, decide_eq_false_iff_not, Bool.and_eq_true, Bool.or_eq_true, Bool.or_eq_false_iff, Bool.and_eq_false_iff, Bool.not_eq_true', Bool.not_eq_false', SB.val, List.length_append, List.length_cons, List.length_nil, List.length_take, List.length_drop] at *); (first | omega | exact inR64 (by omega) (by omega) | (refine inR64 ?_ ?_ <;> omega)))
  · rename_i v hv h
    obtain ⟨i, y⟩ := v
    obtain ⟨h1, h2⟩ : i ≤ 8 ∧ y = itn cstep i _ := hv
    have h : decide ((i : Int) < 8) = true := h
    refine Stands.one (i + 1, cstep y) ⟨⟨by ((try dsimp only [imp, C0, cG, cInt, cPl, cSlot, cPg, rwCodec, cRaw] at *); (try simp only [decide_eq_true_eq, decide_eq_false_iff_not, Bool.and_eq_true, Bool.or_eq_true, Bool.or_eq_false_iff, Bool.and_eq_false_iff, Bool.not_eq_true', Bool.not_eq_false', SB.val, List.length_append, List.length_cons, List.length_nil, List.length_take, List.length_drop] at *); (first | omega | exact inR64 (by omega) (by omega) | (refine inR64 ?_ ?_ <;> omega))), ?_⟩, ?_, ?_⟩
    · rw [itn_succ, ← h2]
    · show 8 - (i + 1) < 8 - i
      ((try dsimp only [imp, C0, cG, cInt, cPl, cSlot, cPg, rwCodec, cRaw] at *); (try simp only [decide_eq_true_eq, decide_eq_false_iff_not, Bool.and_eq_true, Bool.or_eq_true, Bool.or_eq_false_iff, Bool.and_eq_false_iff, Bool.not_eq_true', Bool.not_eq_false', SB.val, List.length_append, List.length_cons, List.length_nil, List.length_take, List.length_drop] at *); (first | omega | exact inR64 (by omega) (by omega) | (refine inR64 ?_ ?_ <;> omega)))
    ((conv => (arg 1; reduce)); with_reducible repeat' (first | exact Tr.yes_h | refine Tr.and_h ?_ ?_ | refine Tr.imp_h fun _ => ?_ | refine Tr.all_h fun _ => ?_ | refine Tr.lf_h ?_))
    all_goals (first | first | (show Region.lexB _ _ = true; kernel_rfl) | (show planned _ _ = true; kernel_rfl) | exact rfl | exact True.intro | ((try dsimp only [imp, C0, cG, cInt, cPl, cSlot, cPg, rwCodec, cRaw] at *); (try refine inR64 ?_ ?_) <;> (try simp only [List.length_set, List.length_append, List.length_take, List.length_drop]) <;> omega))
  · rename_i v hv h
    obtain ⟨i, y⟩ := v
    obtain ⟨h1, h2⟩ : i ≤ 8 ∧ y = itn cstep i _ := hv
    have h : decide ((i : Int) < 8) = false := h
    obtain rfl : i = 8 := by ((try dsimp only [imp, C0, cG, cInt, cPl, cSlot, cPg, rwCodec, cRaw] at *); (try simp only [decide_eq_true_eq, decide_eq_false_iff_not, Bool.and_eq_true, Bool.or_eq_true, Bool.or_eq_false_iff, Bool.and_eq_false_iff, Bool.not_eq_true', Bool.not_eq_false', SB.val, List.length_append, List.length_cons, List.length_nil, List.length_take, List.length_drop] at *); (first | omega | exact inR64 (by omega) (by omega) | (refine inR64 ?_ ?_ <;> omega)))
    refine Ends.one () trivial ?_
    ((conv => (arg 1; reduce)); with_reducible repeat' (first | exact Tr.yes_h | refine Tr.and_h ?_ ?_ | refine Tr.imp_h fun _ => ?_ | refine Tr.all_h fun _ => ?_ | refine Tr.lf_h ?_))
    all_goals try (first | first | (show Region.lexB _ _ = true; kernel_rfl) | (show planned _ _ = true; kernel_rfl) | exact rfl | exact True.intro | ((try dsimp only [imp, C0, cG, cInt, cPl, cSlot, cPg, rwCodec, cRaw] at *); (try refine inR64 ?_ ?_) <;> (try simp only [List.length_set, List.length_append, List.length_take, List.length_drop]) <;> omega))
    show sumB x c = y
    unfold sumB
    exact h2.symm
def fcByte : Fc Tryd.prog C0 where
  tg := .fn 81
  X := Nat × Nat × Int × Int
  args := fun (b, q, x, c) => [.ptr 0 0 0, .int .u8 c]
  mem := fun (b, q, x, c) => [⟨b, q, 1, true, none, .one [.int .u32 x]⟩]
  pre _ := True
  alts := fun (b, q, x, c) => [⟨Unit, fun _ => True, fun _ => .tup [], fun _ => [⟨b, q, 1, true, none, .one [.int .u32 (sumB x c)]⟩]⟩]
  mat vs m := match vs with
    | [.ptr a _ _, .int _ c] => match nth m a with
      | ⟨b, q, _, _, _, .one [.int _ x]⟩ => some ((b, q, x, c), [a])
      | _ => none
    | _ => none
  ok := fun (b, q, x, c) _ => byte_ok b q x c
def onOf : Option Bool → Bool
  | none => true
  | some b => b
theorem on_of {o : Bool} {n c : Nat} (ho : o = false → n = 0 ∧ c = 0) (h : 0 < n) : o = true := by
  cases o with
  | true => rfl
  | false => have := (ho rfl).1; omega
/-- Bytes that came in: l, of which n from i on, not there or so. -/
def Eac (x0 : Int) (L : List Int) : Inv' C0 := ⟨1, Nat × Int, fun x => [(8, .int .i64 (x.1 : Int))], fun x m => match m with
  | [a, c] => [⟨a.block, a.base, 1, true, none, .one [.int .u32 x.2]⟩, c]
  | m => m, fun x => x.1 ≤ L.length ∧ x.2 = (L.take x.1).foldl sumB x0, fun x => L.length - x.1⟩
theorem take_fold (f : Int → Int → Int) (x0 : Int) (L : List Int) {i : Nat} (h : i < L.length) : (L.take (i + 1)).foldl f x0 = f ((L.take i).foldl f x0) (L.getD i 0) := by
  rw [List.take_add_one, List.foldl_append]
  simp [List.getElem?_eq_getElem h, List.getD_eq_getElem?_getD]
theorem each_ok (b q : Nat) (x : Int) (o : Bool) (b2 q2 : Nat) (l : List Int) (i n c : Nat) (h : i + n ≤ l.length) (hn : n < 4611686018427387904) (ho : o = false → n = 0 ∧ c = 0) : Does (C := C0) Tryd.prog (.fn 80) [⟨b, q, 1, true, none, .one [.int .u32 x]⟩, ⟨b2, q2, 1, false, some o, .rows 5 l⟩] [.sl 1 i n c, .fn (.func 81) [.ptr 0 0 0] []]
    [⟨Unit, fun _ => True, fun _ => .tup [], fun _ => [⟨b, q, 1, true, none, .one [.int .u32 (((l.drop i).take n).foldl sumB x)]⟩, ⟨b2, q2, 1, false, some o, .rows 5 l⟩]⟩] := by
  have hL : ((l.drop i).take n).length = n := by simp; omega
  refine loc_fn (P := Tryd.prog) (E := ⟨[fcByte], [], 16, [], [], []⟩) (L := [Eac x ((l.drop i).take n)]) mix Tryd.func80 rfl (by kernel_rfl) (by kernel_rfl) rfl rfl ?_
  ((conv => (arg 1; reduce)); with_reducible repeat' (first | exact Tr.yes_h | refine Tr.and_h ?_ ?_ | refine Tr.imp_h fun _ => ?_ | refine Tr.all_h fun _ => ?_ | refine Tr.lf_h ?_))
  all_goals try (first | (first | first | (show Region.lexB _ _ = true; kernel_rfl) | (show planned _ _ = true; kernel_rfl) | exact rfl | exact True.intro | ((try dsimp only [imp, C0, cG, cInt, cPl, cSlot, cPg, rwCodec, cRaw] at *); (try refine inR64 ?_ ?_) <;> (try simp only [List.length_set, List.length_append, List.length_take, List.length_drop]) <;> omega)) | ((try dsimp only [imp, C0, cG, cInt, cPl, cSlot, cPg, rwCodec, cRaw, Eac] at *); (try simp only [decide_eq_true_eq, decide_eq_false_iff_not, Bool.and_eq_true, Bool.or_eq_true, Bool.or_eq_false_iff, Bool.and_eq_false_iff, Bool.not_eq_true', Bool.not_eq_false', SB.val, List.length_append, List.length_cons, List.length_nil, List.length_take, List.length_drop] at *); (first | omega | exact inR64 (by omega) (by omega) | (refine inR64 ?_ ?_ <;> omega))) | (refine on_of ho ?_; ((try dsimp only [imp, C0, cG, cInt, cPl, cSlot, cPg, rwCodec, cRaw, Eac] at *); (try simp only [decide_eq_true_eq, decide_eq_false_iff_not, Bool.and_eq_true, Bool.or_eq_true, Bool.or_eq_false_iff, Bool.and_eq_false_iff, Bool.not_eq_true', Bool.not_eq_false', SB.val, List.length_append, List.length_cons, List.length_nil, List.length_take, List.length_drop] at *); (first | omega | exact inR64 (by omega) (by omega) | (refine inR64 ?_ ?_ <;> omega)))))
  · refine Stands.one (0, x) ⟨⟨Nat.zero_le _, rfl⟩, ?_⟩
    ((conv => (arg 1; reduce)); with_reducible repeat' (first | exact Tr.yes_h | refine Tr.and_h ?_ ?_ | refine Tr.imp_h fun _ => ?_ | refine Tr.all_h fun _ => ?_ | refine Tr.lf_h ?_))
    all_goals (first | first | (show Region.lexB _ _ = true; kernel_rfl) | (show planned _ _ = true; kernel_rfl) | exact rfl | exact True.intro | ((try dsimp only [imp, C0, cG, cInt, cPl, cSlot, cPg, rwCodec, cRaw] at *); (try refine inR64 ?_ ?_) <;> (try simp only [List.length_set, List.length_append, List.length_take, List.length_drop]) <;> omega))
  · rename_i v hv h _ _
    obtain ⟨j, y⟩ := v
    obtain ⟨h1, h2⟩ : j ≤ ((l.drop i).take n).length ∧ y = _ := hv
    have h : decide ((j : Int) < (n : Int)) = true := h
    have hj : j < n := by ((try dsimp only [imp, C0, cG, cInt, cPl, cSlot, cPg, rwCodec, cRaw] at *); (try simp only [decide_eq_true_eq, decide_eq_false_iff_not, Bool.and_eq_true, Bool.or_eq_true, Bool.or_eq_false_iff, Bool.and_eq_false_iff, Bool.not_eq_true', Bool.not_eq_false', SB.val, List.length_append, List.length_cons, List.length_nil, List.length_take, List.length_drop] at *); (first | omega | exact inR64 (by omega) (by omega) | (refine inR64 ?_ ?_ <;> omega)))
    refine Stands.one (j + 1, sumB y (l.getD (j + i) 0)) ⟨⟨by rw [hL]; omega, ?_⟩, ?_, ?_⟩
    · rw [take_fold _ _ _ (by rw [hL]; exact hj), ← h2]
      congr 1
      simp only [List.getD_eq_getElem?_getD]
      rw [List.getElem?_take_of_lt hj, List.getElem?_drop, Nat.add_comm]
    · show ((l.drop i).take n).length - (j + 1) < ((l.drop i).take n).length - j
      rw [hL]; omega
    ((conv => (arg 1; reduce)); with_reducible repeat' (first | exact Tr.yes_h | refine Tr.and_h ?_ ?_ | refine Tr.imp_h fun _ => ?_ | refine Tr.all_h fun _ => ?_ | refine Tr.lf_h ?_))
    all_goals (first | first | (show Region.lexB _ _ = true; kernel_rfl) | (show planned _ _ = true; kernel_rfl) | exact rfl | exact True.intro | ((try dsimp only [imp, C0, cG, cInt, cPl, cSlot, cPg, rwCodec, cRaw] at *); (try refine inR64 ?_ ?_) <;> (try simp only [List.length_set, List.length_append, List.length_take, List.length_drop]) <;> omega))
  · rename_i v hv h
    obtain ⟨j, y⟩ := v
    obtain ⟨h1, h2⟩ : j ≤ ((l.drop i).take n).length ∧ y = _ := hv
    have h : decide ((j : Int) < (n : Int)) = false := h
    obtain rfl : j = n := by rw [hL] at h1; ((try dsimp only [imp, C0, cG, cInt, cPl, cSlot, cPg, rwCodec, cRaw] at *); (try simp only [decide_eq_true_eq, decide_eq_false_iff_not, Bool.and_eq_true, Bool.or_eq_true, Bool.or_eq_false_iff, Bool.and_eq_false_iff, Bool.not_eq_true', Bool.not_eq_false', SB.val, List.length_append, List.length_cons, List.length_nil, List.length_take, List.length_drop] at *); (first | omega | exact inR64 (by omega) (by omega) | (refine inR64 ?_ ?_ <;> omega)))
    refine Ends.one () trivial ?_
    ((conv => (arg 1; reduce)); with_reducible repeat' (first | exact Tr.yes_h | refine Tr.and_h ?_ ?_ | refine Tr.imp_h fun _ => ?_ | refine Tr.all_h fun _ => ?_ | refine Tr.lf_h ?_))
    all_goals try (first | first | (show Region.lexB _ _ = true; kernel_rfl) | (show planned _ _ = true; kernel_rfl) | exact rfl | exact True.intro | ((try dsimp only [imp, C0, cG, cInt, cPl, cSlot, cPg, rwCodec, cRaw] at *); (try refine inR64 ?_ ?_) <;> (try simp only [List.length_set, List.length_append, List.length_take, List.length_drop]) <;> omega))
    show _ = y
    rw [h2]
    simp only [List.take_take, Nat.min_self]
def fcEach : Fc Tryd.prog C0 where
  tg := .fn 80
  X := Nat × Nat × Int × Bool × Nat × Nat × List Int × Nat × Nat × Nat
  args := fun (b, q, x, o, b2, q2, l, i, n, c) => [.sl 1 i n c, .fn (.func 81) [.ptr 0 0 0] []]
  mem := fun (b, q, x, o, b2, q2, l, i, n, c) => [⟨b, q, 1, true, none, .one [.int .u32 x]⟩, ⟨b2, q2, 1, false, some o, .rows 5 l⟩]
  pre := fun (b, q, x, o, b2, q2, l, i, n, c) => i + n ≤ l.length ∧ n < 4611686018427387904 ∧ (o = false → n = 0 ∧ c = 0)
  alts := fun (b, q, x, o, b2, q2, l, i, n, c) => [⟨Unit, fun _ => True, fun _ => .tup [], fun _ => [⟨b, q, 1, true, none, .one [.int .u32 (((l.drop i).take n).foldl sumB x)]⟩, ⟨b2, q2, 1, false, some o, .rows 5 l⟩]⟩]
  mat vs m := match vs with
    | [.sl a2 i n c, .fn _ [.ptr a _ _] _] => match nth m a, nth m a2 with
      | ⟨b, q, _, _, _, .one [.int _ x]⟩, ⟨b2, q2, _, _, g, .rows 5 l⟩ => some ((b, q, x, onOf g, b2, q2, l, i, n, c), [a, a2])
      | _, _ => none
    | [.nils, .fn _ [.ptr a _ _] _] => match nth m a with
      | ⟨b, q, _, _, _, .one [.int _ x]⟩ => some ((b, q, x, false, 0, 0, [], 0, 0, 0), [a, m.length])
      | _ => none
    | _ => none
  ok := fun (b, q, x, o, b2, q2, l, i, n, c) h => each_ok b q x o b2 q2 l i n c h.1 h.2.1 h.2.2
theorem write_ok (b q : Nat) (x : Int) (o : Bool) (b2 q2 : Nat) (l : List Int) (i n c : Nat) (h : i + n ≤ l.length) (hn : n < 4611686018427387904) (ho : o = false → n = 0 ∧ c = 0) : Does (C := C0) Tryd.prog (.fn 57) [⟨b, q, 1, true, none, .one [.int .u32 x]⟩, ⟨b2, q2, 1, false, some o, .rows 5 l⟩] [.ptr 0 0 0, .sl 1 i n c]
    [⟨Unit, fun _ => True, fun _ => .tup [], fun _ => [⟨b, q, 1, true, none, .one [.int .u32 (((l.drop i).take n).foldl sumB x)]⟩, ⟨b2, q2, 1, false, some o, .rows 5 l⟩]⟩] := by
  refine loc_fn (P := Tryd.prog) (E := ⟨[fcEach], [], 8, [], [], []⟩) (L := []) mix Tryd.func57 rfl (by kernel_rfl) (by kernel_rfl) rfl rfl ?_
  ((conv => (arg 1; reduce)); with_reducible repeat' (first | exact Tr.yes_h | refine Tr.and_h ?_ ?_ | refine Tr.imp_h fun _ => ?_ | refine Tr.all_h fun _ => ?_ | refine Tr.lf_h ?_))
  all_goals try (first | first | (show Region.lexB _ _ = true; kernel_rfl) | (show planned _ _ = true; kernel_rfl) | exact rfl | exact True.intro | ((try dsimp only [imp, C0, cG, cInt, cPl, cSlot, cPg, rwCodec, cRaw] at *); (try refine inR64 ?_ ?_) <;> (try simp only [List.length_set, List.length_append, List.length_take, List.length_drop]) <;> omega))
  · exact ⟨h, hn, ho⟩
  · refine Ends.one () trivial ?_
    ((conv => (arg 1; reduce)); with_reducible repeat' (first | exact Tr.yes_h | refine Tr.and_h ?_ ?_ | refine Tr.imp_h fun _ => ?_ | refine Tr.all_h fun _ => ?_ | refine Tr.lf_h ?_))
    all_goals (first | first | (show Region.lexB _ _ = true; kernel_rfl) | (show planned _ _ = true; kernel_rfl) | exact rfl | exact True.intro | ((try dsimp only [imp, C0, cG, cInt, cPl, cSlot, cPg, rwCodec, cRaw] at *); (try refine inR64 ?_ ?_) <;> (try simp only [List.length_set, List.length_append, List.length_take, List.length_drop]) <;> omega))
def fcWrite : Fc Tryd.prog C0 where
  tg := .fn 57
  X := Nat × Nat × Int × Bool × Nat × Nat × List Int × Nat × Nat × Nat
  args := fun (b, q, x, o, b2, q2, l, i, n, c) => [.ptr 0 0 0, .sl 1 i n c]
  mem := fun (b, q, x, o, b2, q2, l, i, n, c) => [⟨b, q, 1, true, none, .one [.int .u32 x]⟩, ⟨b2, q2, 1, false, some o, .rows 5 l⟩]
  pre := fun (b, q, x, o, b2, q2, l, i, n, c) => i + n ≤ l.length ∧ n < 4611686018427387904 ∧ (o = false → n = 0 ∧ c = 0)
  alts := fun (b, q, x, o, b2, q2, l, i, n, c) => [⟨Unit, fun _ => True, fun _ => .tup [], fun _ => [⟨b, q, 1, true, none, .one [.int .u32 (((l.drop i).take n).foldl sumB x)]⟩, ⟨b2, q2, 1, false, some o, .rows 5 l⟩]⟩]
  mat vs m := match vs with
    | [.ptr a _ _, .sl a2 i n c] => match nth m a, nth m a2 with
      | ⟨b, q, _, _, _, .one [.int _ x]⟩, ⟨b2, q2, _, _, g, .rows 5 l⟩ => some ((b, q, x, onOf g, b2, q2, l, i, n, c), [a, a2])
      | _, _ => none
    | [.ptr a _ _, .nils] => match nth m a with
      | ⟨b, q, _, _, _, .one [.int _ x]⟩ => some ((b, q, x, false, 0, 0, [], 0, 0, 0), [a, m.length])
      | _ => none
    | _ => none
  ok := fun (b, q, x, o, b2, q2, l, i, n, c) h => write_ok b q x o b2 q2 l i n c h.1 h.2.1 h.2.2
theorem ibit_u32 (op : BinOp) (x y : Int) : 0 ≤ ibit op .u32 x y ∧ ibit op .u32 x y < 4294967296 := by
  unfold ibit IntKind.wrap
  simp only [IntKind.bits, IntKind.signed]
  simp
  omega
theorem value_ok (b q : Nat) (x : Int) : Tells (C := C0) Tryd.prog (.fn 58) [⟨b, q, 1, false, none, .one [.int .u32 x]⟩] [.ptr 0 0 0] (.int .i64 (ibit .xor .u32 x 4294967295)) := by
  refine loc_pc (P := Tryd.prog) (E := ⟨[], [], 9, [], [], []⟩) (L := []) mix Tryd.func58 rfl (by kernel_rfl) (by kernel_rfl) rfl rfl ?_
  ((conv => (arg 1; reduce)); with_reducible repeat' (first | exact Tr.yes_h | refine Tr.and_h ?_ ?_ | refine Tr.imp_h fun _ => ?_ | refine Tr.all_h fun _ => ?_ | refine Tr.lf_h ?_))
  all_goals try (first | first | (show Region.lexB _ _ = true; kernel_rfl) | (show planned _ _ = true; kernel_rfl) | exact rfl | exact True.intro | ((try dsimp only [imp, C0, cG, cInt, cPl, cSlot, cPg, rwCodec, cRaw] at *); (try refine inR64 ?_ ?_) <;> (try simp only [List.length_set, List.length_append, List.length_take, List.length_drop]) <;> omega))
  have := ibit_u32 .xor x 4294967295
  exact inR64 (by omega) (by omega)
def pcValue : Pc Tryd.prog C0 where
  tg := .fn 58
  X := Nat × Nat × Int
  args := fun (b, q, x) => [.ptr 0 0 0]
  mem := fun (b, q, x) => [⟨b, q, 1, false, none, .one [.int .u32 x]⟩]
  pre _ := True
  res := fun (b, q, x) => .int .i64 (ibit .xor .u32 x 4294967295)
  mat vs m := match vs with
    | [.ptr a _ _] => match nth m a with
      | ⟨b, q, _, _, _, .one [.int _ x]⟩ => some ((b, q, x), [a])
      | _ => none
    | _ => none
  ok := fun (b, q, x) _ => value_ok b q x
theorem new_ok : Does (C := C0) Tryd.prog (.fn 56) [] [] [⟨Nat × Nat, fun _ => True, fun _ => .ptr 0 0 0, fun y => [⟨y.1, y.2, 1, true, none, .one [.int .u32 4294967295]⟩]⟩] := by
  refine loc_fn (P := Tryd.prog) (E := ⟨[], [], 3, [], [], []⟩) (L := []) mix Tryd.func56 rfl (by kernel_rfl) (by kernel_rfl) rfl rfl ?_
  ((conv => (arg 1; reduce)); with_reducible repeat' (first | exact Tr.yes_h | refine Tr.and_h ?_ ?_ | refine Tr.imp_h fun _ => ?_ | refine Tr.all_h fun _ => ?_ | refine Tr.lf_h ?_))
  all_goals try (first | first | (show Region.lexB _ _ = true; kernel_rfl) | (show planned _ _ = true; kernel_rfl) | exact rfl | exact True.intro | ((try dsimp only [imp, C0, cG, cInt, cPl, cSlot, cPg, rwCodec, cRaw] at *); (try refine inR64 ?_ ?_) <;> (try simp only [List.length_set, List.length_append, List.length_take, List.length_drop]) <;> omega))
  rename_i b
  refine Ends.one (b, 0) trivial ?_
  ((conv => (arg 1; reduce)); with_reducible repeat' (first | exact Tr.yes_h | refine Tr.and_h ?_ ?_ | refine Tr.imp_h fun _ => ?_ | refine Tr.all_h fun _ => ?_ | refine Tr.lf_h ?_))
  all_goals (first | first | (show Region.lexB _ _ = true; kernel_rfl) | (show planned _ _ = true; kernel_rfl) | exact rfl | exact True.intro | ((try dsimp only [imp, C0, cG, cInt, cPl, cSlot, cPg, rwCodec, cRaw] at *); (try refine inR64 ?_ ?_) <;> (try simp only [List.length_set, List.length_append, List.length_take, List.length_drop]) <;> omega))
def fcNew : Fc Tryd.prog C0 where
  tg := .fn 56
  X := Unit
  args _ := []
  mem _ := []
  pre _ := True
  alts _ := [⟨Nat × Nat, fun _ => True, fun _ => .ptr 0 0 0, fun y => [⟨y.1, y.2, 1, true, none, .one [.int .u32 4294967295]⟩]⟩]
  mat _ _ := some ((), [])
  ok _ _ := new_ok
/-- A sum of bytes, the program's. -/
theorem crcOf_ok (o : Bool) (b2 q2 : Nat) (l : List Int) (i n c : Nat) (h : i + n ≤ l.length) (hn : n < 4611686018427387904) (ho : o = false → n = 0 ∧ c = 0) : Tells (C := C0) Tryd.prog (.fn 33) [⟨b2, q2, 1, false, some o, .rows 5 l⟩] [.sl 0 i n c]
    (.int .i64 (crc ((l.drop i).take n))) := by
  refine loc_pc (P := Tryd.prog) (E := ⟨[fcNew, fcWrite], [pcValue], 10, [], [], []⟩) (L := []) mix Tryd.func33 rfl (by kernel_rfl) (by kernel_rfl) rfl rfl ?_
  ((conv => (arg 1; reduce)); with_reducible repeat' (first | exact Tr.yes_h | refine Tr.and_h ?_ ?_ | refine Tr.imp_h fun _ => ?_ | refine Tr.all_h fun _ => ?_ | refine Tr.lf_h ?_))
  all_goals try (first | first | (show Region.lexB _ _ = true; kernel_rfl) | (show planned _ _ = true; kernel_rfl) | exact rfl | exact True.intro | ((try dsimp only [imp, C0, cG, cInt, cPl, cSlot, cPg, rwCodec, cRaw] at *); (try refine inR64 ?_ ?_) <;> (try simp only [List.length_set, List.length_append, List.length_take, List.length_drop]) <;> omega))
  · exact ⟨h, hn, ho⟩
/-- Bytes that are read: a chunk that may not be there. -/
def pcCrc : Pc Tryd.prog C0 where
  tg := .fn 33
  X := Bool × Nat × Nat × List Int × Nat × Nat × Nat
  args := fun (o, b2, q2, l, i, n, c) => [.sl 0 i n c]
  mem := fun (o, b2, q2, l, i, n, c) => [⟨b2, q2, 1, false, some o, .rows 5 l⟩]
  pre := fun (o, b2, q2, l, i, n, c) => i + n ≤ l.length ∧ n < 4611686018427387904 ∧ (o = false → n = 0 ∧ c = 0)
  res := fun (o, b2, q2, l, i, n, c) => .int .i64 (crc ((l.drop i).take n))
  mat vs m := match vs with
    | [.sl a2 i n c] => match nth m a2 with
      | ⟨b2, q2, _, _, g, .rows 5 l⟩ => some ((onOf g, b2, q2, l, i, n, c), [a2])
      | _ => none
    | [.nils] => some ((false, 0, 0, [], 0, 0, 0), [m.length])
    | _ => none
  ok := fun (o, b2, q2, l, i, n, c) h => crcOf_ok o b2 q2 l i n c h.1 h.2.1 h.2.2
/-- The document's step. -/
def rstep (x : Int) : Int := if ibit .and .u32 x 1 = 1 then ibit .xor .u32 (ishr .u32 x 1) 3988292384 else ishr .u32 x 1
def Rst (x0 : Int) : Inv' C0 := ⟨3, Nat × Int, fun x => [(5, .int .i64 (x.1 : Int)), (0, .int .u32 x.2)], fun x m => m, fun x => x.1 ≤ 8 ∧ x.2 = itn rstep x.1 x0, fun x => 8 - x.1⟩
theorem rstep_ok (x c : Int) : Tells (C := C0) Tryd.prog (.fn 63) [] [.int .u32 x, .int .u8 c] (.int .u32 (itn rstep 8 (ibit .xor .u32 x (IntKind.u32.wrap c)))) := by
  refine loc_pc (P := Tryd.prog) (E := ⟨[], [], 23, [], [], []⟩) (L := [Rst (ibit .xor .u32 x (IntKind.u32.wrap c))]) mix Tryd.func63 rfl (by kernel_rfl) (by kernel_rfl) rfl rfl ?_
  ((conv => (arg 1; reduce)); with_reducible repeat' (first | exact Tr.yes_h | refine Tr.and_h ?_ ?_ | refine Tr.imp_h fun _ => ?_ | refine Tr.all_h fun _ => ?_ | refine Tr.lf_h ?_))
  all_goals try (first | (first | first | (show Region.lexB _ _ = true; kernel_rfl) | (show planned _ _ = true; kernel_rfl) | exact rfl | exact True.intro | ((try dsimp only [imp, C0, cG, cInt, cPl, cSlot, cPg, rwCodec, cRaw] at *); (try refine inR64 ?_ ?_) <;> (try simp only [List.length_set, List.length_append, List.length_take, List.length_drop]) <;> omega)) | ((try dsimp only [imp, C0, cG, cInt, cPl, cSlot, cPg, rwCodec, cRaw, Rst] at *); (try simp only [decide_eq_true_eq, decide_eq_false_iff_not, Bool.and_eq_true, Bool.or_eq_true, Bool.or_eq_false_iff, Bool.and_eq_false_iff, Bool.not_eq_true', Bool.not_eq_false', SB.val, List.length_append, List.length_cons, List.length_nil, List.length_take, List.length_drop] at *); (first | omega | exact inR64 (by omega) (by omega) | (refine inR64 ?_ ?_ <;> omega))))
  · refine Stands.one (0, ibit .xor .u32 x (IntKind.u32.wrap c)) ⟨⟨Nat.zero_le _, rfl⟩, ?_⟩
    ((conv => (arg 1; reduce)); with_reducible repeat' (first | exact Tr.yes_h | refine Tr.and_h ?_ ?_ | refine Tr.imp_h fun _ => ?_ | refine Tr.all_h fun _ => ?_ | refine Tr.lf_h ?_))
    all_goals (first | first | (show Region.lexB _ _ = true; kernel_rfl) | (show planned _ _ = true; kernel_rfl) | exact rfl | exact True.intro | ((try dsimp only [imp, C0, cG, cInt, cPl, cSlot, cPg, rwCodec, cRaw] at *); (try refine inR64 ?_ ?_) <;> (try simp only [List.length_set, List.length_append, List.length_take, List.length_drop]) <;> omega))
  · rename_i v hv h h'
    obtain ⟨i, y⟩ := v
    obtain ⟨h1, h2⟩ : i ≤ 8 ∧ y = itn rstep i _ := hv
    have h : decide ((i : Int) < 8) = true := h
    have h' : decide (ibit .and .u32 y 1 = 1) = true := h'
    refine Stands.one (i + 1, ibit .xor .u32 (ishr .u32 y 1) 3988292384) ⟨⟨by ((try dsimp only [imp, C0, cG, cInt, cPl, cSlot, cPg, rwCodec, cRaw] at *); (try simp only [decide_eq_true_eq, decide_eq_false_iff_not, Bool.and_eq_true, Bool.or_eq_true, Bool.or_eq_false_iff, Bool.and_eq_false_iff, Bool.not_eq_true', Bool.not_eq_false', SB.val, List.length_append, List.length_cons, List.length_nil, List.length_take, List.length_drop] at *); (first | omega | exact inR64 (by omega) (by omega) | (refine inR64 ?_ ?_ <;> omega))), ?_⟩, ?_, ?_⟩
    · rw [itn_succ, ← h2]
      unfold rstep
      rw [if_pos (of_decide_eq_true h')]
    · show 8 - (i + 1) < 8 - i
      ((try dsimp only [imp, C0, cG, cInt, cPl, cSlot, cPg, rwCodec, cRaw] at *); (try simp only [decide_eq_true_eq, decide_eq_false_iff_not, Bool.and_eq_true, Bool.or_eq_true, Bool.or_eq_false_iff, Bool.and_eq_false_iff, Bool.not_eq_true', Bool.not_eq_false', SB.val, List.length_append, List.length_cons, List.length_nil, List.length_take, List.length_drop] at *); (first | omega | exact inR64 (by omega) (by omega) | (refine inR64 ?_ ?_ <;> omega)))
    ((conv => (arg 1; reduce)); with_reducible repeat' (first | exact Tr.yes_h | refine Tr.and_h ?_ ?_ | refine Tr.imp_h fun _ => ?_ | refine Tr.all_h fun _ => ?_ | refine Tr.lf_h ?_))
    all_goals (first | first | (show Region.lexB _ _ = true; kernel_rfl) | (show planned _ _ = true; kernel_rfl) | exact rfl | exact True.intro | ((try dsimp only [imp, C0, cG, cInt, cPl, cSlot, cPg, rwCodec, cRaw] at *); (try refine inR64 ?_ ?_) <;> (try simp only [List.length_set, List.length_append, List.length_take, List.length_drop]) <;> omega))
  · rename_i v hv h h'
    obtain ⟨i, y⟩ := v
    obtain ⟨h1, h2⟩ : i ≤ 8 ∧ y = itn rstep i _ := hv
    have h : decide ((i : Int) < 8) = true := h
    have h' : decide (ibit .and .u32 y 1 = 1) = false := h'
    refine Stands.one (i + 1, ishr .u32 y 1) ⟨⟨by ((try dsimp only [imp, C0, cG, cInt, cPl, cSlot, cPg, rwCodec, cRaw] at *); (try simp only [decide_eq_true_eq, decide_eq_false_iff_not, Bool.and_eq_true, Bool.or_eq_true, Bool.or_eq_false_iff, Bool.and_eq_false_iff, Bool.not_eq_true', Bool.not_eq_false', SB.val, List.length_append, List.length_cons, List.length_nil, List.length_take, List.length_drop] at *); (first | omega | exact inR64 (by omega) (by omega) | (refine inR64 ?_ ?_ <;> omega))), ?_⟩, ?_, ?_⟩
    · rw [itn_succ, ← h2]
      unfold rstep
      rw [if_neg (of_decide_eq_false h')]
    · show 8 - (i + 1) < 8 - i
      ((try dsimp only [imp, C0, cG, cInt, cPl, cSlot, cPg, rwCodec, cRaw] at *); (try simp only [decide_eq_true_eq, decide_eq_false_iff_not, Bool.and_eq_true, Bool.or_eq_true, Bool.or_eq_false_iff, Bool.and_eq_false_iff, Bool.not_eq_true', Bool.not_eq_false', SB.val, List.length_append, List.length_cons, List.length_nil, List.length_take, List.length_drop] at *); (first | omega | exact inR64 (by omega) (by omega) | (refine inR64 ?_ ?_ <;> omega)))
    ((conv => (arg 1; reduce)); with_reducible repeat' (first | exact Tr.yes_h | refine Tr.and_h ?_ ?_ | refine Tr.imp_h fun _ => ?_ | refine Tr.all_h fun _ => ?_ | refine Tr.lf_h ?_))
    all_goals (first | first | (show Region.lexB _ _ = true; kernel_rfl) | (show planned _ _ = true; kernel_rfl) | exact rfl | exact True.intro | ((try dsimp only [imp, C0, cG, cInt, cPl, cSlot, cPg, rwCodec, cRaw] at *); (try refine inR64 ?_ ?_) <;> (try simp only [List.length_set, List.length_append, List.length_take, List.length_drop]) <;> omega))
  · rename_i v hv h
    obtain ⟨i, y⟩ := v
    obtain ⟨h1, h2⟩ : i ≤ 8 ∧ y = itn rstep i _ := hv
    have h : decide ((i : Int) < 8) = false := h
    obtain rfl : i = 8 := by ((try dsimp only [imp, C0, cG, cInt, cPl, cSlot, cPg, rwCodec, cRaw] at *); (try simp only [decide_eq_true_eq, decide_eq_false_iff_not, Bool.and_eq_true, Bool.or_eq_true, Bool.or_eq_false_iff, Bool.and_eq_false_iff, Bool.not_eq_true', Bool.not_eq_false', SB.val, List.length_append, List.length_cons, List.length_nil, List.length_take, List.length_drop] at *); (first | omega | exact inR64 (by omega) (by omega) | (refine inR64 ?_ ?_ <;> omega)))
    exact h2
theorem wrap_u32 (n : Nat) (h : n < 4294967296) : IntKind.u32.wrap (n : Int) = n := by
  unfold IntKind.wrap
  simp [IntKind.bits, IntKind.signed]
  omega
theorem ofInt_u32 (n : Nat) (h : n < 4294967296) : (BitVec.ofInt 32 (n : Int)).toNat = n := by
  simp [BitVec.toNat_ofInt]; omega
theorem and_u32 (a b : Nat) (ha : a < 4294967296) (hb : b < 4294967296) : ibit .and .u32 a b = ((a &&& b : Nat) : Int) := by
  show IntKind.u32.wrap (((BitVec.ofInt 32 (a : Int)) &&& (BitVec.ofInt 32 (b : Int))).toNat : Int) = _
  rw [BitVec.toNat_and, ofInt_u32 a ha, ofInt_u32 b hb]
  exact wrap_u32 _ (Nat.lt_of_le_of_lt Nat.and_le_left ha)
theorem xor_u32 (a b : Nat) (ha : a < 4294967296) (hb : b < 4294967296) : ibit .xor .u32 a b = ((a ^^^ b : Nat) : Int) := by
  show IntKind.u32.wrap (((BitVec.ofInt 32 (a : Int)) ^^^ (BitVec.ofInt 32 (b : Int))).toNat : Int) = _
  rw [BitVec.toNat_xor, ofInt_u32 a ha, ofInt_u32 b hb]
  exact wrap_u32 _ (Nat.xor_lt_two_pow (n := 32) ha hb)
theorem rstep_eq {x : Int} (h0 : 0 ≤ x) (h1 : x < 4294967296) : rstep x = cstep x ∧ 0 ≤ cstep x ∧ cstep x < 4294967296 := by
  refine ⟨?_, (ibit_u32 _ _ _).1, (ibit_u32 _ _ _).2⟩
  have hand : ibit .and .u32 x 1 = x % 2 := by
    obtain ⟨n, rfl⟩ := Int.eq_ofNat_of_zero_le h0
    have := and_u32 n 1 (by omega) (by decide)
    rw [Nat.and_one_is_mod] at this
    simpa using this
  unfold rstep cstep
  rw [hand]
  rcases Int.emod_two_eq x with h | h
  · rw [h, if_neg (by decide)]
    have : IntKind.u32.wrap (0 - 0) = 0 := by decide
    rw [this]
    have e : ibit .and .u32 3988292384 0 = 0 := by decide
    rw [e]
    have hs : 0 ≤ ishr .u32 x 1 ∧ ishr .u32 x 1 < 4294967296 := by
      unfold ishr
      simp [IntKind.bits, Int.fdiv_eq_ediv]
      omega
    generalize ishr .u32 x 1 = z at hs
    obtain ⟨n, rfl⟩ := Int.eq_ofNat_of_zero_le hs.1
    have := xor_u32 n 0 (by omega) (by decide)
    simpa using this.symm
  · rw [h, if_pos rfl]
    have : IntKind.u32.wrap (0 - 1) = 4294967295 := by decide
    rw [this]
    have e : ibit .and .u32 3988292384 4294967295 = 3988292384 := by decide
    rw [e]
theorem itn_eq : ∀ (n : Nat) {x : Int}, 0 ≤ x → x < 4294967296 → itn rstep n x = itn cstep n x ∧ 0 ≤ itn cstep n x ∧ itn cstep n x < 4294967296
  | 0, x, h0, h1 => ⟨rfl, h0, h1⟩
  | n + 1, x, h0, h1 => by
    obtain ⟨e, g0, g1⟩ := rstep_eq h0 h1
    show itn rstep n (rstep x) = itn cstep n (cstep x) ∧ _
    rw [e]
    exact itn_eq n g0 g1
theorem rsum_eq (x c : Int) : itn rstep 8 (ibit .xor .u32 x (IntKind.u32.wrap c)) = sumB x c := by
  unfold sumB
  exact (itn_eq 8 (ibit_u32 _ _ _).1 (ibit_u32 _ _ _).2).1
def pcRstep : Pc Tryd.prog C0 where
  tg := .fn 63
  X := Int × Int
  args := fun (x, c) => [.int .u32 x, .int .u8 c]
  mem _ := []
  pre _ := True
  res := fun (x, c) => .int .u32 (sumB x c)
  mat vs _ := match vs with
    | [.int _ x, .int _ c] => some ((x, c), [])
    | _ => none
  ok := fun (x, c) _ => by have := rstep_ok x c; rw [rsum_eq] at this; exact this
def Rof (L : List Int) : Inv' C0 := ⟨3, Nat × Int, fun x => [(4, .int .i64 (x.1 : Int)), (3, .int .u32 x.2)], fun x m => m, fun x => x.1 ≤ L.length ∧ x.2 = (L.take x.1).foldl sumB 4294967295, fun x => L.length - x.1⟩
/-- A sum of bytes, the document's. -/
theorem rcrc_ok (o : Bool) (b2 q2 : Nat) (l : List Int) (i n c : Nat) (h : i + n ≤ l.length) (hn : n < 4611686018427387904) (ho : o = false → n = 0 ∧ c = 0) : Tells (C := C0) Tryd.prog (.fn 42) [⟨b2, q2, 1, false, some o, .rows 5 l⟩] [.sl 0 i n c]
    (.int .i64 (crc ((l.drop i).take n))) := by
  have hL : ((l.drop i).take n).length = n := by simp; omega
  refine loc_pc (P := Tryd.prog) (E := ⟨[], [pcRstep], 20, [], [], []⟩) (L := [Rof ((l.drop i).take n)]) mix Tryd.func42 rfl (by kernel_rfl) (by kernel_rfl) rfl rfl ?_
  ((conv => (arg 1; reduce)); with_reducible repeat' (first | exact Tr.yes_h | refine Tr.and_h ?_ ?_ | refine Tr.imp_h fun _ => ?_ | refine Tr.all_h fun _ => ?_ | refine Tr.lf_h ?_))
  all_goals try (first | (first | first | (show Region.lexB _ _ = true; kernel_rfl) | (show planned _ _ = true; kernel_rfl) | exact rfl | exact True.intro | ((try dsimp only [imp, C0, cG, cInt, cPl, cSlot, cPg, rwCodec, cRaw] at *); (try refine inR64 ?_ ?_) <;> (try simp only [List.length_set, List.length_append, List.length_take, List.length_drop]) <;> omega)) | ((try dsimp only [imp, C0, cG, cInt, cPl, cSlot, cPg, rwCodec, cRaw, Rof] at *); (try simp only [decide_eq_true_eq, decide_eq_false_iff_not, Bool.and_eq_true, Bool.or_eq_true, Bool.or_eq_false_iff, Bool.and_eq_false_iff, Bool.not_eq_true', Bool.not_eq_false', SB.val, List.length_append, List.length_cons, List.length_nil, List.length_take, List.length_drop] at *); (first | omega | exact inR64 (by omega) (by omega) | (refine inR64 ?_ ?_ <;> omega))) | (refine on_of ho ?_; ((try dsimp only [imp, C0, cG, cInt, cPl, cSlot, cPg, rwCodec, cRaw, Rof] at *); (try simp only [decide_eq_true_eq, decide_eq_false_iff_not, Bool.and_eq_true, Bool.or_eq_true, Bool.or_eq_false_iff, Bool.and_eq_false_iff, Bool.not_eq_true', Bool.not_eq_false', SB.val, List.length_append, List.length_cons, List.length_nil, List.length_take, List.length_drop] at *); (first | omega | exact inR64 (by omega) (by omega) | (refine inR64 ?_ ?_ <;> omega)))))
  · refine Stands.one (0, 4294967295) ⟨⟨Nat.zero_le _, rfl⟩, ?_⟩
    ((conv => (arg 1; reduce)); with_reducible repeat' (first | exact Tr.yes_h | refine Tr.and_h ?_ ?_ | refine Tr.imp_h fun _ => ?_ | refine Tr.all_h fun _ => ?_ | refine Tr.lf_h ?_))
    all_goals (first | first | (show Region.lexB _ _ = true; kernel_rfl) | (show planned _ _ = true; kernel_rfl) | exact rfl | exact True.intro | ((try dsimp only [imp, C0, cG, cInt, cPl, cSlot, cPg, rwCodec, cRaw] at *); (try refine inR64 ?_ ?_) <;> (try simp only [List.length_set, List.length_append, List.length_take, List.length_drop]) <;> omega))
  · rename_i v hv h
    obtain ⟨j, y⟩ := v
    obtain ⟨h1, h2⟩ : j ≤ ((l.drop i).take n).length ∧ y = _ := hv
    have h : decide ((j : Int) < (n : Int)) = true := h
    have hj : j < n := by ((try dsimp only [imp, C0, cG, cInt, cPl, cSlot, cPg, rwCodec, cRaw] at *); (try simp only [decide_eq_true_eq, decide_eq_false_iff_not, Bool.and_eq_true, Bool.or_eq_true, Bool.or_eq_false_iff, Bool.and_eq_false_iff, Bool.not_eq_true', Bool.not_eq_false', SB.val, List.length_append, List.length_cons, List.length_nil, List.length_take, List.length_drop] at *); (first | omega | exact inR64 (by omega) (by omega) | (refine inR64 ?_ ?_ <;> omega)))
    refine Stands.one (j + 1, sumB y (l.getD (j + i) 0)) ⟨⟨by rw [hL]; omega, ?_⟩, ?_, ?_⟩
    · rw [take_fold _ _ _ (by rw [hL]; exact hj), ← h2]
      congr 1
      simp only [List.getD_eq_getElem?_getD]
      rw [List.getElem?_take_of_lt hj, List.getElem?_drop, Nat.add_comm]
    · show ((l.drop i).take n).length - (j + 1) < ((l.drop i).take n).length - j
      rw [hL]; omega
    ((conv => (arg 1; reduce)); with_reducible repeat' (first | exact Tr.yes_h | refine Tr.and_h ?_ ?_ | refine Tr.imp_h fun _ => ?_ | refine Tr.all_h fun _ => ?_ | refine Tr.lf_h ?_))
    all_goals (first | first | (show Region.lexB _ _ = true; kernel_rfl) | (show planned _ _ = true; kernel_rfl) | exact rfl | exact True.intro | ((try dsimp only [imp, C0, cG, cInt, cPl, cSlot, cPg, rwCodec, cRaw] at *); (try refine inR64 ?_ ?_) <;> (try simp only [List.length_set, List.length_append, List.length_take, List.length_drop]) <;> omega))
  · have := ibit_u32 .xor (‹(Rof ((l.drop i).take n)).X›).2 4294967295
    exact inR64 (by omega) (by omega)
  · rename_i v hv h
    obtain ⟨j, y⟩ := v
    obtain ⟨h1, h2⟩ : j ≤ ((l.drop i).take n).length ∧ y = _ := hv
    have h : decide ((j : Int) < (n : Int)) = false := h
    obtain rfl : j = n := by rw [hL] at h1; ((try dsimp only [imp, C0, cG, cInt, cPl, cSlot, cPg, rwCodec, cRaw] at *); (try simp only [decide_eq_true_eq, decide_eq_false_iff_not, Bool.and_eq_true, Bool.or_eq_true, Bool.or_eq_false_iff, Bool.and_eq_false_iff, Bool.not_eq_true', Bool.not_eq_false', SB.val, List.length_append, List.length_cons, List.length_nil, List.length_take, List.length_drop] at *); (first | omega | exact inR64 (by omega) (by omega) | (refine inR64 ?_ ?_ <;> omega)))
    show ibit .xor .u32 y 4294967295 = crc _
    rw [h2]
    unfold crc
    simp only [List.take_take, Nat.min_self]
def pcRcrc : Pc Tryd.prog C0 where
  tg := .fn 42
  X := Bool × Nat × Nat × List Int × Nat × Nat × Nat
  args := fun (o, b2, q2, l, i, n, c) => [.sl 0 i n c]
  mem := fun (o, b2, q2, l, i, n, c) => [⟨b2, q2, 1, false, some o, .rows 5 l⟩]
  pre := fun (o, b2, q2, l, i, n, c) => i + n ≤ l.length ∧ n < 4611686018427387904 ∧ (o = false → n = 0 ∧ c = 0)
  res := fun (o, b2, q2, l, i, n, c) => .int .i64 (crc ((l.drop i).take n))
  mat vs m := match vs with
    | [.sl a2 i n c] => match nth m a2 with
      | ⟨b2, q2, _, _, g, .rows 5 l⟩ => some ((onOf g, b2, q2, l, i, n, c), [a2])
      | _ => none
    | [.nils] => some ((false, 0, 0, [], 0, 0, 0), [m.length])
    | _ => none
  ok := fun (o, b2, q2, l, i, n, c) h => rcrc_ok o b2 q2 l i n c h.1 h.2.1 h.2.2
end Go.Vx
set_option linter.unusedSectionVars false
set_option maxRecDepth 100000
set_option linter.unusedVariables false
set_option linter.unusedSimpArgs false
namespace Go.Vx
open Go Go.Proofs
variable [Gl]

/-- A number's four bytes. -/
@[irreducible] def four (n : Int) : List Int := [IntKind.u8.wrap n, IntKind.u8.wrap (ishr .i64 n 8), IntKind.u8.wrap (ishr .i64 n 16), IntKind.u8.wrap (ishr .i64 n 24)]
theorem four_len (n : Int) : (four n).length = 4 := by unfold four; rfl
@[irreducible] def fours (l : List Int) : List Int := l.flatMap four
theorem fours_nil : fours [] = [] := by unfold fours; rfl
theorem fours_app (a b : List Int) : fours (a ++ b) = fours a ++ fours b := by unfold fours; simp
theorem fours_one (n : Int) : fours [n] = four n := by unfold fours; simp
theorem fours_len (l : List Int) : (fours l).length = 4 * l.length := by
  unfold fours
  induction l with
  | nil => rfl
  | cons x r ih => simp [four_len, ih]; omega
/-- The first k of l are L; c are there. -/
def Gr (L l : List Int) (k c : Nat) : Prop := k = L.length ∧ l.take k = L ∧ k ≤ c ∧ c ≤ l.length
theorem Gr.app {L l sp M : List Int} {k c c' : Nat} (h : Gr L l k c) (h1 : k + M.length ≤ c') (h2 : c' ≤ k + M.length + sp.length) : Gr (L ++ M) (l.take k ++ M ++ sp) (k + M.length) c' := by
  obtain ⟨e1, e2, e3, e4⟩ := h
  have hl : (l.take k).length = k := by rw [List.length_take]; omega
  refine ⟨by rw [List.length_append, ← e1], ?_, h1, by rw [List.length_append, List.length_append, hl]; omega⟩
  rw [List.take_append_of_le_length (by rw [List.length_append, hl]; exact Nat.le_refl _), List.take_of_length_le (by rw [List.length_append, hl]; exact Nat.le_refl _), e2]
theorem by5 : Tryd.prog.types[5].bytes = 1 := by kernel_rfl
theorem wput_ok (b0 q0 : Nat) (o : Bool) (b q : Nat) (l : List Int) (k c : Nat) (n : Int) (h1 : k ≤ c) (h2 : c ≤ l.length) (h3 : k < 140737488355000) (ho : o = false → k = 0 ∧ c = 0) :
    Does (C := C0) Tryd.prog (.fn 32) [⟨b0, q0, 1, true, none, .one [.sl 1 0 k c]⟩, ⟨b, q, 1, true, some o, .rows 5 l⟩] [.ptr 0 0 0, .int .i64 n]
    [⟨Nat × Nat × List Int × Nat, fun y => Gr (l.take k ++ four n) y.2.2.1 (k + 4) y.2.2.2, fun _ => .tup [], fun y => [⟨b0, q0, 1, true, none, .one [.sl 2 0 (k + 4) y.2.2.2]⟩, ⟨b, q, 1, true, some o, .dead⟩, ⟨y.1, y.2.1, 1, true, none, .rows 5 y.2.2.1⟩]⟩] := by
  refine loc_fn (P := Tryd.prog) (E := ⟨[], [], 24, [], [], []⟩) (L := []) mix Tryd.func32 rfl (by kernel_rfl) (by kernel_rfl) rfl rfl ?_
  ((conv => (arg 1; reduce)); with_reducible repeat' (first | exact Tr.yes_h | refine Tr.and_h ?_ ?_ | refine Tr.imp_h fun _ => ?_ | refine Tr.all_h fun _ => ?_ | refine Tr.lf_h ?_))
  all_goals try (first | first | (show Region.lexB _ _ = true; kernel_rfl) | (show planned _ _ = true; kernel_rfl) | exact rfl | exact True.intro | ((try dsimp only [imp, C0, cG, cInt, cPl, cSlot, cPg, rwCodec, cRaw] at *); (try refine inR64 ?_ ?_) <;> (try simp only [List.length_set, List.length_append, List.length_take, List.length_drop]) <;> omega))
  · rename_i b1
    rw [by5]
    exact ⟨h1, by omega, by simp, by omega⟩
  · rename_i b1 b2 q2 sp cap g1 g2
    have e : Gr (l.take k) l k c := ⟨by rw [List.length_take]; omega, rfl, h1, h2⟩
    have e1 := e.app (M := four n) (sp := sp) (c' := cap) (by rw [four_len]; exact g1) (by rw [four_len]; exact g2)
    rw [four_len] at e1
    refine Ends.one (b2, q2, l.take k ++ four n ++ sp, cap) e1 ?_
    ((conv => (arg 1; reduce)); with_reducible repeat' (first | exact Tr.yes_h | refine Tr.and_h ?_ ?_ | refine Tr.imp_h fun _ => ?_ | refine Tr.all_h fun _ => ?_ | refine Tr.lf_h ?_))
    all_goals try (first | first | (show Region.lexB _ _ = true; kernel_rfl) | (show planned _ _ = true; kernel_rfl) | exact rfl | exact True.intro | ((try dsimp only [imp, C0, cG, cInt, cPl, cSlot, cPg, rwCodec, cRaw] at *); (try refine inR64 ?_ ?_) <;> (try simp only [List.length_set, List.length_append, List.length_take, List.length_drop]) <;> omega))
    unfold four; rfl
def fcPut : Fc Tryd.prog C0 where
  tg := .fn 32
  X := Nat × Nat × Bool × Nat × Nat × List Int × Nat × Nat × Int
  args := fun (b0, q0, o, b, q, l, k, c, n) => [.ptr 0 0 0, .int .i64 n]
  mem := fun (b0, q0, o, b, q, l, k, c, n) => [⟨b0, q0, 1, true, none, .one [.sl 1 0 k c]⟩, ⟨b, q, 1, true, some o, .rows 5 l⟩]
  pre := fun (b0, q0, o, b, q, l, k, c, n) => k ≤ c ∧ c ≤ l.length ∧ k < 140737488355000 ∧ (o = false → k = 0 ∧ c = 0)
  alts := fun (b0, q0, o, b, q, l, k, c, n) => [⟨Nat × Nat × List Int × Nat, fun y => Gr (l.take k ++ four n) y.2.2.1 (k + 4) y.2.2.2, fun _ => .tup [], fun y => [⟨b0, q0, 1, true, none, .one [.sl 2 0 (k + 4) y.2.2.2]⟩, ⟨b, q, 1, true, some o, .dead⟩, ⟨y.1, y.2.1, 1, true, none, .rows 5 y.2.2.1⟩]⟩]
  mat vs m := match vs with
    | [.ptr a _ _, .int _ n] => match nth m a with
      | ⟨b0, q0, _, _, _, .one [.sl a2 _ k c]⟩ => match nth m a2 with
        | ⟨b, q, _, _, g, .rows 5 l⟩ => some ((b0, q0, onOf g, b, q, l, k, c, n), [a, a2])
        | _ => none
      | ⟨b0, q0, _, _, _, .one [.nils]⟩ => some ((b0, q0, false, 0, 0, [], 0, 0, n), [a, m.length])
      | _ => none
    | _ => none
  ok := fun (b0, q0, o, b, q, l, k, c, n) h => wput_ok b0 q0 o b q l k c n h.1 h.2.1 h.2.2.1 h.2.2.2
/-- Lay's rounds. -/
def Lay (L0 L : List Int) (c0 : Nat) : Inv' C0 := ⟨1, Nat × Bool × Nat × Nat × List Int × Nat, fun x => [(8, .int .i64 (x.1 : Int))], fun x m => match m with
  | [a, b, c] => [⟨a.block, a.base, 1, true, none, .one [.sl 2 0 (L0.length + 4 * x.1) x.2.2.2.2.2]⟩, b, ⟨x.2.2.1, x.2.2.2.1, 1, true, some x.2.1, .rows 5 x.2.2.2.2.1⟩]
  | m => m, fun x => x.1 ≤ L.length ∧ Gr (L0 ++ fours (L.take x.1)) x.2.2.2.2.1 (L0.length + 4 * x.1) x.2.2.2.2.2 ∧ (x.2.1 = false → L0.length + 4 * x.1 = 0 ∧ x.2.2.2.2.2 = 0), fun x => L.length - x.1⟩
theorem lay_ok (b0 q0 b1 q1 : Nat) (l : List Int) (i n c : Nat) (o : Bool) (b q : Nat) (g : List Int) (k d : Nat) (h : i + n ≤ l.length) (hn : n < 35184372088700) (h1 : k ≤ d) (h2 : d ≤ g.length) (h3 : k + 4 * n < 140737488355000) (ho : o = false → k = 0 ∧ d = 0) :
    Does (C := C0) Tryd.prog (.fn 31) [⟨b0, q0, 1, true, none, .one [.sl 2 0 k d]⟩, ⟨b1, q1, 1, false, none, .rows 3 l⟩, ⟨b, q, 1, true, some o, .rows 5 g⟩] [.fn (.func 32) [.ptr 0 0 0] [], .sl 1 i n c]
    [⟨Nat × Nat × Bool × List Int × Nat, fun y => Gr (g.take k ++ fours ((l.drop i).take n)) y.2.2.2.1 (k + 4 * n) y.2.2.2.2 ∧ (y.2.2.1 = false → k + 4 * n = 0 ∧ y.2.2.2.2 = 0), fun _ => .tup [], fun y => [⟨b0, q0, 1, true, none, .one [.sl 3 0 (k + 4 * n) y.2.2.2.2]⟩, ⟨b1, q1, 1, false, none, .rows 3 l⟩, ⟨b, q, 1, true, some o, .dead⟩, ⟨y.1, y.2.1, 1, true, some y.2.2.1, .rows 5 y.2.2.2.1⟩]⟩] := by
  have hL : ((l.drop i).take n).length = n := by simp; omega
  have hG : (g.take k).length = k := by simp; omega
  refine loc_fn (P := Tryd.prog) (E := ⟨[fcPut], [], 16, [], [], []⟩) (L := [Lay (g.take k) ((l.drop i).take n) d]) mix Tryd.func31 rfl (by kernel_rfl) (by kernel_rfl) rfl rfl ?_
  ((conv => (arg 1; reduce)); with_reducible repeat' (first | exact Tr.yes_h | refine Tr.and_h ?_ ?_ | refine Tr.imp_h fun _ => ?_ | refine Tr.all_h fun _ => ?_ | refine Tr.lf_h ?_))
  all_goals try (first | (first | first | (show Region.lexB _ _ = true; kernel_rfl) | (show planned _ _ = true; kernel_rfl) | exact rfl | exact True.intro | ((try dsimp only [imp, C0, cG, cInt, cPl, cSlot, cPg, rwCodec, cRaw] at *); (try refine inR64 ?_ ?_) <;> (try simp only [List.length_set, List.length_append, List.length_take, List.length_drop]) <;> omega)) | ((try dsimp only [imp, C0, cG, cInt, cPl, cSlot, cPg, rwCodec, cRaw, Lay] at *); (try simp only [decide_eq_true_eq, decide_eq_false_iff_not, Bool.and_eq_true, Bool.or_eq_true, Bool.or_eq_false_iff, Bool.and_eq_false_iff, Bool.not_eq_true', Bool.not_eq_false', SB.val, List.length_append, List.length_cons, List.length_nil, List.length_take, List.length_drop] at *); (first | omega | exact inR64 (by omega) (by omega) | (refine inR64 ?_ ?_ <;> omega))) | (refine on_of ho ?_; ((try dsimp only [imp, C0, cG, cInt, cPl, cSlot, cPg, rwCodec, cRaw, Lay] at *); (try simp only [decide_eq_true_eq, decide_eq_false_iff_not, Bool.and_eq_true, Bool.or_eq_true, Bool.or_eq_false_iff, Bool.and_eq_false_iff, Bool.not_eq_true', Bool.not_eq_false', SB.val, List.length_append, List.length_cons, List.length_nil, List.length_take, List.length_drop] at *); (first | omega | exact inR64 (by omega) (by omega) | (refine inR64 ?_ ?_ <;> omega)))))
  · refine Stands.one (0, o, b, q, g, d) ⟨⟨Nat.zero_le _, ?_, ?_⟩, ?_⟩
    · simp only [List.take_zero, fours_nil, List.append_nil]
      exact ⟨by omega, by rw [hG]; rfl, by show _ ≤ d; omega, h2⟩
    · intro e
      have := ho e
      exact ⟨by show (g.take k).length + 4 * 0 = 0; omega, this.2⟩
    ((conv => (arg 1; reduce)); with_reducible repeat' (first | exact Tr.yes_h | refine Tr.and_h ?_ ?_ | refine Tr.imp_h fun _ => ?_ | refine Tr.all_h fun _ => ?_ | refine Tr.lf_h ?_))
    all_goals (first | first | (show Region.lexB _ _ = true; kernel_rfl) | (show planned _ _ = true; kernel_rfl) | exact rfl | exact True.intro | ((try dsimp only [imp, C0, cG, cInt, cPl, cSlot, cPg, rwCodec, cRaw] at *); (try refine inR64 ?_ ?_) <;> (try simp only [List.length_set, List.length_append, List.length_take, List.length_drop]) <;> omega))
  · rename_i v hv h1
    obtain ⟨j, p, b', q', g', d'⟩ := v
    obtain ⟨e1, e2, e3⟩ : j ≤ ((l.drop i).take n).length ∧ Gr (g.take k ++ fours (((l.drop i).take n).take j)) g' ((g.take k).length + 4 * j) d' ∧ (p = false → (g.take k).length + 4 * j = 0 ∧ d' = 0) := hv
    have h1 : decide ((j : Int) < (n : Int)) = true := h1
    have hj := of_decide_eq_true h1
    exact ⟨e2.2.2.1, e2.2.2.2, by show (g.take k).length + 4 * j < _; omega, e3⟩
  · rename_i v hv h1 w hw
    obtain ⟨j, p, b', q', g', d'⟩ := v
    obtain ⟨b2, q2, g2, d2⟩ := w
    obtain ⟨e1, e2, e3⟩ : j ≤ ((l.drop i).take n).length ∧ Gr (g.take k ++ fours (((l.drop i).take n).take j)) g' ((g.take k).length + 4 * j) d' ∧ (p = false → (g.take k).length + 4 * j = 0 ∧ d' = 0) := hv
    have h1 : decide ((j : Int) < (n : Int)) = true := h1
    have hj : j < n := by have := of_decide_eq_true h1; omega
    have hw : Gr (g'.take ((g.take k).length + 4 * j) ++ four (l.getD (j + i) 0)) g2 ((g.take k).length + 4 * j + 4) d2 := hw
    have e4 : fours (((l.drop i).take n).take (j + 1)) = fours (((l.drop i).take n).take j) ++ four (l.getD (j + i) 0) := by
      rw [List.take_add_one, fours_app, List.getElem?_take_of_lt hj, List.getElem?_drop, List.getElem?_eq_getElem (by omega)]
      simp only [Option.toList_some, fours_one]
      rw [List.getD_eq_getElem?_getD, Nat.add_comm j i, List.getElem?_eq_getElem (by omega)]; rfl
    rw [e2.2.1, List.append_assoc, ← e4] at hw
    refine Stands.one (j + 1, true, b2, q2, g2, d2) ⟨⟨by rw [hL]; omega, ?_, ?_⟩, ?_, ?_⟩
    · exact hw
    · exact fun h => Bool.noConfusion h
    · show ((l.drop i).take n).length - (j + 1) < ((l.drop i).take n).length - j
      rw [hL]; omega
    ((conv => (arg 1; reduce)); with_reducible repeat' (first | exact Tr.yes_h | refine Tr.and_h ?_ ?_ | refine Tr.imp_h fun _ => ?_ | refine Tr.all_h fun _ => ?_ | refine Tr.lf_h ?_))
    all_goals (first | first | (show Region.lexB _ _ = true; kernel_rfl) | (show planned _ _ = true; kernel_rfl) | exact rfl | exact True.intro | ((try dsimp only [imp, C0, cG, cInt, cPl, cSlot, cPg, rwCodec, cRaw] at *); (try refine inR64 ?_ ?_) <;> (try simp only [List.length_set, List.length_append, List.length_take, List.length_drop]) <;> omega))
  · rename_i v hv h1
    obtain ⟨j, p, b', q', g', d'⟩ := v
    obtain ⟨e1, e2, e3⟩ : j ≤ ((l.drop i).take n).length ∧ Gr (g.take k ++ fours (((l.drop i).take n).take j)) g' ((g.take k).length + 4 * j) d' ∧ (p = false → (g.take k).length + 4 * j = 0 ∧ d' = 0) := hv
    have h1 : decide ((j : Int) < (n : Int)) = false := h1
    obtain rfl : j = n := by rw [hL] at e1; have := of_decide_eq_false h1; omega
    rw [List.take_of_length_le (l := (l.drop i).take j) (by rw [hL]; exact Nat.le_refl _), hG] at e2
    rw [hG] at e3
    refine Ends.one (b', q', p, g', d') ⟨e2, e3⟩ ?_
    ((conv => (arg 1; reduce)); with_reducible repeat' (first | exact Tr.yes_h | refine Tr.and_h ?_ ?_ | refine Tr.imp_h fun _ => ?_ | refine Tr.all_h fun _ => ?_ | refine Tr.lf_h ?_))
    all_goals try (first | first | (show Region.lexB _ _ = true; kernel_rfl) | (show planned _ _ = true; kernel_rfl) | exact rfl | exact True.intro | ((try dsimp only [imp, C0, cG, cInt, cPl, cSlot, cPg, rwCodec, cRaw] at *); (try refine inR64 ?_ ?_) <;> (try simp only [List.length_set, List.length_append, List.length_take, List.length_drop]) <;> omega))
    all_goals (show _ + 4 * j = _; rw [hG])
def fcLay : Fc Tryd.prog C0 where
  tg := .fn 31
  X := Nat × Nat × Nat × Nat × List Int × Nat × Nat × Nat × Bool × Nat × Nat × List Int × Nat × Nat
  args := fun (b0, q0, b1, q1, l, i, n, c, o, b, q, g, k, d) => [.fn (.func 32) [.ptr 0 0 0] [], .sl 1 i n c]
  mem := fun (b0, q0, b1, q1, l, i, n, c, o, b, q, g, k, d) => [⟨b0, q0, 1, true, none, .one [.sl 2 0 k d]⟩, ⟨b1, q1, 1, false, none, .rows 3 l⟩, ⟨b, q, 1, true, some o, .rows 5 g⟩]
  pre := fun (b0, q0, b1, q1, l, i, n, c, o, b, q, g, k, d) => i + n ≤ l.length ∧ n < 35184372088700 ∧ k ≤ d ∧ d ≤ g.length ∧ k + 4 * n < 140737488355000 ∧ (o = false → k = 0 ∧ d = 0)
  alts := fun (b0, q0, b1, q1, l, i, n, c, o, b, q, g, k, d) => [⟨Nat × Nat × Bool × List Int × Nat, fun y => Gr (g.take k ++ fours ((l.drop i).take n)) y.2.2.2.1 (k + 4 * n) y.2.2.2.2 ∧ (y.2.2.1 = false → k + 4 * n = 0 ∧ y.2.2.2.2 = 0), fun _ => .tup [], fun y => [⟨b0, q0, 1, true, none, .one [.sl 3 0 (k + 4 * n) y.2.2.2.2]⟩, ⟨b1, q1, 1, false, none, .rows 3 l⟩, ⟨b, q, 1, true, some o, .dead⟩, ⟨y.1, y.2.1, 1, true, some y.2.2.1, .rows 5 y.2.2.2.1⟩]⟩]
  mat vs m := match vs with
    | [.fn _ [.ptr a _ _] _, .sl a1 i n c] => match nth m a, nth m a1 with
      | ⟨b0, q0, _, _, _, .one [.sl a2 _ k d]⟩, ⟨b1, q1, _, _, _, .rows 3 l⟩ => match nth m a2 with
        | ⟨b, q, _, _, g, .rows 5 l2⟩ => some ((b0, q0, b1, q1, l, i, n, c, onOf g, b, q, l2, k, d), [a, a1, a2])
        | _ => none
      | ⟨b0, q0, _, _, _, .one [.nils]⟩, ⟨b1, q1, _, _, _, .rows 3 l⟩ => some ((b0, q0, b1, q1, l, i, n, c, false, 0, 0, [], 0, 0), [a, a1, m.length])
      | _, _ => none
    | _ => none
  ok := fun (b0, q0, b1, q1, l, i, n, c, o, b, q, g, k, d) h => lay_ok b0 q0 b1 q1 l i n c o b q g k d h.1 h.2.1 h.2.2.1 h.2.2.2.1 h.2.2.2.2.1 h.2.2.2.2.2
theorem rfour_ok (o : Bool) (b q : Nat) (l : List Int) (k c : Nat) (n : Int) (h1 : k ≤ c) (h2 : c ≤ l.length) (h3 : k < 140737488355000) (ho : o = false → k = 0 ∧ c = 0) :
    Does (C := C0) Tryd.prog (.fn 41) [⟨b, q, 1, true, some o, .rows 5 l⟩] [.sl 0 0 k c, .int .i64 n]
    [⟨Nat × Nat × List Int × Nat, fun y => Gr (l.take k ++ four n) y.2.2.1 (k + 4) y.2.2.2, fun y => .sl 1 0 (k + 4) y.2.2.2, fun y => [⟨b, q, 1, true, some o, .dead⟩, ⟨y.1, y.2.1, 1, true, none, .rows 5 y.2.2.1⟩]⟩] := by
  refine loc_fn (P := Tryd.prog) (E := ⟨[], [], 19, [], [], []⟩) (L := []) mix Tryd.func41 rfl (by kernel_rfl) (by kernel_rfl) rfl rfl ?_
  ((conv => (arg 1; reduce)); with_reducible repeat' (first | exact Tr.yes_h | refine Tr.and_h ?_ ?_ | refine Tr.imp_h fun _ => ?_ | refine Tr.all_h fun _ => ?_ | refine Tr.lf_h ?_))
  all_goals try (first | first | (show Region.lexB _ _ = true; kernel_rfl) | (show planned _ _ = true; kernel_rfl) | exact rfl | exact True.intro | ((try dsimp only [imp, C0, cG, cInt, cPl, cSlot, cPg, rwCodec, cRaw] at *); (try refine inR64 ?_ ?_) <;> (try simp only [List.length_set, List.length_append, List.length_take, List.length_drop]) <;> omega))
  · rename_i b1
    rw [by5]
    exact ⟨h1, by omega, by simp, by omega⟩
  · rename_i b1 b2 q2 sp cap g1 g2
    have e : Gr (l.take k) l k c := ⟨by rw [List.length_take]; omega, rfl, h1, h2⟩
    have e1 := e.app (M := four n) (sp := sp) (c' := cap) (by rw [four_len]; exact g1) (by rw [four_len]; exact g2)
    rw [four_len] at e1
    refine Ends.one (b2, q2, l.take k ++ four n ++ sp, cap) e1 ?_
    ((conv => (arg 1; reduce)); with_reducible repeat' (first | exact Tr.yes_h | refine Tr.and_h ?_ ?_ | refine Tr.imp_h fun _ => ?_ | refine Tr.all_h fun _ => ?_ | refine Tr.lf_h ?_))
    all_goals try (first | first | (show Region.lexB _ _ = true; kernel_rfl) | (show planned _ _ = true; kernel_rfl) | exact rfl | exact True.intro | ((try dsimp only [imp, C0, cG, cInt, cPl, cSlot, cPg, rwCodec, cRaw] at *); (try refine inR64 ?_ ?_) <;> (try simp only [List.length_set, List.length_append, List.length_take, List.length_drop]) <;> omega))
    unfold four; rfl
def fcFour : Fc Tryd.prog C0 where
  tg := .fn 41
  X := Bool × Nat × Nat × List Int × Nat × Nat × Int
  args := fun (o, b, q, l, k, c, n) => [.sl 0 0 k c, .int .i64 n]
  mem := fun (o, b, q, l, k, c, n) => [⟨b, q, 1, true, some o, .rows 5 l⟩]
  pre := fun (o, b, q, l, k, c, n) => k ≤ c ∧ c ≤ l.length ∧ k < 140737488355000 ∧ (o = false → k = 0 ∧ c = 0)
  alts := fun (o, b, q, l, k, c, n) => [⟨Nat × Nat × List Int × Nat, fun y => Gr (l.take k ++ four n) y.2.2.1 (k + 4) y.2.2.2, fun y => .sl 1 0 (k + 4) y.2.2.2, fun y => [⟨b, q, 1, true, some o, .dead⟩, ⟨y.1, y.2.1, 1, true, none, .rows 5 y.2.2.1⟩]⟩]
  mat vs m := match vs with
    | [.sl a _ k c, .int _ n] => match nth m a with
      | ⟨b, q, _, _, g, .rows 5 l⟩ => some ((onOf g, b, q, l, k, c, n), [a])
      | _ => none
    | [.nils, .int _ n] => some ((false, 0, 0, [], 0, 0, n), [m.length])
    | _ => none
  ok := fun (o, b, q, l, k, c, n) h => rfour_ok o b q l k c n h.1 h.2.1 h.2.2.1 h.2.2.2
end Go.Vx
set_option linter.unusedSectionVars false
set_option maxRecDepth 100000
set_option linter.unusedVariables false
set_option linter.unusedSimpArgs false
namespace Go.Vx
open Go Go.Proofs
variable [Gl]

/-- The number of four bytes at a place. -/
@[irreducible] def nm (l : List Int) (i : Nat) : Int := ibit .or .i64 (ibit .or .i64 (ibit .or .i64 (l.getD i 0) (ishl .i64 (l.getD (i + 1) 0) 8)) (ishl .i64 (l.getD (i + 2) 0) 16)) (ishl .i64 (l.getD (i + 3) 0) 24)
/-- A reader: from where, how many, how many are there, was it too short. -/
abbrev Rs := Nat × Nat × Nat × Bool
def gs (s : Rs) : Rs := if s.2.1 < 4 then (s.1, s.2.1, s.2.2.1, true) else (srow s.2.2.1 4 s.1, s.2.1 - 4, s.2.2.1 - 4, s.2.2.2)
def gv (l : List Int) (s : Rs) : Int := if s.2.1 < 4 then 0 else nm l s.1
/-- All are bytes. -/
def Bys (l : List Int) : Prop := ∀ x ∈ l, 0 ≤ x ∧ x < 256
theorem Bys.app {a b : List Int} (h : Bys a) (h2 : Bys b) : Bys (a ++ b) := fun x hx => (List.mem_append.1 hx).elim (h x) (h2 x)
theorem Bys.take {a : List Int} (h : Bys a) (n : Nat) : Bys (a.take n) := fun x hx => h x (List.mem_of_mem_take hx)
theorem Bys.drop {a : List Int} (h : Bys a) (n : Nat) : Bys (a.drop n) := fun x hx => h x (List.mem_of_mem_drop hx)
theorem u8_in (n : Int) : 0 ≤ IntKind.u8.wrap n ∧ IntKind.u8.wrap n < 256 := by
  have h : IntKind.u8.wrap n = n % 256 := by simp [IntKind.wrap, IntKind.signed, IntKind.bits]
  omega
theorem four_byt (n : Int) : Bys (four n) := by
  unfold four
  intro x hx
  simp only [List.mem_cons, List.not_mem_nil, or_false] at hx
  rcases hx with rfl | rfl | rfl | rfl <;> exact u8_in _
theorem fours_byt (l : List Int) : Bys (fours l) := by
  unfold fours
  intro x hx
  obtain ⟨y, _, hy⟩ := List.mem_flatMap.1 hx
  exact four_byt y x hy
theorem byt_get {l : List Int} {i n : Nat} (h : Bys ((l.drop i).take n)) {j : Nat} (hj : j < n) : inR .i64 (l.getD (j + i) 0) := by
  by_cases hl : j + i < l.length
  · rw [List.getD_eq_getElem?_getD, List.getElem?_eq_getElem hl, Option.getD_some]
    have := h (l[j + i]) (by
      rw [List.mem_take_iff_getElem]
      refine ⟨j, by rw [List.length_drop]; omega, ?_⟩
      rw [List.getElem_drop]; congr 1; omega)
    exact inR64 (by omega) (by omega)
  · rw [List.getD_eq_getElem?_getD, List.getElem?_eq_none (by omega)]
    exact inR64 (by decide) (by decide)
theorem loop_toList (b : ByteArray) : ∀ (k i : Nat) (r : List UInt8), i + k = b.size → ByteArray.toList.loop b i r = r.reverse ++ b.data.toList.drop i := by
  intro k
  induction k with
  | zero =>
    intro i r h
    rw [ByteArray.toList.loop, if_neg (by omega), List.drop_of_length_le (by rw [Array.length_toList]; show b.size ≤ i; omega), List.append_nil]
  | succ k ih =>
    intro i r h
    rw [ByteArray.toList.loop, if_pos (by omega), ih _ _ (by omega)]
    have hi : i < b.data.toList.length := by rw [Array.length_toList]; show i < b.size; omega
    rw [List.drop_eq_getElem_cons hi, List.reverse_cons, List.append_assoc]
    show r.reverse ++ (b.get! i :: _) = _
    congr 2
    have hi2 : i < b.data.size := by rw [← Array.length_toList]; exact hi
    rw [ByteArray.get!, Array.getElem_toList]
    exact getElem!_pos b.data i hi2
theorem toList_data (b : ByteArray) : b.toList = b.data.toList := by
  rw [ByteArray.toList, loop_toList b b.size 0 [] (by omega)]; rfl
theorem strOf_toList (l : List Int) : (strOf l).toList = l.map fun n => UInt8.ofNat n.toNat := by
  rw [toList_data]
  unfold strOf
  suffices ∀ a : ByteArray, (l.foldl (fun r n => r.push (UInt8.ofNat n.toNat)) a).data.toList = a.data.toList ++ l.map fun n => UInt8.ofNat n.toNat by
    rw [this]; rfl
  induction l with
  | nil => intro a; simp
  | cons x r ih => intro a; rw [List.foldl_cons, ih, ByteArray.data_push, Array.toList_push, List.map_cons, List.append_assoc]; rfl
theorem u8_inj {a b : Int} (h1 : 0 ≤ a ∧ a < 256) (h2 : 0 ≤ b ∧ b < 256) (h : UInt8.ofNat a.toNat = UInt8.ofNat b.toNat) : a = b := by
  have h := congrArg UInt8.toNat h
  simp only [UInt8.toNat_ofNat'] at h
  omega
theorem map_inj : ∀ {a b : List Int}, Bys a → Bys b → a.map (fun n => UInt8.ofNat n.toNat) = b.map (fun n => UInt8.ofNat n.toNat) → a = b
  | [], [], _, _, _ => rfl
  | [], _ :: _, _, _, h => by simp at h
  | _ :: _, [], _, _, h => by simp at h
  | x :: a, y :: b, h1, h2, h => by
    simp only [List.map_cons, List.cons.injEq] at h
    rw [u8_inj (h1 x List.mem_cons_self) (h2 y List.mem_cons_self) h.1, map_inj (fun z hz => h1 z (List.mem_cons_of_mem _ hz)) (fun z hz => h2 z (List.mem_cons_of_mem _ hz)) h.2]
theorem str_eq {a b : List Int} (h1 : Bys a) (h2 : Bys b) : strEq (strOf a) (strOf b) = decide (a = b) := by
  unfold strEq
  rw [strOf_toList, strOf_toList, Bool.eq_iff_iff, beq_iff_eq, decide_eq_true_iff]
  exact ⟨map_inj h1 h2, fun h => by rw [h]⟩
theorem bytesOf_5 (l : List Int) : bytesOf (C0 5) l = l := by
  unfold bytesOf
  show l.map (fun x => x) = l
  exact List.map_id' l
theorem nm_of {l : List Int} {i a b c d : Nat} (h0 : a = i) (h1 : b = i + 1) (h2 : c = i + 2) (h3 : d = i + 3) : ibit .or .i64 (ibit .or .i64 (ibit .or .i64 (l.getD a 0) (ishl .i64 (l.getD b 0) 8)) (ishl .i64 (l.getD c 0) 16)) (ishl .i64 (l.getD d 0) 24) = nm l i := by
  subst h0 h1 h2 h3
  unfold nm; rfl
theorem get_ok (b0 q0 : Nat) (bad : Bool) (o : Bool) (b q : Nat) (l : List Int) (i n c : Nat) (h1 : n ≤ c) (h2 : i + c ≤ l.length) (h3 : n < 140737488355000) (ho : o = false → n = 0 ∧ c = 0) (hb : Bys ((l.drop i).take n)) :
    Does (C := C0) Tryd.prog (.fn 43) [⟨b0, q0, 2, true, none, .one [.sl 1 i n c, .bool (.tm bad)]⟩, ⟨b, q, 1, false, some o, .rows 5 l⟩] [.ptr 0 0 0]
    [⟨Rs × Int, fun y => y = (gs (i, n, c, bad), gv l (i, n, c, bad)), fun y => .int .i64 y.2, fun y => [⟨b0, q0, 2, true, none, .one [.sl 1 y.1.1 y.1.2.1 y.1.2.2.1, .bool (.tm y.1.2.2.2)]⟩, ⟨b, q, 1, false, some o, .rows 5 l⟩]⟩] := by
  refine loc_fn (P := Tryd.prog) (E := ⟨[], [], 56, [], [], []⟩) (L := []) mix Tryd.func43 rfl (by kernel_rfl) (by kernel_rfl) rfl rfl ?_
  ((conv => (arg 1; reduce)); with_reducible repeat' (first | exact Tr.yes_h | refine Tr.and_h ?_ ?_ | refine Tr.imp_h fun _ => ?_ | refine Tr.all_h fun _ => ?_ | refine Tr.lf_h ?_))
  all_goals try (first | first | (show Region.lexB _ _ = true; kernel_rfl) | (show planned _ _ = true; kernel_rfl) | exact rfl | exact True.intro | ((try dsimp only [imp, C0, cG, cInt, cPl, cSlot, cPg, rwCodec, cRaw] at *); (try refine inR64 ?_ ?_) <;> (try simp only [List.length_set, List.length_append, List.length_take, List.length_drop]) <;> omega))
  all_goals rename_i hn
  all_goals try (have hn := of_decide_eq_false hn)
  all_goals try exact on_of ho (by omega)
  all_goals try omega
  all_goals try (show _ + i < l.length; simp only [Int.toNat]; omega)
  · have hn := of_decide_eq_true hn
    refine Ends.one (gs (i, n, c, bad), gv l (i, n, c, bad)) rfl ?_
    have h : n < 4 := by omega
    simp only [gs, gv, h, if_true]
    ((conv => (arg 1; reduce)); with_reducible repeat' (first | exact Tr.yes_h | refine Tr.and_h ?_ ?_ | refine Tr.imp_h fun _ => ?_ | refine Tr.all_h fun _ => ?_ | refine Tr.lf_h ?_))
    all_goals (first | first | (show Region.lexB _ _ = true; kernel_rfl) | (show planned _ _ = true; kernel_rfl) | exact rfl | exact True.intro | ((try dsimp only [imp, C0, cG, cInt, cPl, cSlot, cPg, rwCodec, cRaw] at *); (try refine inR64 ?_ ?_) <;> (try simp only [List.length_set, List.length_append, List.length_take, List.length_drop]) <;> omega))
  · exact byt_get (j := 0) hb (by omega)
  · exact byt_get (j := 1) hb (by omega)
  · exact byt_get (j := 2) hb (by omega)
  · exact byt_get (j := 3) hb (by omega)
  · refine Ends.one (gs (i, n, c, bad), gv l (i, n, c, bad)) rfl ?_
    have h : ¬ n < 4 := by omega
    simp only [gs, gv, h, if_false]
    ((conv => (arg 1; reduce)); with_reducible repeat' (first | exact Tr.yes_h | refine Tr.and_h ?_ ?_ | refine Tr.imp_h fun _ => ?_ | refine Tr.all_h fun _ => ?_ | refine Tr.lf_h ?_))
    all_goals try (first | first | (show Region.lexB _ _ = true; kernel_rfl) | (show planned _ _ = true; kernel_rfl) | exact rfl | exact True.intro | ((try dsimp only [imp, C0, cG, cInt, cPl, cSlot, cPg, rwCodec, cRaw] at *); (try refine inR64 ?_ ?_) <;> (try simp only [List.length_set, List.length_append, List.length_take, List.length_drop]) <;> omega))
    exact nm_of (by simp) (by simp; omega) (by simp; omega) (by simp; omega)
def fcGet : Fc Tryd.prog C0 where
  tg := .fn 43
  X := Nat × Nat × Bool × Bool × Nat × Nat × List Int × Nat × Nat × Nat
  args := fun (b0, q0, bad, o, b, q, l, i, n, c) => [.ptr 0 0 0]
  mem := fun (b0, q0, bad, o, b, q, l, i, n, c) => [⟨b0, q0, 2, true, none, .one [.sl 1 i n c, .bool (.tm bad)]⟩, ⟨b, q, 1, false, some o, .rows 5 l⟩]
  pre := fun (b0, q0, bad, o, b, q, l, i, n, c) => n ≤ c ∧ i + c ≤ l.length ∧ n < 140737488355000 ∧ (o = false → n = 0 ∧ c = 0) ∧ Bys ((l.drop i).take n)
  alts := fun (b0, q0, bad, o, b, q, l, i, n, c) => [⟨Rs × Int, fun y => y = (gs (i, n, c, bad), gv l (i, n, c, bad)), fun y => .int .i64 y.2, fun y => [⟨b0, q0, 2, true, none, .one [.sl 1 y.1.1 y.1.2.1 y.1.2.2.1, .bool (.tm y.1.2.2.2)]⟩, ⟨b, q, 1, false, some o, .rows 5 l⟩]⟩]
  mat vs m := match vs with
    | [.ptr a _ _] => match nth m a with
      | ⟨b0, q0, _, _, _, .one [.sl a2 i n c, .bool bad]⟩ => match nth m a2 with
        | ⟨b, q, _, _, g, .rows 5 l⟩ => some ((b0, q0, bad.val, onOf g, b, q, l, i, n, c), [a, a2])
        | _ => none
      | ⟨b0, q0, _, _, _, .one [.nils, .bool bad]⟩ => some ((b0, q0, bad.val, false, 0, 0, [], 0, 0, 0), [a, m.length])
      | _ => none
    | _ => none
  ok := fun (b0, q0, bad, o, b, q, l, i, n, c) h => get_ok b0 q0 bad o b q l i n c h.1 h.2.1 h.2.2.1 h.2.2.2.1 h.2.2.2.2
theorem number_ok (o : Bool) (b q : Nat) (l : List Int) (i n c j : Nat) (h1 : i + n ≤ l.length) (h2 : j + 4 ≤ n) (h3 : n < 140737488355000) (ho : o = false → n = 0 ∧ c = 0) (hb : Bys ((l.drop i).take n)) :
    Tells (C := C0) Tryd.prog (.fn 44) [⟨b, q, 1, false, some o, .rows 5 l⟩] [.sl 0 i n c, .int .i64 (j : Nat)] (.int .i64 (nm l (j + i))) := by
  refine loc_pc (P := Tryd.prog) (E := ⟨[], [], 34, [], [], []⟩) (L := []) mix Tryd.func44 rfl (by kernel_rfl) (by kernel_rfl) rfl rfl ?_
  ((conv => (arg 1; reduce)); with_reducible repeat' (first | exact Tr.yes_h | refine Tr.and_h ?_ ?_ | refine Tr.imp_h fun _ => ?_ | refine Tr.all_h fun _ => ?_ | refine Tr.lf_h ?_))
  all_goals try (first | first | (show Region.lexB _ _ = true; kernel_rfl) | (show planned _ _ = true; kernel_rfl) | exact rfl | exact True.intro | ((try dsimp only [imp, C0, cG, cInt, cPl, cSlot, cPg, rwCodec, cRaw] at *); (try refine inR64 ?_ ?_) <;> (try simp only [List.length_set, List.length_append, List.length_take, List.length_drop]) <;> omega))
  all_goals try exact on_of ho (by omega)
  all_goals try omega
  all_goals try exact inR64 (by omega) (by omega)
  all_goals have e1 : ((j : Int) + 1).toNat = j + 1 := by omega
  all_goals have e2 : ((j : Int) + 2).toNat = j + 2 := by omega
  all_goals have e3 : ((j : Int) + 3).toNat = j + 3 := by omega
  · exact byt_get (j := j) hb (by omega)
  · rw [e1]; exact byt_get (j := j + 1) hb (by omega)
  · rw [e2]; exact byt_get (j := j + 2) hb (by omega)
  · rw [e3]; exact byt_get (j := j + 3) hb (by omega)
  · exact nm_of (by omega) (by omega) (by omega) (by omega)
def pcNum : Pc Tryd.prog C0 where
  tg := .fn 44
  X := Bool × Nat × Nat × List Int × Nat × Nat × Nat × Int
  args := fun (o, b, q, l, i, n, c, j) => [.sl 0 i n c, .int .i64 j]
  mem := fun (o, b, q, l, i, n, c, j) => [⟨b, q, 1, false, some o, .rows 5 l⟩]
  pre := fun (o, b, q, l, i, n, c, j) => i + n ≤ l.length ∧ (0 ≤ j ∧ j + 4 ≤ (n : Int)) ∧ n < 140737488355000 ∧ (o = false → n = 0 ∧ c = 0) ∧ Bys ((l.drop i).take n)
  res := fun (o, b, q, l, i, n, c, j) => .int .i64 (nm l (j.toNat + i))
  mat vs m := match vs with
    | [.sl a i n c, .int _ j] => match nth m a with
      | ⟨b, q, _, _, g, .rows 5 l⟩ => some ((onOf g, b, q, l, i, n, c, j), [a])
      | _ => none
    | _ => none
  ok := fun (o, b, q, l, i, n, c, j) h => by
    obtain ⟨h1, ⟨h2, h3⟩, h4, h5, h6⟩ := h
    obtain ⟨k, rfl⟩ := Int.eq_ofNat_of_zero_le h2
    exact number_ok o b q l i n c k h1 (by omega) h4 h5 h6
/-- Are they one list. -/
@[irreducible] def ieq (a b : List Int) : Bool := decide (a = b)
theorem ieq_iff {a b : List Int} : ieq a b = true ↔ a = b := by unfold ieq; exact decide_eq_true_iff
theorem ieq_no {a b : List Int} (h : a ≠ b) : ieq a b = false := by unfold ieq; exact decide_eq_false h
theorem ieq_yes {a b : List Int} (h : a = b) : ieq a b = true := ieq_iff.2 h
theorem sameBytes_ok (o : Bool) (b q : Nat) (l : List Int) (i n c : Nat) (o2 : Bool) (b2 q2 : Nat) (l2 : List Int) (i2 n2 c2 : Nat) (h1 : i + n ≤ l.length) (h2 : i2 + n2 ≤ l2.length) (ho : o = false → n = 0 ∧ c = 0) (ho2 : o2 = false → n2 = 0 ∧ c2 = 0) (hb : Bys ((l.drop i).take n)) (hb2 : Bys ((l2.drop i2).take n2)) :
    Tells (C := C0) Tryd.prog (.fn 14) [⟨b, q, 1, false, some o, .rows 5 l⟩, ⟨b2, q2, 1, false, some o2, .rows 5 l2⟩] [.sl 0 i n c, .sl 1 i2 n2 c2] (.bool (.tm (ieq ((l.drop i).take n) ((l2.drop i2).take n2)))) := by
  refine loc_pc (P := Tryd.prog) (E := ⟨[], [], 10, [], [], []⟩) (L := []) mix Tryd.func14 rfl (by kernel_rfl) (by kernel_rfl) rfl rfl ?_
  ((conv => (arg 1; reduce)); with_reducible repeat' (first | exact Tr.yes_h | refine Tr.and_h ?_ ?_ | refine Tr.imp_h fun _ => ?_ | refine Tr.all_h fun _ => ?_ | refine Tr.lf_h ?_))
  all_goals try (first | first | (show Region.lexB _ _ = true; kernel_rfl) | (show planned _ _ = true; kernel_rfl) | exact rfl | exact True.intro | ((try dsimp only [imp, C0, cG, cInt, cPl, cSlot, cPg, rwCodec, cRaw] at *); (try refine inR64 ?_ ?_) <;> (try simp only [List.length_set, List.length_append, List.length_take, List.length_drop]) <;> omega))
  · exact fun h => ⟨(ho h).1, (ho h).1⟩
  · exact ⟨h1, fun x => ⟨x, rfl⟩⟩
  · exact fun h => ⟨(ho2 h).1, (ho2 h).1⟩
  · exact ⟨h2, fun x => ⟨x, rfl⟩⟩
  · show strEq _ _ = ieq _ _
    unfold ieq
    rw [bytesOf_5, bytesOf_5]
    exact str_eq hb hb2
def pcSb : Pc Tryd.prog C0 where
  tg := .fn 14
  X := (Bool × Nat × Nat × List Int × Nat × Nat × Nat) × (Bool × Nat × Nat × List Int × Nat × Nat × Nat)
  args := fun ((o, b, q, l, i, n, c), (o2, b2, q2, l2, i2, n2, c2)) => [.sl 0 i n c, .sl 1 i2 n2 c2]
  mem := fun ((o, b, q, l, i, n, c), (o2, b2, q2, l2, i2, n2, c2)) => [⟨b, q, 1, false, some o, .rows 5 l⟩, ⟨b2, q2, 1, false, some o2, .rows 5 l2⟩]
  pre := fun ((o, b, q, l, i, n, c), (o2, b2, q2, l2, i2, n2, c2)) => i + n ≤ l.length ∧ i2 + n2 ≤ l2.length ∧ (o = false → n = 0 ∧ c = 0) ∧ (o2 = false → n2 = 0 ∧ c2 = 0) ∧ Bys ((l.drop i).take n) ∧ Bys ((l2.drop i2).take n2)
  res := fun ((o, b, q, l, i, n, c), (o2, b2, q2, l2, i2, n2, c2)) => .bool (.tm (ieq ((l.drop i).take n) ((l2.drop i2).take n2)))
  mat vs m := match vs with
    | [.sl a i n c, .sl a2 i2 n2 c2] => match nth m a, nth m a2 with
      | ⟨b, q, _, _, g, .rows 5 l⟩, ⟨b2, q2, _, _, g2, .rows 5 l2⟩ => some (((onOf g, b, q, l, i, n, c), (onOf g2, b2, q2, l2, i2, n2, c2)), [a, a2])
      | _, _ => none
    | [.nils, .sl a2 i2 n2 c2] => match nth m a2 with
      | ⟨b2, q2, _, _, g2, .rows 5 l2⟩ => some (((false, 0, 0, [], 0, 0, 0), (onOf g2, b2, q2, l2, i2, n2, c2)), [m.length, a2])
      | _ => none
    | [.sl a i n c, .nils] => match nth m a with
      | ⟨b, q, _, _, g, .rows 5 l⟩ => some (((onOf g, b, q, l, i, n, c), (false, 0, 0, [], 0, 0, 0)), [a, m.length])
      | _ => none
    | _ => none
  ok := fun ((o, b, q, l, i, n, c), (o2, b2, q2, l2, i2, n2, c2)) h => sameBytes_ok o b q l i n c o2 b2 q2 l2 i2 n2 c2 h.1 h.2.1 h.2.2.1 h.2.2.2.1 h.2.2.2.2.1 h.2.2.2.2.2
end Go.Vx
set_option linter.unusedSectionVars false
set_option maxRecDepth 100000
set_option linter.unusedVariables false
set_option linter.unusedSimpArgs false
namespace Go.Vx
open Go Go.Proofs
variable [Gl]

theorem samePlace_ok (a b : Pl) : Tells (C := C0) Tryd.prog (.fn 29) [] [.agg (plE a), .agg (plE b)] (.bool (.tm (decide (a.1 = b.1) && decide (a.2 = b.2)))) := by
  refine loc_pc (P := Tryd.prog) (E := ⟨[], [], 17, [], [], []⟩) (L := []) mix Tryd.func29 rfl (by kernel_rfl) (by kernel_rfl) rfl rfl ?_
  ((conv => (arg 1; reduce)); with_reducible repeat' (first | exact Tr.yes_h | refine Tr.and_h ?_ ?_ | refine Tr.imp_h fun _ => ?_ | refine Tr.all_h fun _ => ?_ | refine Tr.lf_h ?_))
  all_goals (first | first | (show Region.lexB _ _ = true; kernel_rfl) | (show planned _ _ = true; kernel_rfl) | exact rfl | exact True.intro | ((try dsimp only [imp, C0, cG, cInt, cPl, cSlot, cPg, rwCodec, cRaw] at *); (try refine inR64 ?_ ?_) <;> (try simp only [List.length_set, List.length_append, List.length_take, List.length_drop]) <;> omega))
def pcSamePlace : Pc Tryd.prog C0 where
  tg := .fn 29
  X := Pl × Pl
  args x := [.agg (plE x.1), .agg (plE x.2)]
  mem _ := []
  pre _ := True
  res x := .bool (.tm (decide (x.1.1 = x.2.1) && decide (x.1.2 = x.2.2)))
  mat vs _ := match vs with
    | [.agg [.int _ a1, .int _ a2], .agg [.int _ b1, .int _ b2]] => some (((a1, a2), (b1, b2)), [])
    | _ => none
  ok x _ := samePlace_ok x.1 x.2
def eqMe (a b : Me) : Bool := decide (a.kind = b.kind) && decide (a.key = b.key) && decide (a.seq = b.seq) && decide (a.stamp = b.stamp) && decide (a.batch = b.batch) && decide (a.floor = b.floor)
theorem sameMeta_ok (a b : Me) : Tells (C := C0) Tryd.prog (.fn 28) [] [.agg (meE a), .agg (meE b)] (.bool (.tm (eqMe a b))) := by
  refine loc_pc (P := Tryd.prog) (E := ⟨[], [], 45, [], [], []⟩) (L := []) mix Tryd.func28 rfl (by kernel_rfl) (by kernel_rfl) rfl rfl ?_
  ((conv => (arg 1; reduce)); with_reducible repeat' (first | exact Tr.yes_h | refine Tr.and_h ?_ ?_ | refine Tr.imp_h fun _ => ?_ | refine Tr.all_h fun _ => ?_ | refine Tr.lf_h ?_))
  all_goals (first | first | (show Region.lexB _ _ = true; kernel_rfl) | (show planned _ _ = true; kernel_rfl) | exact rfl | exact True.intro | ((try dsimp only [imp, C0, cG, cInt, cPl, cSlot, cPg, rwCodec, cRaw] at *); (try refine inR64 ?_ ?_) <;> (try simp only [List.length_set, List.length_append, List.length_take, List.length_drop]) <;> omega))
def pcSameMeta : Pc Tryd.prog C0 where
  tg := .fn 28
  X := Me × Me
  args x := [.agg (meE x.1), .agg (meE x.2)]
  mem _ := []
  pre _ := True
  res x := .bool (.tm (eqMe x.1 x.2))
  mat vs _ := match vs with
    | [.agg [.int _ a1, .int _ a2, .int _ a3, .int _ a4, .int _ a5, .int _ a6], .agg [.int _ b1, .int _ b2, .int _ b3, .int _ b4, .int _ b5, .int _ b6]] => some ((⟨a1, a2, a3, a4, a5, a6⟩, ⟨b1, b2, b3, b4, b5, b6⟩), [])
    | _ => none
  ok x _ := sameMeta_ok x.1 x.2
/-- A number that may be. -/
def cn (n : Int) : Bool := decide (n ≥ 0) && decide (n ≤ 1073741824)
theorem cn_iff {n : Int} : cn n = true ↔ 0 ≤ n ∧ n ≤ 1073741824 := by simp [cn]
theorem count_ok (n : Int) : Tells (C := C0) Tryd.prog (.fn 34) [] [.int .i64 n] (.bool (.tm (cn n))) := by
  refine loc_pc (P := Tryd.prog) (E := ⟨[], [], 9, [], [], []⟩) (L := []) mix Tryd.func34 rfl (by kernel_rfl) (by kernel_rfl) rfl rfl ?_
  ((conv => (arg 1; reduce)); with_reducible repeat' (first | exact Tr.yes_h | refine Tr.and_h ?_ ?_ | refine Tr.imp_h fun _ => ?_ | refine Tr.all_h fun _ => ?_ | refine Tr.lf_h ?_))
  all_goals (first | first | (show Region.lexB _ _ = true; kernel_rfl) | (show planned _ _ = true; kernel_rfl) | exact rfl | exact True.intro | ((try dsimp only [imp, C0, cG, cInt, cPl, cSlot, cPg, rwCodec, cRaw] at *); (try refine inR64 ?_ ?_) <;> (try simp only [List.length_set, List.length_append, List.length_take, List.length_drop]) <;> omega))
def pcCount : Pc Tryd.prog C0 where
  tg := .fn 34
  X := Int
  args x := [.int .i64 x]
  mem _ := []
  pre _ := True
  res x := .bool (.tm (cn x))
  mat vs _ := match vs with
    | [.int _ a] => some (a, [])
    | _ => none
  ok x _ := count_ok x
/-- A record that may be. -/
def okMe (m : Me) : Bool := decide (m.kind ≥ 1) && decide (m.kind ≤ 6) && cn m.key && cn m.seq && cn m.stamp && cn m.batch && cn m.floor
theorem rmay_ok (m : Me) : Tells (C := C0) Tryd.prog (.fn 35) [] [.agg (meE m)] (.bool (.tm (okMe m))) := by
  refine loc_pc (P := Tryd.prog) (E := ⟨[], [pcCount], 36, [], [], []⟩) (L := []) mix Tryd.func35 rfl (by kernel_rfl) (by kernel_rfl) rfl rfl ?_
  ((conv => (arg 1; reduce)); with_reducible repeat' (first | exact Tr.yes_h | refine Tr.and_h ?_ ?_ | refine Tr.imp_h fun _ => ?_ | refine Tr.all_h fun _ => ?_ | refine Tr.lf_h ?_))
  all_goals (first | first | (show Region.lexB _ _ = true; kernel_rfl) | (show planned _ _ = true; kernel_rfl) | exact rfl | exact True.intro | ((try dsimp only [imp, C0, cG, cInt, cPl, cSlot, cPg, rwCodec, cRaw] at *); (try refine inR64 ?_ ?_) <;> (try simp only [List.length_set, List.length_append, List.length_take, List.length_drop]) <;> omega))
def pcRmay : Pc Tryd.prog C0 where
  tg := .fn 35
  X := Me
  args x := [.agg (meE x)]
  mem _ := []
  pre _ := True
  res x := .bool (.tm (okMe x))
  mat vs _ := match vs with
    | [.agg [.int _ a1, .int _ a2, .int _ a3, .int _ a4, .int _ a5, .int _ a6]] => some (⟨a1, a2, a3, a4, a5, a6⟩, [])
    | _ => none
  ok x _ := rmay_ok x
theorem ahead_ok (a b : Pl) : Tells (C := C0) Tryd.prog (.fn 40) [] [.agg (plE a), .agg (plE b)] (.bool (.tm (decide (a.1 < b.1) || (decide (a.1 = b.1) && decide (a.2 < b.2))))) := by
  refine loc_pc (P := Tryd.prog) (E := ⟨[], [], 24, [], [], []⟩) (L := []) mix Tryd.func40 rfl (by kernel_rfl) (by kernel_rfl) rfl rfl ?_
  ((conv => (arg 1; reduce)); with_reducible repeat' (first | exact Tr.yes_h | refine Tr.and_h ?_ ?_ | refine Tr.imp_h fun _ => ?_ | refine Tr.all_h fun _ => ?_ | refine Tr.lf_h ?_))
  all_goals (first | first | (show Region.lexB _ _ = true; kernel_rfl) | (show planned _ _ = true; kernel_rfl) | exact rfl | exact True.intro | ((try dsimp only [imp, C0, cG, cInt, cPl, cSlot, cPg, rwCodec, cRaw] at *); (try refine inR64 ?_ ?_) <;> (try simp only [List.length_set, List.length_append, List.length_take, List.length_drop]) <;> omega))
def pcAhead : Pc Tryd.prog C0 where
  tg := .fn 40
  X := Pl × Pl
  args x := [.agg (plE x.1), .agg (plE x.2)]
  mem _ := []
  pre _ := True
  res x := .bool (.tm (decide (x.1.1 < x.2.1) || (decide (x.1.1 = x.2.1) && decide (x.1.2 < x.2.2))))
  mat vs _ := match vs with
    | [.agg [.int _ a1, .int _ a2], .agg [.int _ b1, .int _ b2]] => some (((a1, a2), (b1, b2)), [])
    | _ => none
  ok x _ := ahead_ok x.1 x.2
theorem num1_ok (n : Int) : Tells (C := C0) Tryd.prog (.fn 60) [] [.int .i64 n] (.bool (.tm (!cn n))) := by
  refine loc_pc (P := Tryd.prog) (E := ⟨[], [], 9, [], [], []⟩) (L := []) mix Tryd.func60 rfl (by kernel_rfl) (by kernel_rfl) rfl rfl ?_
  ((conv => (arg 1; reduce)); with_reducible repeat' (first | exact Tr.yes_h | refine Tr.and_h ?_ ?_ | refine Tr.imp_h fun _ => ?_ | refine Tr.all_h fun _ => ?_ | refine Tr.lf_h ?_))
  all_goals try (first | first | (show Region.lexB _ _ = true; kernel_rfl) | (show planned _ _ = true; kernel_rfl) | exact rfl | exact True.intro | ((try dsimp only [imp, C0, cG, cInt, cPl, cSlot, cPg, rwCodec, cRaw] at *); (try refine inR64 ?_ ?_) <;> (try simp only [List.length_set, List.length_append, List.length_take, List.length_drop]) <;> omega))
  show (decide (n < 0) || decide (1073741824 < n)) = !(decide (n ≥ 0) && decide (n ≤ 1073741824))
  rw [Bool.not_and, ← decide_not, ← decide_not]
  simp only [Int.not_le, ge_iff_le]
def pcNum1 : Pc Tryd.prog C0 where
  tg := .fn 60
  X := Int
  args x := [.int .i64 x]
  mem _ := []
  pre _ := True
  res x := .bool (.tm (!cn x))
  mat vs _ := match vs with
    | [.int _ a] => some (a, [])
    | _ => none
  ok x _ := num1_ok x
end Go.Vx
set_option linter.unusedSectionVars false
set_option maxRecDepth 100000
set_option linter.unusedVariables false
set_option linter.unusedSimpArgs false
namespace Go.Vx
open Go Go.Proofs
variable [Gl]

theorem take_snoc {α : Type} {A : List α} {i : Nat} {d : α} (h : i < A.length) : A.take (i + 1) = A.take i ++ [A.getD i d] := by
  rw [List.take_add_one]
  simp [List.getD, h]
theorem rows_at {α : Type} {l : List α} {i n v : Nat} {d : α} (hv : v < n) : ((l.drop i).take n).getD v d = l.getD (v + i) d := by
  simp only [List.getD_eq_getElem?_getD, List.getElem?_take, if_pos hv, List.getElem?_drop, Nat.add_comm i v]
theorem rows_len {α : Type} {l : List α} {i n : Nat} (h : i + n ≤ l.length) : ((l.drop i).take n).length = n := by
  rw [List.length_take, List.length_drop]; omega
/-- The first that is so; or -1. -/
@[irreducible] def ixF {α : Type} (f : α → Bool) (A : List α) : Int := if A.any f then (A.findIdx f : Nat) else -1
@[irreducible] def anyF {α : Type} (f : α → Bool) (A : List α) : Bool := A.any f
theorem anyF_snoc {α : Type} {f : α → Bool} {A : List α} {i : Nat} {d : α} (h : i < A.length) : anyF f (A.take (i + 1)) = (anyF f (A.take i) || f (A.getD i d)) := by
  unfold anyF
  rw [take_snoc (d := d) h, List.any_append]
  simp
theorem anyF_zero {α : Type} {f : α → Bool} {A : List α} : anyF f (A.take 0) = false := by unfold anyF; rfl
theorem ixF_no {α : Type} {f : α → Bool} {A : List α} (h : anyF f A = false) : ixF f A = -1 := by
  unfold anyF at h
  unfold ixF
  rw [h]; rfl
theorem ixF_at {α : Type} {f : α → Bool} {A : List α} {i : Nat} {d : α} (hi : i < A.length) (h : anyF f (A.take i) = false) (h2 : f (A.getD i d) = true) : ixF f A = (i : Nat) := by
  have e : A.getD i d = A[i] := by rw [List.getD_eq_getElem?_getD, List.getElem?_eq_getElem hi, Option.getD_some]
  rw [e] at h2
  unfold anyF at h
  rw [List.any_eq_false] at h
  unfold ixF
  rw [if_pos (List.any_eq_true.2 ⟨_, List.getElem_mem hi, h2⟩)]
  congr 1
  rw [List.findIdx_eq hi]
  refine ⟨h2, fun j hj => ?_⟩
  have := h A[j] (by rw [List.mem_take_iff_getElem]; exact ⟨j, by omega, rfl⟩)
  simpa using this
theorem ixF_ge {α : Type} {f : α → Bool} {A : List α} : decide (ixF f A ≥ 0) = anyF f A := by
  unfold ixF anyF
  cases h : A.any f
  · simp
  · simp
def Ix {α : Type} (f : α → Bool) (A : List α) : Inv' C0 := ⟨2, Nat, fun i => [(8, .int .i64 (i : Int))], fun _ m => m, fun i => i ≤ A.length ∧ anyF f (A.take i) = false, fun i => A.length - i⟩
theorem ixn_ok (o : Bool) (b q : Nat) (l : List Int) (i n c : Nat) (h : i + n ≤ l.length) (hn : n < 4611686018427387904) (ho : o = false → n = 0 ∧ c = 0) :
    Tells (C := C0) Tryd.prog (.fn 82) [⟨b, q, 1, false, some o, .rows 3 l⟩] [.sl 0 i n c, .fn (.func 60) [] []] (.int .i64 (ixF (fun n => !cn n) ((l.drop i).take n))) := by
  have hL := rows_len h
  refine loc_pc (P := Tryd.prog) (E := ⟨[], [pcNum1], 19, [], [], []⟩) (L := [Ix (fun n => !cn n) ((l.drop i).take n)]) mix Tryd.func82 rfl (by kernel_rfl) (by kernel_rfl) rfl rfl ?_
  ((conv => (arg 1; reduce)); with_reducible repeat' (first | exact Tr.yes_h | refine Tr.and_h ?_ ?_ | refine Tr.imp_h fun _ => ?_ | refine Tr.all_h fun _ => ?_ | refine Tr.lf_h ?_))
  all_goals try (first | (first | first | (show Region.lexB _ _ = true; kernel_rfl) | (show planned _ _ = true; kernel_rfl) | exact rfl | exact True.intro | ((try dsimp only [imp, C0, cG, cInt, cPl, cSlot, cPg, rwCodec, cRaw] at *); (try refine inR64 ?_ ?_) <;> (try simp only [List.length_set, List.length_append, List.length_take, List.length_drop]) <;> omega)) | ((try dsimp only [imp, C0, cG, cInt, cPl, cSlot, cPg, rwCodec, cRaw, Ix] at *); (try simp only [decide_eq_true_eq, decide_eq_false_iff_not, Bool.and_eq_true, Bool.or_eq_true, Bool.or_eq_false_iff, Bool.and_eq_false_iff, Bool.not_eq_true', Bool.not_eq_false', SB.val, List.length_append, List.length_cons, List.length_nil, List.length_take, List.length_drop] at *); (first | omega | exact inR64 (by omega) (by omega) | (refine inR64 ?_ ?_ <;> omega))) | (refine on_of ho ?_; ((try dsimp only [imp, C0, cG, cInt, cPl, cSlot, cPg, rwCodec, cRaw, Ix] at *); (try simp only [decide_eq_true_eq, decide_eq_false_iff_not, Bool.and_eq_true, Bool.or_eq_true, Bool.or_eq_false_iff, Bool.and_eq_false_iff, Bool.not_eq_true', Bool.not_eq_false', SB.val, List.length_append, List.length_cons, List.length_nil, List.length_take, List.length_drop] at *); (first | omega | exact inR64 (by omega) (by omega) | (refine inR64 ?_ ?_ <;> omega)))))
  · refine Stands.one (0 : Nat) ⟨⟨Nat.zero_le _, anyF_zero⟩, ?_⟩
    ((conv => (arg 1; reduce)); with_reducible repeat' (first | exact Tr.yes_h | refine Tr.and_h ?_ ?_ | refine Tr.imp_h fun _ => ?_ | refine Tr.all_h fun _ => ?_ | refine Tr.lf_h ?_))
    all_goals (first | first | (show Region.lexB _ _ = true; kernel_rfl) | (show planned _ _ = true; kernel_rfl) | exact rfl | exact True.intro | ((try dsimp only [imp, C0, cG, cInt, cPl, cSlot, cPg, rwCodec, cRaw] at *); (try refine inR64 ?_ ?_) <;> (try simp only [List.length_set, List.length_append, List.length_take, List.length_drop]) <;> omega))
  · rename_i v hv h1 h2
    change Nat at v
    obtain ⟨e1, e2⟩ := hv
    have h1 : v < n := by have := of_decide_eq_true h1; omega
    refine (ixF_at (d := 0) (by rw [hL]; exact h1) e2 ?_).symm
    rw [rows_at h1]
    exact h2
  · rename_i v hv h1 h2
    change Nat at v
    obtain ⟨e1, e2⟩ := hv
    have h1 : v < n := by have := of_decide_eq_true h1; omega
    refine Stands.one (v + 1 : Nat) ⟨⟨by rw [hL]; exact h1, ?_⟩, ?_, ?_⟩
    · show anyF _ (((l.drop i).take n).take (v + 1)) = false
      rw [anyF_snoc (d := 0) (by rw [hL]; exact h1), e2, rows_at h1]
      exact h2
    · show ((l.drop i).take n).length - (v + 1) < ((l.drop i).take n).length - v
      rw [hL]; omega
    ((conv => (arg 1; reduce)); with_reducible repeat' (first | exact Tr.yes_h | refine Tr.and_h ?_ ?_ | refine Tr.imp_h fun _ => ?_ | refine Tr.all_h fun _ => ?_ | refine Tr.lf_h ?_))
    all_goals (first | first | (show Region.lexB _ _ = true; kernel_rfl) | (show planned _ _ = true; kernel_rfl) | exact rfl | exact True.intro | ((try dsimp only [imp, C0, cG, cInt, cPl, cSlot, cPg, rwCodec, cRaw] at *); (try refine inR64 ?_ ?_) <;> (try simp only [List.length_set, List.length_append, List.length_take, List.length_drop]) <;> omega))
  · rename_i v hv h1
    change Nat at v
    obtain ⟨e1, e2⟩ := hv
    have h1 : ¬ v < n := by have := of_decide_eq_false h1; omega
    rw [List.take_of_length_le (by rw [hL]; omega)] at e2
    exact (ixF_no e2).symm
def pcIxn : Pc Tryd.prog C0 where
  tg := .fn 82
  X := Bool × Nat × Nat × List Int × Nat × Nat × Nat
  args := fun (o, b, q, l, i, n, c) => [.sl 0 i n c, .fn (.func 60) [] []]
  mem := fun (o, b, q, l, i, n, c) => [⟨b, q, 1, false, some o, .rows 3 l⟩]
  pre := fun (o, b, q, l, i, n, c) => i + n ≤ l.length ∧ n < 4611686018427387904 ∧ (o = false → n = 0 ∧ c = 0)
  res := fun (o, b, q, l, i, n, c) => .int .i64 (ixF (fun n => !cn n) ((l.drop i).take n))
  mat vs m := match vs with
    | [.sl a i n c, .fn _ _ _] => match nth m a with
      | ⟨b, q, _, _, g, .rows 3 l⟩ => some ((onOf g, b, q, l, i, n, c), [a])
      | _ => none
    | _ => none
  ok := fun (o, b, q, l, i, n, c) h => ixn_ok o b q l i n c h.1 h.2.1 h.2.2
theorem hasn_ok (o : Bool) (b q : Nat) (l : List Int) (i n c : Nat) (h : i + n ≤ l.length) (hn : n < 4611686018427387904) (ho : o = false → n = 0 ∧ c = 0) :
    Tells (C := C0) Tryd.prog (.fn 59) [⟨b, q, 1, false, some o, .rows 3 l⟩] [.sl 0 i n c, .fn (.func 60) [] []] (.bool (.tm (anyF (fun n => !cn n) ((l.drop i).take n)))) := by
  refine loc_pc (P := Tryd.prog) (E := ⟨[], [pcIxn], 9, [], [], []⟩) (L := []) mix Tryd.func59 rfl (by kernel_rfl) (by kernel_rfl) rfl rfl ?_
  ((conv => (arg 1; reduce)); with_reducible repeat' (first | exact Tr.yes_h | refine Tr.and_h ?_ ?_ | refine Tr.imp_h fun _ => ?_ | refine Tr.all_h fun _ => ?_ | refine Tr.lf_h ?_))
  all_goals try (first | first | (show Region.lexB _ _ = true; kernel_rfl) | (show planned _ _ = true; kernel_rfl) | exact rfl | exact True.intro | ((try dsimp only [imp, C0, cG, cInt, cPl, cSlot, cPg, rwCodec, cRaw] at *); (try refine inR64 ?_ ?_) <;> (try simp only [List.length_set, List.length_append, List.length_take, List.length_drop]) <;> omega))
  · exact ⟨h, hn, ho⟩
  · exact ixF_ge
def pcHasn : Pc Tryd.prog C0 where
  tg := .fn 59
  X := Bool × Nat × Nat × List Int × Nat × Nat × Nat
  args := fun (o, b, q, l, i, n, c) => [.sl 0 i n c, .fn (.func 60) [] []]
  mem := fun (o, b, q, l, i, n, c) => [⟨b, q, 1, false, some o, .rows 3 l⟩]
  pre := fun (o, b, q, l, i, n, c) => i + n ≤ l.length ∧ n < 4611686018427387904 ∧ (o = false → n = 0 ∧ c = 0)
  res := fun (o, b, q, l, i, n, c) => .bool (.tm (anyF (fun n => !cn n) ((l.drop i).take n)))
  mat vs m := match vs with
    | [.sl a i n c, .fn _ _ _] => match nth m a with
      | ⟨b, q, _, _, g, .rows 3 l⟩ => some ((onOf g, b, q, l, i, n, c), [a])
      | _ => none
    | _ => none
  ok := fun (o, b, q, l, i, n, c) h => hasn_ok o b q l i n c h.1 h.2.1 h.2.2
/-- All are numbers. -/
@[irreducible] def alln (A : List Int) : Bool := A.all cn
theorem alln_any (A : List Int) : (!anyF (fun n => !cn n) A) = alln A := by
  unfold anyF alln
  rw [List.not_any_eq_all_not]
  simp
theorem numb_ok (o : Bool) (b q : Nat) (l : List Int) (i n c : Nat) (h : i + n ≤ l.length) (hn : n < 4611686018427387904) (ho : o = false → n = 0 ∧ c = 0) :
    Tells (C := C0) Tryd.prog (.fn 36) [⟨b, q, 1, false, some o, .rows 3 l⟩] [.sl 0 i n c] (.bool (.tm (alln ((l.drop i).take n)))) := by
  refine loc_pc (P := Tryd.prog) (E := ⟨[], [pcHasn], 6, [], [], []⟩) (L := []) mix Tryd.func36 rfl (by kernel_rfl) (by kernel_rfl) rfl rfl ?_
  ((conv => (arg 1; reduce)); with_reducible repeat' (first | exact Tr.yes_h | refine Tr.and_h ?_ ?_ | refine Tr.imp_h fun _ => ?_ | refine Tr.all_h fun _ => ?_ | refine Tr.lf_h ?_))
  all_goals try (first | first | (show Region.lexB _ _ = true; kernel_rfl) | (show planned _ _ = true; kernel_rfl) | exact rfl | exact True.intro | ((try dsimp only [imp, C0, cG, cInt, cPl, cSlot, cPg, rwCodec, cRaw] at *); (try refine inR64 ?_ ?_) <;> (try simp only [List.length_set, List.length_append, List.length_take, List.length_drop]) <;> omega))
  · exact ⟨h, hn, ho⟩
  · exact alln_any _
def pcNumb : Pc Tryd.prog C0 where
  tg := .fn 36
  X := Bool × Nat × Nat × List Int × Nat × Nat × Nat
  args := fun (o, b, q, l, i, n, c) => [.sl 0 i n c]
  mem := fun (o, b, q, l, i, n, c) => [⟨b, q, 1, false, some o, .rows 3 l⟩]
  pre := fun (o, b, q, l, i, n, c) => i + n ≤ l.length ∧ n < 4611686018427387904 ∧ (o = false → n = 0 ∧ c = 0)
  res := fun (o, b, q, l, i, n, c) => .bool (.tm (alln ((l.drop i).take n)))
  mat vs m := match vs with
    | [.sl a i n c] => match nth m a with
      | ⟨b, q, _, _, g, .rows 3 l⟩ => some ((onOf g, b, q, l, i, n, c), [a])
      | _ => none
    | _ => none
  ok := fun (o, b, q, l, i, n, c) h => numb_ok o b q l i n c h.1 h.2.1 h.2.2
theorem blk1_ok (b q : Nat) (s : Slot) (x : Pl) : Tells (C := C0) Tryd.prog (.fn 38) [⟨b, q, 9, false, none, .one (slotE s)⟩] [.agg (plE x), .ptr 0 0 0] (.bool (.tm (decide (x.1 = s.pl.1)))) := by
  refine loc_pc (P := Tryd.prog) (E := ⟨[], [], 10, [], [], []⟩) (L := []) mix Tryd.func38 rfl (by kernel_rfl) (by kernel_rfl) rfl rfl ?_
  ((conv => (arg 1; reduce)); with_reducible repeat' (first | exact Tr.yes_h | refine Tr.and_h ?_ ?_ | refine Tr.imp_h fun _ => ?_ | refine Tr.all_h fun _ => ?_ | refine Tr.lf_h ?_))
  all_goals (first | first | (show Region.lexB _ _ = true; kernel_rfl) | (show planned _ _ = true; kernel_rfl) | exact rfl | exact True.intro | ((try dsimp only [imp, C0, cG, cInt, cPl, cSlot, cPg, rwCodec, cRaw] at *); (try refine inR64 ?_ ?_) <;> (try simp only [List.length_set, List.length_append, List.length_take, List.length_drop]) <;> omega))
def pcBlk1 : Pc Tryd.prog C0 where
  tg := .fn 38
  X := Nat × Nat × Slot × Pl
  args := fun (b, q, s, x) => [.agg (plE x), .ptr 0 0 0]
  mem := fun (b, q, s, x) => [⟨b, q, 9, false, none, .one (slotE s)⟩]
  pre _ := True
  res := fun (b, q, s, x) => .bool (.tm (decide (x.1 = s.pl.1)))
  mat vs m := match vs with
    | [.agg [.int _ x1, .int _ x2], .ptr a _ _] => match nth m a with
      | ⟨b, q, _, _, _, .one [.int _ k, .int _ p1, .int _ p2, .int _ m1, .int _ m2, .int _ m3, .int _ m4, .int _ m5, .int _ m6]⟩ => some ((b, q, ⟨k, (p1, p2), ⟨m1, m2, m3, m4, m5, m6⟩⟩, (x1, x2)), [a])
      | _ => none
    | _ => none
  ok := fun (b, q, s, x) _ => blk1_ok b q s x
theorem ixb_ok (b0 q0 : Nat) (s : Slot) (o : Bool) (b q : Nat) (l : List Pl) (i n c : Nat) (h : i + n ≤ l.length) (hn : n < 4611686018427387904) (ho : o = false → n = 0 ∧ c = 0) :
    Tells (C := C0) Tryd.prog (.fn 61) [⟨b, q, 2, false, some o, .rows 87 l⟩, ⟨b0, q0, 9, false, none, .one (slotE s)⟩] [.sl 0 i n c, .fn (.func 38) [] [.ptr 1 0 0]] (.int .i64 (ixF (fun x => decide (x.1 = s.pl.1)) ((l.drop i).take n))) := by
  have hL := rows_len h
  refine loc_pc (P := Tryd.prog) (E := ⟨[], [pcBlk1], 19, [], [], []⟩) (L := [Ix (fun x => decide (x.1 = s.pl.1)) ((l.drop i).take n)]) mix Tryd.func61 rfl (by kernel_rfl) (by kernel_rfl) rfl rfl ?_
  ((conv => (arg 1; reduce)); with_reducible repeat' (first | exact Tr.yes_h | refine Tr.and_h ?_ ?_ | refine Tr.imp_h fun _ => ?_ | refine Tr.all_h fun _ => ?_ | refine Tr.lf_h ?_))
  all_goals try (first | (first | first | (show Region.lexB _ _ = true; kernel_rfl) | (show planned _ _ = true; kernel_rfl) | exact rfl | exact True.intro | ((try dsimp only [imp, C0, cG, cInt, cPl, cSlot, cPg, rwCodec, cRaw] at *); (try refine inR64 ?_ ?_) <;> (try simp only [List.length_set, List.length_append, List.length_take, List.length_drop]) <;> omega)) | ((try dsimp only [imp, C0, cG, cInt, cPl, cSlot, cPg, rwCodec, cRaw, Ix] at *); (try simp only [decide_eq_true_eq, decide_eq_false_iff_not, Bool.and_eq_true, Bool.or_eq_true, Bool.or_eq_false_iff, Bool.and_eq_false_iff, Bool.not_eq_true', Bool.not_eq_false', SB.val, List.length_append, List.length_cons, List.length_nil, List.length_take, List.length_drop] at *); (first | omega | exact inR64 (by omega) (by omega) | (refine inR64 ?_ ?_ <;> omega))) | (refine on_of ho ?_; ((try dsimp only [imp, C0, cG, cInt, cPl, cSlot, cPg, rwCodec, cRaw, Ix] at *); (try simp only [decide_eq_true_eq, decide_eq_false_iff_not, Bool.and_eq_true, Bool.or_eq_true, Bool.or_eq_false_iff, Bool.and_eq_false_iff, Bool.not_eq_true', Bool.not_eq_false', SB.val, List.length_append, List.length_cons, List.length_nil, List.length_take, List.length_drop] at *); (first | omega | exact inR64 (by omega) (by omega) | (refine inR64 ?_ ?_ <;> omega)))))
  · refine Stands.one (0 : Nat) ⟨⟨Nat.zero_le _, anyF_zero⟩, ?_⟩
    ((conv => (arg 1; reduce)); with_reducible repeat' (first | exact Tr.yes_h | refine Tr.and_h ?_ ?_ | refine Tr.imp_h fun _ => ?_ | refine Tr.all_h fun _ => ?_ | refine Tr.lf_h ?_))
    all_goals (first | first | (show Region.lexB _ _ = true; kernel_rfl) | (show planned _ _ = true; kernel_rfl) | exact rfl | exact True.intro | ((try dsimp only [imp, C0, cG, cInt, cPl, cSlot, cPg, rwCodec, cRaw] at *); (try refine inR64 ?_ ?_) <;> (try simp only [List.length_set, List.length_append, List.length_take, List.length_drop]) <;> omega))
  · rename_i v hv h1 h2
    change Nat at v
    obtain ⟨e1, e2⟩ := hv
    have h1 : v < n := by have := of_decide_eq_true h1; omega
    refine (ixF_at (d := (0, 0)) (by rw [hL]; exact h1) e2 ?_).symm
    rw [rows_at h1]
    exact h2
  · rename_i v hv h1 h2
    change Nat at v
    obtain ⟨e1, e2⟩ := hv
    have h1 : v < n := by have := of_decide_eq_true h1; omega
    refine Stands.one (v + 1 : Nat) ⟨⟨by rw [hL]; exact h1, ?_⟩, ?_, ?_⟩
    · show anyF _ (((l.drop i).take n).take (v + 1)) = false
      rw [anyF_snoc (d := (0, 0)) (by rw [hL]; exact h1), e2, rows_at h1]
      exact h2
    · show ((l.drop i).take n).length - (v + 1) < ((l.drop i).take n).length - v
      rw [hL]; omega
    ((conv => (arg 1; reduce)); with_reducible repeat' (first | exact Tr.yes_h | refine Tr.and_h ?_ ?_ | refine Tr.imp_h fun _ => ?_ | refine Tr.all_h fun _ => ?_ | refine Tr.lf_h ?_))
    all_goals (first | first | (show Region.lexB _ _ = true; kernel_rfl) | (show planned _ _ = true; kernel_rfl) | exact rfl | exact True.intro | ((try dsimp only [imp, C0, cG, cInt, cPl, cSlot, cPg, rwCodec, cRaw] at *); (try refine inR64 ?_ ?_) <;> (try simp only [List.length_set, List.length_append, List.length_take, List.length_drop]) <;> omega))
  · rename_i v hv h1
    change Nat at v
    obtain ⟨e1, e2⟩ := hv
    have h1 : ¬ v < n := by have := of_decide_eq_false h1; omega
    rw [List.take_of_length_le (by rw [hL]; omega)] at e2
    exact (ixF_no e2).symm
def pcIxb : Pc Tryd.prog C0 where
  tg := .fn 61
  X := Nat × Nat × Slot × Bool × Nat × Nat × List Pl × Nat × Nat × Nat
  args := fun (b0, q0, s, o, b, q, l, i, n, c) => [.sl 0 i n c, .fn (.func 38) [] [.ptr 1 0 0]]
  mem := fun (b0, q0, s, o, b, q, l, i, n, c) => [⟨b, q, 2, false, some o, .rows 87 l⟩, ⟨b0, q0, 9, false, none, .one (slotE s)⟩]
  pre := fun (b0, q0, s, o, b, q, l, i, n, c) => i + n ≤ l.length ∧ n < 4611686018427387904 ∧ (o = false → n = 0 ∧ c = 0)
  res := fun (b0, q0, s, o, b, q, l, i, n, c) => .int .i64 (ixF (fun x => decide (x.1 = s.pl.1)) ((l.drop i).take n))
  mat vs m := match vs with
    | [.sl a i n c, .fn _ _ [.ptr a2 _ _]] => match nth m a, nth m a2 with
      | ⟨b, q, _, _, g, .rows 87 l⟩, ⟨b0, q0, _, _, _, .one [.int _ k, .int _ p1, .int _ p2, .int _ m1, .int _ m2, .int _ m3, .int _ m4, .int _ m5, .int _ m6]⟩ => some ((b0, q0, ⟨k, (p1, p2), ⟨m1, m2, m3, m4, m5, m6⟩⟩, onOf g, b, q, l, i, n, c), [a, a2])
      | _, _ => none
    | [.nils, .fn _ _ [.ptr a2 _ _]] => match nth m a2 with
      | ⟨b0, q0, _, _, _, .one [.int _ k, .int _ p1, .int _ p2, .int _ m1, .int _ m2, .int _ m3, .int _ m4, .int _ m5, .int _ m6]⟩ => some ((b0, q0, ⟨k, (p1, p2), ⟨m1, m2, m3, m4, m5, m6⟩⟩, false, 0, 0, [], 0, 0, 0), [m.length, a2])
      | _ => none
    | _ => none
  ok := fun (b0, q0, s, o, b, q, l, i, n, c) h => ixb_ok b0 q0 s o b q l i n c h.1 h.2.1 h.2.2
theorem hasb_ok (b0 q0 : Nat) (s : Slot) (o : Bool) (b q : Nat) (l : List Pl) (i n c : Nat) (h : i + n ≤ l.length) (hn : n < 4611686018427387904) (ho : o = false → n = 0 ∧ c = 0) :
    Tells (C := C0) Tryd.prog (.fn 37) [⟨b, q, 2, false, some o, .rows 87 l⟩, ⟨b0, q0, 9, false, none, .one (slotE s)⟩] [.sl 0 i n c, .fn (.func 38) [] [.ptr 1 0 0]] (.bool (.tm (anyF (fun x => decide (x.1 = s.pl.1)) ((l.drop i).take n)))) := by
  refine loc_pc (P := Tryd.prog) (E := ⟨[], [pcIxb], 9, [], [], []⟩) (L := []) mix Tryd.func37 rfl (by kernel_rfl) (by kernel_rfl) rfl rfl ?_
  ((conv => (arg 1; reduce)); with_reducible repeat' (first | exact Tr.yes_h | refine Tr.and_h ?_ ?_ | refine Tr.imp_h fun _ => ?_ | refine Tr.all_h fun _ => ?_ | refine Tr.lf_h ?_))
  all_goals try (first | first | (show Region.lexB _ _ = true; kernel_rfl) | (show planned _ _ = true; kernel_rfl) | exact rfl | exact True.intro | ((try dsimp only [imp, C0, cG, cInt, cPl, cSlot, cPg, rwCodec, cRaw] at *); (try refine inR64 ?_ ?_) <;> (try simp only [List.length_set, List.length_append, List.length_take, List.length_drop]) <;> omega))
  · exact ⟨h, hn, ho⟩
  · exact ixF_ge
def pcHasb : Pc Tryd.prog C0 where
  tg := .fn 37
  X := Nat × Nat × Slot × Bool × Nat × Nat × List Pl × Nat × Nat × Nat
  args := fun (b0, q0, s, o, b, q, l, i, n, c) => [.sl 0 i n c, .fn (.func 38) [] [.ptr 1 0 0]]
  mem := fun (b0, q0, s, o, b, q, l, i, n, c) => [⟨b, q, 2, false, some o, .rows 87 l⟩, ⟨b0, q0, 9, false, none, .one (slotE s)⟩]
  pre := fun (b0, q0, s, o, b, q, l, i, n, c) => i + n ≤ l.length ∧ n < 4611686018427387904 ∧ (o = false → n = 0 ∧ c = 0)
  res := fun (b0, q0, s, o, b, q, l, i, n, c) => .bool (.tm (anyF (fun x => decide (x.1 = s.pl.1)) ((l.drop i).take n)))
  mat vs m := match vs with
    | [.sl a i n c, .fn _ _ [.ptr a2 _ _]] => match nth m a, nth m a2 with
      | ⟨b, q, _, _, g, .rows 87 l⟩, ⟨b0, q0, _, _, _, .one [.int _ k, .int _ p1, .int _ p2, .int _ m1, .int _ m2, .int _ m3, .int _ m4, .int _ m5, .int _ m6]⟩ => some ((b0, q0, ⟨k, (p1, p2), ⟨m1, m2, m3, m4, m5, m6⟩⟩, onOf g, b, q, l, i, n, c), [a, a2])
      | _, _ => none
    | [.nils, .fn _ _ [.ptr a2 _ _]] => match nth m a2 with
      | ⟨b0, q0, _, _, _, .one [.int _ k, .int _ p1, .int _ p2, .int _ m1, .int _ m2, .int _ m3, .int _ m4, .int _ m5, .int _ m6]⟩ => some ((b0, q0, ⟨k, (p1, p2), ⟨m1, m2, m3, m4, m5, m6⟩⟩, false, 0, 0, [], 0, 0, 0), [m.length, a2])
      | _ => none
    | _ => none
  ok := fun (b0, q0, s, o, b, q, l, i, n, c) h => hasb_ok b0 q0 s o b q l i n c h.1 h.2.1 h.2.2
end Go.Vx
set_option linter.unusedSectionVars false
set_option maxRecDepth 100000
set_option linter.unusedVariables false
set_option linter.unusedSimpArgs false
namespace Go.Vx
open Go Go.Proofs
variable [Gl]

abbrev fs6 : List Nat := [83, 84, 85, 86, 87, 88]
theorem fields_ok : Does (C := C0) Tryd.prog (.fn 62) [] [] [⟨Nat, fun _ => True, fun _ => .sl 0 0 6 6, fun b => [⟨b, 0, 1, true, none, .rows 127 fs6⟩]⟩] := by
  refine loc_fn (P := Tryd.prog) (E := ⟨[], [], 2, [], [], []⟩) (L := []) mix Tryd.func62 rfl (by kernel_rfl) (by kernel_rfl) rfl rfl ?_
  ((conv => (arg 1; reduce)); with_reducible repeat' (first | exact Tr.yes_h | refine Tr.and_h ?_ ?_ | refine Tr.imp_h fun _ => ?_ | refine Tr.all_h fun _ => ?_ | refine Tr.lf_h ?_))
  all_goals try (first | first | (show Region.lexB _ _ = true; kernel_rfl) | (show planned _ _ = true; kernel_rfl) | exact rfl | exact True.intro | ((try dsimp only [imp, C0, cG, cInt, cPl, cSlot, cPg, rwCodec, cRaw] at *); (try refine inR64 ?_ ?_) <;> (try simp only [List.length_set, List.length_append, List.length_take, List.length_drop]) <;> omega))
  all_goals rename_i b
  all_goals refine Ends.one b trivial ?_
  all_goals ((conv => (arg 1; reduce)); with_reducible repeat' (first | exact Tr.yes_h | refine Tr.and_h ?_ ?_ | refine Tr.imp_h fun _ => ?_ | refine Tr.all_h fun _ => ?_ | refine Tr.lf_h ?_))
  all_goals (first | first | (show Region.lexB _ _ = true; kernel_rfl) | (show planned _ _ = true; kernel_rfl) | exact rfl | exact True.intro | ((try dsimp only [imp, C0, cG, cInt, cPl, cSlot, cPg, rwCodec, cRaw] at *); (try refine inR64 ?_ ?_) <;> (try simp only [List.length_set, List.length_append, List.length_take, List.length_drop]) <;> omega))
def fcFields : Fc Tryd.prog C0 where
  tg := .fn 62
  X := Unit
  args _ := []
  mem _ := []
  pre _ := True
  alts _ := [⟨Nat, fun _ => True, fun _ => .sl 0 0 6 6, fun b => [⟨b, 0, 1, true, none, .rows 127 fs6⟩]⟩]
  mat _ _ := some ((), [])
  ok _ _ := fields_ok
theorem fld0_ok (b q : Nat) (m : Me) : Tells (C := C0) Tryd.prog (.fn 83) [⟨b, q, 6, false, none, .one (meE m)⟩] [.ptr 0 0 0] (.ptr 0 0 0) := by
  refine loc_pc (P := Tryd.prog) (E := ⟨[], [], 7, [], [], []⟩) (L := []) mix Tryd.func83 rfl (by kernel_rfl) (by kernel_rfl) rfl rfl ?_
  ((conv => (arg 1; reduce)); with_reducible repeat' (first | exact Tr.yes_h | refine Tr.and_h ?_ ?_ | refine Tr.imp_h fun _ => ?_ | refine Tr.all_h fun _ => ?_ | refine Tr.lf_h ?_))
  all_goals (first | first | (show Region.lexB _ _ = true; kernel_rfl) | (show planned _ _ = true; kernel_rfl) | exact rfl | exact True.intro | ((try dsimp only [imp, C0, cG, cInt, cPl, cSlot, cPg, rwCodec, cRaw] at *); (try refine inR64 ?_ ?_) <;> (try simp only [List.length_set, List.length_append, List.length_take, List.length_drop]) <;> omega))
def pcFld0 : Pc Tryd.prog C0 where
  tg := .fn 83
  X := Nat × Nat × Me
  args := fun (b, q, m) => [.ptr 0 0 0]
  mem := fun (b, q, m) => [⟨b, q, 6, false, none, .one (meE m)⟩]
  pre _ := True
  res := fun (b, q, m) => .ptr 0 0 0
  mat vs m := match vs with
    | [.ptr a _ _] => match nth m a with
      | ⟨b, q, _, _, _, .one [.int _ m1, .int _ m2, .int _ m3, .int _ m4, .int _ m5, .int _ m6]⟩ => some ((b, q, ⟨m1, m2, m3, m4, m5, m6⟩), [a])
      | _ => none
    | _ => none
  ok := fun (b, q, m) _ => fld0_ok b q m
theorem fld1_ok (b q : Nat) (m : Me) : Tells (C := C0) Tryd.prog (.fn 84) [⟨b, q, 6, false, none, .one (meE m)⟩] [.ptr 0 0 0] (.ptr 0 0 1) := by
  refine loc_pc (P := Tryd.prog) (E := ⟨[], [], 7, [], [], []⟩) (L := []) mix Tryd.func84 rfl (by kernel_rfl) (by kernel_rfl) rfl rfl ?_
  ((conv => (arg 1; reduce)); with_reducible repeat' (first | exact Tr.yes_h | refine Tr.and_h ?_ ?_ | refine Tr.imp_h fun _ => ?_ | refine Tr.all_h fun _ => ?_ | refine Tr.lf_h ?_))
  all_goals (first | first | (show Region.lexB _ _ = true; kernel_rfl) | (show planned _ _ = true; kernel_rfl) | exact rfl | exact True.intro | ((try dsimp only [imp, C0, cG, cInt, cPl, cSlot, cPg, rwCodec, cRaw] at *); (try refine inR64 ?_ ?_) <;> (try simp only [List.length_set, List.length_append, List.length_take, List.length_drop]) <;> omega))
def pcFld1 : Pc Tryd.prog C0 where
  tg := .fn 84
  X := Nat × Nat × Me
  args := fun (b, q, m) => [.ptr 0 0 0]
  mem := fun (b, q, m) => [⟨b, q, 6, false, none, .one (meE m)⟩]
  pre _ := True
  res := fun (b, q, m) => .ptr 0 0 1
  mat vs m := match vs with
    | [.ptr a _ _] => match nth m a with
      | ⟨b, q, _, _, _, .one [.int _ m1, .int _ m2, .int _ m3, .int _ m4, .int _ m5, .int _ m6]⟩ => some ((b, q, ⟨m1, m2, m3, m4, m5, m6⟩), [a])
      | _ => none
    | _ => none
  ok := fun (b, q, m) _ => fld1_ok b q m
theorem fld2_ok (b q : Nat) (m : Me) : Tells (C := C0) Tryd.prog (.fn 85) [⟨b, q, 6, false, none, .one (meE m)⟩] [.ptr 0 0 0] (.ptr 0 0 2) := by
  refine loc_pc (P := Tryd.prog) (E := ⟨[], [], 7, [], [], []⟩) (L := []) mix Tryd.func85 rfl (by kernel_rfl) (by kernel_rfl) rfl rfl ?_
  ((conv => (arg 1; reduce)); with_reducible repeat' (first | exact Tr.yes_h | refine Tr.and_h ?_ ?_ | refine Tr.imp_h fun _ => ?_ | refine Tr.all_h fun _ => ?_ | refine Tr.lf_h ?_))
  all_goals (first | first | (show Region.lexB _ _ = true; kernel_rfl) | (show planned _ _ = true; kernel_rfl) | exact rfl | exact True.intro | ((try dsimp only [imp, C0, cG, cInt, cPl, cSlot, cPg, rwCodec, cRaw] at *); (try refine inR64 ?_ ?_) <;> (try simp only [List.length_set, List.length_append, List.length_take, List.length_drop]) <;> omega))
def pcFld2 : Pc Tryd.prog C0 where
  tg := .fn 85
  X := Nat × Nat × Me
  args := fun (b, q, m) => [.ptr 0 0 0]
  mem := fun (b, q, m) => [⟨b, q, 6, false, none, .one (meE m)⟩]
  pre _ := True
  res := fun (b, q, m) => .ptr 0 0 2
  mat vs m := match vs with
    | [.ptr a _ _] => match nth m a with
      | ⟨b, q, _, _, _, .one [.int _ m1, .int _ m2, .int _ m3, .int _ m4, .int _ m5, .int _ m6]⟩ => some ((b, q, ⟨m1, m2, m3, m4, m5, m6⟩), [a])
      | _ => none
    | _ => none
  ok := fun (b, q, m) _ => fld2_ok b q m
theorem fld3_ok (b q : Nat) (m : Me) : Tells (C := C0) Tryd.prog (.fn 86) [⟨b, q, 6, false, none, .one (meE m)⟩] [.ptr 0 0 0] (.ptr 0 0 3) := by
  refine loc_pc (P := Tryd.prog) (E := ⟨[], [], 7, [], [], []⟩) (L := []) mix Tryd.func86 rfl (by kernel_rfl) (by kernel_rfl) rfl rfl ?_
  ((conv => (arg 1; reduce)); with_reducible repeat' (first | exact Tr.yes_h | refine Tr.and_h ?_ ?_ | refine Tr.imp_h fun _ => ?_ | refine Tr.all_h fun _ => ?_ | refine Tr.lf_h ?_))
  all_goals (first | first | (show Region.lexB _ _ = true; kernel_rfl) | (show planned _ _ = true; kernel_rfl) | exact rfl | exact True.intro | ((try dsimp only [imp, C0, cG, cInt, cPl, cSlot, cPg, rwCodec, cRaw] at *); (try refine inR64 ?_ ?_) <;> (try simp only [List.length_set, List.length_append, List.length_take, List.length_drop]) <;> omega))
def pcFld3 : Pc Tryd.prog C0 where
  tg := .fn 86
  X := Nat × Nat × Me
  args := fun (b, q, m) => [.ptr 0 0 0]
  mem := fun (b, q, m) => [⟨b, q, 6, false, none, .one (meE m)⟩]
  pre _ := True
  res := fun (b, q, m) => .ptr 0 0 3
  mat vs m := match vs with
    | [.ptr a _ _] => match nth m a with
      | ⟨b, q, _, _, _, .one [.int _ m1, .int _ m2, .int _ m3, .int _ m4, .int _ m5, .int _ m6]⟩ => some ((b, q, ⟨m1, m2, m3, m4, m5, m6⟩), [a])
      | _ => none
    | _ => none
  ok := fun (b, q, m) _ => fld3_ok b q m
theorem fld4_ok (b q : Nat) (m : Me) : Tells (C := C0) Tryd.prog (.fn 87) [⟨b, q, 6, false, none, .one (meE m)⟩] [.ptr 0 0 0] (.ptr 0 0 4) := by
  refine loc_pc (P := Tryd.prog) (E := ⟨[], [], 7, [], [], []⟩) (L := []) mix Tryd.func87 rfl (by kernel_rfl) (by kernel_rfl) rfl rfl ?_
  ((conv => (arg 1; reduce)); with_reducible repeat' (first | exact Tr.yes_h | refine Tr.and_h ?_ ?_ | refine Tr.imp_h fun _ => ?_ | refine Tr.all_h fun _ => ?_ | refine Tr.lf_h ?_))
  all_goals (first | first | (show Region.lexB _ _ = true; kernel_rfl) | (show planned _ _ = true; kernel_rfl) | exact rfl | exact True.intro | ((try dsimp only [imp, C0, cG, cInt, cPl, cSlot, cPg, rwCodec, cRaw] at *); (try refine inR64 ?_ ?_) <;> (try simp only [List.length_set, List.length_append, List.length_take, List.length_drop]) <;> omega))
def pcFld4 : Pc Tryd.prog C0 where
  tg := .fn 87
  X := Nat × Nat × Me
  args := fun (b, q, m) => [.ptr 0 0 0]
  mem := fun (b, q, m) => [⟨b, q, 6, false, none, .one (meE m)⟩]
  pre _ := True
  res := fun (b, q, m) => .ptr 0 0 4
  mat vs m := match vs with
    | [.ptr a _ _] => match nth m a with
      | ⟨b, q, _, _, _, .one [.int _ m1, .int _ m2, .int _ m3, .int _ m4, .int _ m5, .int _ m6]⟩ => some ((b, q, ⟨m1, m2, m3, m4, m5, m6⟩), [a])
      | _ => none
    | _ => none
  ok := fun (b, q, m) _ => fld4_ok b q m
theorem fld5_ok (b q : Nat) (m : Me) : Tells (C := C0) Tryd.prog (.fn 88) [⟨b, q, 6, false, none, .one (meE m)⟩] [.ptr 0 0 0] (.ptr 0 0 5) := by
  refine loc_pc (P := Tryd.prog) (E := ⟨[], [], 7, [], [], []⟩) (L := []) mix Tryd.func88 rfl (by kernel_rfl) (by kernel_rfl) rfl rfl ?_
  ((conv => (arg 1; reduce)); with_reducible repeat' (first | exact Tr.yes_h | refine Tr.and_h ?_ ?_ | refine Tr.imp_h fun _ => ?_ | refine Tr.all_h fun _ => ?_ | refine Tr.lf_h ?_))
  all_goals (first | first | (show Region.lexB _ _ = true; kernel_rfl) | (show planned _ _ = true; kernel_rfl) | exact rfl | exact True.intro | ((try dsimp only [imp, C0, cG, cInt, cPl, cSlot, cPg, rwCodec, cRaw] at *); (try refine inR64 ?_ ?_) <;> (try simp only [List.length_set, List.length_append, List.length_take, List.length_drop]) <;> omega))
def pcFld5 : Pc Tryd.prog C0 where
  tg := .fn 88
  X := Nat × Nat × Me
  args := fun (b, q, m) => [.ptr 0 0 0]
  mem := fun (b, q, m) => [⟨b, q, 6, false, none, .one (meE m)⟩]
  pre _ := True
  res := fun (b, q, m) => .ptr 0 0 5
  mat vs m := match vs with
    | [.ptr a _ _] => match nth m a with
      | ⟨b, q, _, _, _, .one [.int _ m1, .int _ m2, .int _ m3, .int _ m4, .int _ m5, .int _ m6]⟩ => some ((b, q, ⟨m1, m2, m3, m4, m5, m6⟩), [a])
      | _ => none
    | _ => none
  ok := fun (b, q, m) _ => fld5_ok b q m
/-- The round of a field: those ahead may be. -/
def Fl (k : Nat) (p : Prop) : Inv' C0 := ⟨3, Unit, fun _ => [(11, .int .i64 (k : Nat))], fun _ m => m, fun _ => p, fun _ => 6 - k⟩
theorem or_no {x : Int} (h : (decide (x < 0) || decide (1073741824 < x)) = true) : cn x = false := by
  cases hc : cn x with
  | false => rfl
  | true =>
    have := cn_iff.1 hc
    simp only [Bool.or_eq_true, decide_eq_true_iff] at h
    omega
theorem or_yes {x : Int} (h : (decide (x < 0) || decide (1073741824 < x)) = false) : cn x = true := by
  rw [cn_iff]
  simp only [Bool.or_eq_false_iff, decide_eq_false_iff_not] at h
  omega
theorem kind_no {m : Me} (h : cn m.kind = false) : (decide (1 ≤ m.kind) && decide (m.kind ≤ 6)) = false := by
  cases hc : (decide (1 ≤ m.kind) && decide (m.kind ≤ 6)) with
  | false => rfl
  | true =>
    simp only [Bool.and_eq_true, decide_eq_true_iff] at hc
    rw [cn_iff.2 ⟨by omega, by omega⟩] at h
    cases h
theorem may_ok (m : Me) : Tells (C := C0) Tryd.prog (.fn 39) [] [.agg (meE m)] (.bool (.tm (okMe m))) := by
  refine loc_pc (P := Tryd.prog) (E := ⟨[fcFields], [pcFld0, pcFld1, pcFld2, pcFld3, pcFld4, pcFld5], 38, [], [], []⟩) (L := [Fl 0 True, Fl 1 (cn m.kind = true), Fl 2 (cn m.kind = true ∧ cn m.key = true), Fl 3 (cn m.kind = true ∧ cn m.key = true ∧ cn m.seq = true), Fl 4 (cn m.kind = true ∧ cn m.key = true ∧ cn m.seq = true ∧ cn m.stamp = true), Fl 5 (cn m.kind = true ∧ cn m.key = true ∧ cn m.seq = true ∧ cn m.stamp = true ∧ cn m.batch = true), Fl 6 (cn m.kind = true ∧ cn m.key = true ∧ cn m.seq = true ∧ cn m.stamp = true ∧ cn m.batch = true ∧ cn m.floor = true)]) mix Tryd.func39 rfl (by kernel_rfl) (by kernel_rfl) rfl rfl ?_
  ((conv => (arg 1; reduce)); with_reducible repeat' (first | exact Tr.yes_h | refine Tr.and_h ?_ ?_ | refine Tr.imp_h fun _ => ?_ | refine Tr.all_h fun _ => ?_ | refine Tr.lf_h ?_))
  all_goals try (first | first | (show Region.lexB _ _ = true; kernel_rfl) | (show planned _ _ = true; kernel_rfl) | exact rfl | exact True.intro | ((try dsimp only [imp, C0, cG, cInt, cPl, cSlot, cPg, rwCodec, cRaw] at *); (try refine inR64 ?_ ?_) <;> (try simp only [List.length_set, List.length_append, List.length_take, List.length_drop]) <;> omega))
  all_goals try exact absurd (by with_reducible assumption : decide (((6 : Nat) : Int) < ((6 : Nat) : Int)) = true) (by decide)
  all_goals try exact absurd (by with_reducible assumption : decide (((0 : Nat) : Int) < ((6 : Nat) : Int)) = false) (by decide)
  all_goals try exact absurd (by with_reducible assumption : decide (((1 : Nat) : Int) < ((6 : Nat) : Int)) = false) (by decide)
  all_goals try exact absurd (by with_reducible assumption : decide (((2 : Nat) : Int) < ((6 : Nat) : Int)) = false) (by decide)
  all_goals try exact absurd (by with_reducible assumption : decide (((3 : Nat) : Int) < ((6 : Nat) : Int)) = false) (by decide)
  all_goals try exact absurd (by with_reducible assumption : decide (((4 : Nat) : Int) < ((6 : Nat) : Int)) = false) (by decide)
  all_goals try exact absurd (by with_reducible assumption : decide (((5 : Nat) : Int) < ((6 : Nat) : Int)) = false) (by decide)
  · refine Stands.one () ⟨trivial, ?_⟩
    ((conv => (arg 1; reduce)); with_reducible repeat' (first | exact Tr.yes_h | refine Tr.and_h ?_ ?_ | refine Tr.imp_h fun _ => ?_ | refine Tr.all_h fun _ => ?_ | refine Tr.lf_h ?_))
    all_goals (first | first | (show Region.lexB _ _ = true; kernel_rfl) | (show planned _ _ = true; kernel_rfl) | exact rfl | exact True.intro | ((try dsimp only [imp, C0, cG, cInt, cPl, cSlot, cPg, rwCodec, cRaw] at *); (try refine inR64 ?_ ?_) <;> (try simp only [List.length_set, List.length_append, List.length_take, List.length_drop]) <;> omega))
  · exact (by decide : 0 < 6)
  · rename_i v hv h1 h2
    have h2 := or_no h2
    show false = okMe m
    simp [okMe, kind_no h2]
  · rename_i v hv h1 h2
    refine Stands.next (Stands.one () ⟨?_, ?_, ?_⟩)
    · exact or_yes h2
    · exact (by decide : 6 - 1 < 6 - 0)
    ((conv => (arg 1; reduce)); with_reducible repeat' (first | exact Tr.yes_h | refine Tr.and_h ?_ ?_ | refine Tr.imp_h fun _ => ?_ | refine Tr.all_h fun _ => ?_ | refine Tr.lf_h ?_))
    all_goals (first | first | (show Region.lexB _ _ = true; kernel_rfl) | (show planned _ _ = true; kernel_rfl) | exact rfl | exact True.intro | ((try dsimp only [imp, C0, cG, cInt, cPl, cSlot, cPg, rwCodec, cRaw] at *); (try refine inR64 ?_ ?_) <;> (try simp only [List.length_set, List.length_append, List.length_take, List.length_drop]) <;> omega))
  · exact (by decide : 1 < 6)
  · rename_i v hv h1 h2
    have h2 := or_no h2
    show false = okMe m
    simp [okMe, h2]
  · rename_i v hv h1 h2
    refine Stands.next (Stands.next (Stands.one () ⟨?_, ?_, ?_⟩))
    · exact ⟨hv, or_yes h2⟩
    · exact (by decide : 6 - 2 < 6 - 1)
    ((conv => (arg 1; reduce)); with_reducible repeat' (first | exact Tr.yes_h | refine Tr.and_h ?_ ?_ | refine Tr.imp_h fun _ => ?_ | refine Tr.all_h fun _ => ?_ | refine Tr.lf_h ?_))
    all_goals (first | first | (show Region.lexB _ _ = true; kernel_rfl) | (show planned _ _ = true; kernel_rfl) | exact rfl | exact True.intro | ((try dsimp only [imp, C0, cG, cInt, cPl, cSlot, cPg, rwCodec, cRaw] at *); (try refine inR64 ?_ ?_) <;> (try simp only [List.length_set, List.length_append, List.length_take, List.length_drop]) <;> omega))
  · exact (by decide : 2 < 6)
  · rename_i v hv h1 h2
    have h2 := or_no h2
    show false = okMe m
    simp [okMe, h2]
  · rename_i v hv h1 h2
    refine Stands.next (Stands.next (Stands.next (Stands.one () ⟨?_, ?_, ?_⟩)))
    · exact ⟨hv.1, hv.2, or_yes h2⟩
    · exact (by decide : 6 - 3 < 6 - 2)
    ((conv => (arg 1; reduce)); with_reducible repeat' (first | exact Tr.yes_h | refine Tr.and_h ?_ ?_ | refine Tr.imp_h fun _ => ?_ | refine Tr.all_h fun _ => ?_ | refine Tr.lf_h ?_))
    all_goals (first | first | (show Region.lexB _ _ = true; kernel_rfl) | (show planned _ _ = true; kernel_rfl) | exact rfl | exact True.intro | ((try dsimp only [imp, C0, cG, cInt, cPl, cSlot, cPg, rwCodec, cRaw] at *); (try refine inR64 ?_ ?_) <;> (try simp only [List.length_set, List.length_append, List.length_take, List.length_drop]) <;> omega))
  · exact (by decide : 3 < 6)
  · rename_i v hv h1 h2
    have h2 := or_no h2
    show false = okMe m
    simp [okMe, h2]
  · rename_i v hv h1 h2
    refine Stands.next (Stands.next (Stands.next (Stands.next (Stands.one () ⟨?_, ?_, ?_⟩))))
    · exact ⟨hv.1, hv.2.1, hv.2.2, or_yes h2⟩
    · exact (by decide : 6 - 4 < 6 - 3)
    ((conv => (arg 1; reduce)); with_reducible repeat' (first | exact Tr.yes_h | refine Tr.and_h ?_ ?_ | refine Tr.imp_h fun _ => ?_ | refine Tr.all_h fun _ => ?_ | refine Tr.lf_h ?_))
    all_goals (first | first | (show Region.lexB _ _ = true; kernel_rfl) | (show planned _ _ = true; kernel_rfl) | exact rfl | exact True.intro | ((try dsimp only [imp, C0, cG, cInt, cPl, cSlot, cPg, rwCodec, cRaw] at *); (try refine inR64 ?_ ?_) <;> (try simp only [List.length_set, List.length_append, List.length_take, List.length_drop]) <;> omega))
  · exact (by decide : 4 < 6)
  · rename_i v hv h1 h2
    have h2 := or_no h2
    show false = okMe m
    simp [okMe, h2]
  · rename_i v hv h1 h2
    refine Stands.next (Stands.next (Stands.next (Stands.next (Stands.next (Stands.one () ⟨?_, ?_, ?_⟩)))))
    · exact ⟨hv.1, hv.2.1, hv.2.2.1, hv.2.2.2, or_yes h2⟩
    · exact (by decide : 6 - 5 < 6 - 4)
    ((conv => (arg 1; reduce)); with_reducible repeat' (first | exact Tr.yes_h | refine Tr.and_h ?_ ?_ | refine Tr.imp_h fun _ => ?_ | refine Tr.all_h fun _ => ?_ | refine Tr.lf_h ?_))
    all_goals (first | first | (show Region.lexB _ _ = true; kernel_rfl) | (show planned _ _ = true; kernel_rfl) | exact rfl | exact True.intro | ((try dsimp only [imp, C0, cG, cInt, cPl, cSlot, cPg, rwCodec, cRaw] at *); (try refine inR64 ?_ ?_) <;> (try simp only [List.length_set, List.length_append, List.length_take, List.length_drop]) <;> omega))
  · exact (by decide : 5 < 6)
  · rename_i v hv h1 h2
    have h2 := or_no h2
    show false = okMe m
    simp [okMe, h2]
  · rename_i v hv h1 h2
    refine Stands.next (Stands.next (Stands.next (Stands.next (Stands.next (Stands.next (Stands.one () ⟨?_, ?_, ?_⟩))))))
    · exact ⟨hv.1, hv.2.1, hv.2.2.1, hv.2.2.2.1, hv.2.2.2.2, or_yes h2⟩
    · exact (by decide : 6 - 6 < 6 - 5)
    ((conv => (arg 1; reduce)); with_reducible repeat' (first | exact Tr.yes_h | refine Tr.and_h ?_ ?_ | refine Tr.imp_h fun _ => ?_ | refine Tr.all_h fun _ => ?_ | refine Tr.lf_h ?_))
    all_goals (first | first | (show Region.lexB _ _ = true; kernel_rfl) | (show planned _ _ = true; kernel_rfl) | exact rfl | exact True.intro | ((try dsimp only [imp, C0, cG, cInt, cPl, cSlot, cPg, rwCodec, cRaw] at *); (try refine inR64 ?_ ?_) <;> (try simp only [List.length_set, List.length_append, List.length_take, List.length_drop]) <;> omega))
  · rename_i v hv h1
    obtain ⟨e1, e2, e3, e4, e5, e6⟩ := hv
    show (decide (1 ≤ m.kind) && decide (m.kind ≤ 6)) = okMe m
    simp [okMe, e1, e2, e3, e4, e5, e6]
def pcMay : Pc Tryd.prog C0 where
  tg := .fn 39
  X := Me
  args x := [.agg (meE x)]
  mem _ := []
  pre _ := True
  res x := .bool (.tm (okMe x))
  mat vs _ := match vs with
    | [.agg [.int _ a1, .int _ a2, .int _ a3, .int _ a4, .int _ a5, .int _ a6]] => some (⟨a1, a2, a3, a4, a5, a6⟩, [])
    | _ => none
  ok x _ := may_ok x
end Go.Vx
