/-
  The symbolic evaluator, fourteenth part: calls under a contract, and one operation.
  Conditions: none.
-/
import Derived.Test.YtgbgfdmhmahonaaDoorVxM
namespace Go.Vx
open Go
variable {C : Nat → Codec}

/-- What is called. -/
inductive Tg where
  | fn (f : Nat)
  | inv (t : Nat) (name : String)

def tgSem (tg : Tg) (vals : Array Value) : Sem Next :=
  match tg with
  | .fn f => callFunc f vals
  | .inv t name => callMethod (.iface t (vals.getD 0 Go.undef)) name (vals.extract 1 vals.size)

def tgEq : Tg → Tg → Bool
  | .fn a, .fn b => Nat.beq a b
  | .inv t n, .inv u k => Nat.beq t u && decide (n = k)
  | _, _ => false
theorem tgEq_ok {a b : Tg} (h : tgEq a b = true) : a = b := by
  cases a <;> cases b <;> simp_all [tgEq]

/-- What a call of it does, begun with chunks m and arguments args. -/
def LocG (P : Program) (tg : Tg) (m : List (Ck C)) (args : List SV) (post : SV → List (Ck C) → Prop) : Prop :=
  ∀ w, MemOK (wrS m) w w m → ∃ f vals, (tgSem tg (SV.vas (ads m) args).toArray).run P w = .ok (.enter f vals) w ∧
    Calls P f vals w fun e w' => ∃ r m', e = .returned (r.va (ads m')) ∧ MemOK (wrS m) w w' m' ∧ Ext m m' ∧ post r m'

/-- One way in which a call may end. -/
structure Alt (C : Nat → Codec) where
  Y : Type
  post : Y → Prop
  res : Y → SV
  out : Y → List (Ck C)
/-- It ended in one of these ways. -/
def Ends (l : List (Alt C)) (f : (A : Alt C) → A.Y → Prop) : Prop := ∃ A ∈ l, ∃ y : A.Y, A.post y ∧ f A y
theorem Ends.one {Y : Type} {post : Y → Prop} {res : Y → SV} {out : Y → List (Ck C)} {f : (A : Alt C) → A.Y → Prop} {r : List (Alt C)} (y : Y) (h : post y) (hf : f ⟨Y, post, res, out⟩ y) : Ends (⟨Y, post, res, out⟩ :: r) f :=
  ⟨_, List.mem_cons_self .., y, h, hf⟩
theorem Ends.next {A : Alt C} {r : List (Alt C)} {f : (A : Alt C) → A.Y → Prop} (h : Ends r f) : Ends (A :: r) f := by
  obtain ⟨B, hB, y, h⟩ := h
  exact ⟨B, List.mem_cons_of_mem _ hB, y, h⟩

/-- A call that ends in one of these ways. -/
abbrev Does (P : Program) (tg : Tg) (mem : List (Ck C)) (args : List SV) (alts : List (Alt C)) : Prop :=
  LocG P tg mem args fun r m' => Ends alts fun A y => r = A.res y ∧ m' = A.out y
/-- A call that only tells something. -/
abbrev Tells (P : Program) (tg : Tg) (mem : List (Ck C)) (args : List SV) (res : SV) : Prop :=
  LocG P tg mem args fun r m' => r = res ∧ m' = mem

/-- A contract: arguments, chunks, what is asked and what is given, by variables X; 'mat' reads them off a caller's values. -/
structure Fc (P : Program) (C : Nat → Codec) where
  tg : Tg
  X : Type
  args : X → List SV
  mem : X → List (Ck C)
  pre : X → Prop
  alts : X → List (Alt C)
  mat : List SV → List (Ck C) → Option (X × List Nat)
  ok : ∀ x, pre x → LocG P tg (mem x) (args x) fun r m' => Ends (alts x) fun A y => r = A.res y ∧ m' = A.out y

/-- A contract of a call that only reads: its result is a function of what it is given. -/
structure Pc (P : Program) (C : Nat → Codec) where
  tg : Tg
  X : Type
  args : X → List SV
  mem : X → List (Ck C)
  pre : X → Prop
  res : X → SV
  mat : List SV → List (Ck C) → Option (X × List Nat)
  ok : ∀ x, pre x → LocG P tg (mem x) (args x) fun r m' => r = res x ∧ m' = mem x

/-- The first contract of that call that fits what the caller has. -/
def findFc {P : Program} (tg : Tg) (as : List SV) (m : List (Ck C)) : List (Fc P C) → Option (Sigma fun b : Fc P C => b.X × List Nat)
  | [] => none
  | b :: r => if tgEq b.tg tg then match b.mat as m with
      | some q => some ⟨b, q⟩
      | none => findFc tg as m r
    else findFc tg as m r
def findPc {P : Program} (tg : Tg) (as : List SV) (m : List (Ck C)) : List (Pc P C) → Option (Sigma fun b : Pc P C => b.X × List Nat)
  | [] => none
  | b :: r => if tgEq b.tg tg then match b.mat as m with
      | some q => some ⟨b, q⟩
      | none => findPc tg as m r
    else findPc tg as m r
theorem findFc_tg {P : Program} {tg : Tg} {as : List SV} {m : List (Ck C)} : ∀ {l : List (Fc P C)} {b : Fc P C} {q : b.X × List Nat}, findFc tg as m l = some ⟨b, q⟩ → b.tg = tg
  | [], _, _, h => by simp [findFc] at h
  | x :: r, b, q, h => by
    simp only [findFc] at h
    split at h
    · rename_i he
      split at h
      · simp only [Option.some.injEq, Sigma.mk.injEq] at h
        obtain ⟨rfl, _⟩ := h
        exact tgEq_ok he
      · exact findFc_tg h
    · exact findFc_tg h
theorem findPc_tg {P : Program} {tg : Tg} {as : List SV} {m : List (Ck C)} : ∀ {l : List (Pc P C)} {b : Pc P C} {q : b.X × List Nat}, findPc tg as m l = some ⟨b, q⟩ → b.tg = tg
  | [], _, _, h => by simp [findPc] at h
  | x :: r, b, q, h => by
    simp only [findPc] at h
    split at h
    · rename_i he
      split at h
      · simp only [Option.some.injEq, Sigma.mk.injEq] at h
        obtain ⟨rfl, _⟩ := h
        exact tgEq_ok he
      · exact findPc_tg h
    · exact findPc_tg h

def callTg (tm : Tm) (m : List (Ck C)) (al : List (Nat × Bool)) (c : Call) : Option (Tg × List SV) :=
  match c.callee with
  | .value f => match ev tm m al f, optAll (ev tm m al) c.args.toList with
    | some (.fn (.func g) first cap), some as => some (.fn g, first ++ as ++ cap)
    | _, _ => none
  | .invoke r name => match ev tm m al r, optAll (ev tm m al) c.args.toList with
    | some (.ifc t v), some as => some (.inv t name, v :: as)
    | _, _ => none
  | .builtin _ => none

theorem callTg_ok {P : Program} {n : Nat} {tm : Tm} {m : List (Ck C)} {a : Act} (h : ActOK (ads m) n tm a) (hg : GlOK m) {al : List (Nat × Bool)} (ha : AlOK tm al) {c : Call} {tg : Tg} {as : List SV}
    (hc : callTg tm m al c = some (tg, as)) {dst : Option Tmp} {ty : TypeId} {pos : String} {after : Array Edge} {g : Option (Nat × Bool)} (w : World) :
    (execOp a.eval ⟨dst, .call c, ty, pos, after, g⟩).run P w = (tgSem tg (SV.vas (ads m) as).toArray).run P w := by
  have hev := ev_ok h hg ha
  obtain ⟨callee, args, argTypes⟩ := c
  simp only [callTg] at hc
  split at hc
  · split at hc <;> try (first | contradiction | exact False.elim hc)
    rename_i f first cap as' hf has
    simp only [Option.some.injEq, Prod.mk.injEq] at hc
    obtain ⟨rfl, rfl⟩ := hc
    have e1 := hev _ _ hf
    have e2 := optAll_ok (g := SV.va (ads m)) hev has
    have e3 : args.map a.eval = (SV.vas (ads m) as').toArray := by apply Array.ext'; simp [SV.vas_eq, e2]
    simp [execOp, resolve, e1, e3, SV.va, Deferred.ofValue, invoke, tgSem, SV.vas_eq]
  · split at hc <;> try (first | contradiction | exact False.elim hc)
    rename_i t v as' hf has
    simp only [Option.some.injEq, Prod.mk.injEq] at hc
    obtain ⟨rfl, rfl⟩ := hc
    have e1 := hev _ _ hf
    have e2 := optAll_ok (g := SV.va (ads m)) hev has
    have e3 : args.map a.eval = (SV.vas (ads m) as').toArray := by apply Array.ext'; simp [SV.vas_eq, e2]
    simp [execOp, resolve, e1, e3, SV.va, invoke, tgSem, SV.vas]
  · cases hc

def wrLive : List (Ck C) → Bool
  | [] => true
  | c :: r => (!c.wr || c.live) && wrLive r
theorem wrLive_ok {m : List (Ck C)} (h : wrLive m = true) : ∀ c ∈ m, c.wr = true → c.live = true := by
  induction m with
  | nil => intro c hc; cases hc
  | cons x r ih =>
    simp only [wrLive, Bool.and_eq_true, Bool.or_eq_true, Bool.not_eq_true'] at h
    intro c hc hw
    rcases List.mem_cons.1 hc with rfl | hc
    · rcases h.1 with h | h
      · rw [hw] at h; cases h
      · exact h
    · exact ih h.2 c hc hw

/-- What follows, in each way that the call may end. -/
def altsP (K : SV → List (Ck C) → Tr) (ρ : List Nat) (mem M : List (Ck C)) : List (Alt C) → Tr
  | [] => .yes
  | A :: r => .and (.all fun y => .imp (A.post y)
      (match memLt (A.out y).length (A.out y) && SV.lt (A.out y).length (A.res y) with
      | true => K ((A.res y).ren (ρ ++ upFrom M.length ((A.out y).length - mem.length)))
          (backU (ρ ++ upFrom M.length ((A.out y).length - mem.length)) ρ mem (A.out y) M ++ backN (ρ ++ upFrom M.length ((A.out y).length - mem.length)) mem (A.out y))
      | false => .no)) (altsP K ρ mem M r)
theorem altsP_ok {K : SV → List (Ck C) → Tr} {ρ : List Nat} {mem M : List (Ck C)} : ∀ {l : List (Alt C)}, (altsP K ρ mem M l).holds → ∀ A ∈ l, ∀ y : A.Y, A.post y →
    memLt (A.out y).length (A.out y) = true ∧ SV.lt (A.out y).length (A.res y) = true ∧ (K ((A.res y).ren (ρ ++ upFrom M.length ((A.out y).length - mem.length)))
          (backU (ρ ++ upFrom M.length ((A.out y).length - mem.length)) ρ mem (A.out y) M ++ backN (ρ ++ upFrom M.length ((A.out y).length - mem.length)) mem (A.out y))).holds
  | [], _, A, hA, _, _ => by cases hA
  | B :: r, h, A, hA, y, hy => by
    rcases List.mem_cons.1 hA with rfl | hA
    · have h1 := h.1 y hy
      split at h1 <;> try (first | contradiction | exact False.elim h1)
      rename_i hc
      simp only [Bool.and_eq_true] at hc
      exact ⟨hc.1, hc.2, h1⟩
    · exact altsP_ok h.2 A hA y hy

def callP {P : Program} (fcs : List (Fc P C)) (tm : Tm) (m : List (Ck C)) (al : List (Nat × Bool)) (c : Call) (K : SV → List (Ck C) → Tr) : Tr :=
  match callTg tm m al c with
  | none => .no
  | some (tg, as) => match findFc tg as m fcs with
    | none => .no
    | some ⟨b, x, ρ⟩ => match memLt m.length m && tmLt m.length tm && memLt (b.mem x).length (b.mem x) && SV.lts (b.mem x).length (b.args x) && apartB ρ (b.mem x) && wrLive (b.mem x) with
        | false => .no
        | true => match eqvs (SV.rens ρ (b.args x)) as, cksEq ρ m ρ (b.mem x) with
          | some ps, some qs => conj ps (conj qs (.and (.lf (b.pre x)) (altsP K ρ (b.mem x) m (b.alts x))))
          | _, _ => .no

def noWr : List (Ck C) → Bool
  | [] => true
  | c :: r => !c.wr && noWr r

def callQ {P : Program} (pcs : List (Pc P C)) (tm : Tm) (m : List (Ck C)) (al : List (Nat × Bool)) (o : Op) : Ans :=
  match o with
  | .call c => match callTg tm m al c with
    | none => none
    | some (tg, as) => match findPc tg as m pcs with
      | none => none
      | some ⟨b, x, ρ⟩ => match memLt m.length m && memLt (b.mem x).length (b.mem x) && SV.lts (b.mem x).length (b.args x) && SV.lt (b.mem x).length (b.res x) && noWr (b.mem x) with
          | false => none
          | true => match eqvs (SV.rens ρ (b.args x)) as, cksEq ρ m ρ (b.mem x) with
            | some ps, some qs => some (ps ++ qs ++ [b.pre x], (b.res x).ren ρ)
            | _, _ => none
  | _ => none

theorem noWr_ok {m : List (Ck C)} (h : noWr m = true) : ∀ c ∈ m, c.wr = false := by
  induction m with
  | nil => intro c hc; cases hc
  | cons x r ih =>
    simp only [noWr, Bool.and_eq_true, Bool.not_eq_true'] at h
    intro c hc
    rcases List.mem_cons.1 hc with rfl | hc
    · exact h.1
    · exact ih h.2 c hc

theorem vas_rens {n : Nat} {ρ : List Nat} {ad ad' : Nat → Ad} (h : ∀ c, c < n → ad c = ad' (rn ρ c)) {vs as : List SV} (hl : SV.lts n vs = true) {ps : List Prop} (he : eqvs (SV.rens ρ vs) as = some ps) (hp : allOf ps) :
    SV.vas ad vs = SV.vas ad' as := by
  rw [SV.vas_ren h vs hl, eqvs_ok ad' _ _ ps he hp]

/-- What an operation must lead to. -/
def OpTo (P : Program) (S : Sx) (w0 : World) (n : Nat) (tm : Tm) (m : List (Ck C)) (o : Oper) (a : Act) (w : World) (K : SV → List (Ck C) → Tr) : Prop :=
  ∀ (next : Act → World → Prop) (Q : Exit → Act → World → Prop),
    (∀ r m' w' v, K r m' → MemOK S w0 w' m' → ActOK (ads m') n tm a → v = r.va (ads m') → (m.length ≤ m'.length ∧ ∀ k, k < m.length → ads m k = ads m' k) → next (a.put o.dst v) w') → o.wp P a w next Q

theorem callP_ok {P : Program} {S : Sx} {w0 w : World} {n : Nat} {tm : Tm} {m : List (Ck C)} {a : Act} (h : ActOK (ads m) n tm a) (hm : MemOK S w0 w m) {al : List (Nat × Bool)} (ha : AlOK tm al)
    {fcs : List (Fc P C)} {c : Call} {dst : Option Tmp} {ty : TypeId} {pos : String} {after : Array Edge} {g : Option (Nat × Bool)} {K : SV → List (Ck C) → Tr} (hK : callP fcs tm m al c K) :
    OpTo P S w0 n tm m ⟨dst, .call c, ty, pos, after, g⟩ a w K := by
  unfold callP at hK
  split at hK <;> try (first | contradiction | exact False.elim hK)
  rename_i tg as htg
  split at hK <;> try (first | contradiction | exact False.elim hK)
  rename_i b x ρ hb
  split at hK <;> try (first | contradiction | exact False.elim hK)
  rename_i hc
  simp only [Bool.and_eq_true] at hc
  obtain ⟨⟨⟨⟨⟨c1, c2⟩, c3⟩, c4⟩, c5⟩, c6⟩ := hc
  split at hK <;> try (first | contradiction | exact False.elim hK)
  rename_i ps qs hps hqs
  obtain ⟨hps', hK⟩ := (conj_iff _ _).1 hK
  obtain ⟨hqs', hK⟩ := (conj_iff _ _).1 hK
  obtain ⟨hpre, hK⟩ := hK
  obtain ⟨hlen, hk⟩ := cksEq_ok hqs hqs'
  have hk' : ∀ k, k < (b.mem x).length → rn ρ k < m.length ∧ CkEq ρ (nth (b.mem x) k) (nth m (rn ρ k)) := fun k hkl => by
    obtain ⟨h1, qs, h2, h3⟩ := hk k hkl
    exact ⟨h1, ckEq_ok h2 h3⟩
  have hap := apartB_ok c5 hlen
  obtain ⟨hent, hads⟩ := hm.enter c3 hk' hap
  have hvals := vas_rens hads c4 hps hps'
  have hex := callTg_ok (P := P) h hm.glob ha htg (dst := dst) (ty := ty) (pos := pos) (after := after) (g := g) w
  obtain ⟨f, vals, hrun, hcalls⟩ := b.ok x hpre w hent
  rw [findFc_tg hb, hvals] at hrun
  intro next Q hnext
  unfold Oper.wp
  rw [hex, hrun]
  simp only [Oper.upon]
  refine hcalls.mono ?_
  rintro e w' ⟨r, m', he, hm', hext, A, hA, y, hy, rfl, rfl⟩
  subst he
  simp only
  obtain ⟨hol1, hol2, hKy⟩ := altsP_ok hK A hA y hy
  have hol := And.intro hol1 hol2
  obtain ⟨hback, hadsO, hadsM, hlenM⟩ := hm.back c1 hlen hk' hap (wrLive_ok c6) hm' hext hol.1
  exact hnext _ _ w' _ hKy hback (h.ads hadsM c2) (SV.va_ren hadsO _ hol.2) ⟨by omega, hadsM⟩

theorem callQ_ok {P : Program} {S : Sx} {w0 w : World} {n : Nat} {tm : Tm} {m : List (Ck C)} {a : Act} (h : ActOK (ads m) n tm a) (hm : MemOK S w0 w m) {al : List (Nat × Bool)} (ha : AlOK tm al)
    {pcs : List (Pc P C)} {o : Oper} {ps : List Prop} {r : SV} (hK : callQ pcs tm m al o.op = some (ps, r)) (hp : allOf ps) :
    ∃ f vals, (execOp a.eval o).run P w = .ok (.enter f vals) w ∧ Calls P f vals w fun e w' => e = .returned (r.va (ads m)) ∧ MemOK S w0 w' m := by
  obtain ⟨dst, op, ty, pos, after, g⟩ := o
  simp only at hK
  cases op <;> simp only [callQ] at hK <;> try contradiction
  rename_i c
  split at hK <;> try (first | contradiction | exact False.elim hK)
  rename_i tg as htg
  split at hK <;> try (first | contradiction | exact False.elim hK)
  rename_i b x ρ hb
  split at hK <;> try (first | contradiction | exact False.elim hK)
  rename_i hc
  simp only [Bool.and_eq_true] at hc
  obtain ⟨⟨⟨⟨c1, c2⟩, c3⟩, c4⟩, c5⟩ := hc
  split at hK <;> try (first | contradiction | exact False.elim hK)
  rename_i ps' qs hps hqs
  simp only [Option.some.injEq, Prod.mk.injEq] at hK
  obtain ⟨rfl, rfl⟩ := hK
  obtain ⟨hpq, hpre⟩ := (allOf_append _ _).1 hp
  obtain ⟨hps', hqs'⟩ := (allOf_append _ _).1 hpq
  simp only [allOf, and_true] at hpre
  obtain ⟨hlen, hk⟩ := cksEq_ok hqs hqs'
  have hk' : ∀ k, k < (b.mem x).length → rn ρ k < m.length ∧ CkEq ρ (nth (b.mem x) k) (nth m (rn ρ k)) := fun k hkl => by
    obtain ⟨h1, qs, h2, h3⟩ := hk k hkl
    exact ⟨h1, ckEq_ok h2 h3⟩
  have hnw := noWr_ok c5
  have hap : ∀ i j, i < (b.mem x).length → j < (b.mem x).length → i ≠ j → (nth (b.mem x) i).wr = true → rn ρ i ≠ rn ρ j := by
    intro i j hi _ _ hw
    rw [hnw _ (nth_mem hi)] at hw; cases hw
  obtain ⟨hent, hads⟩ := hm.enter c2 hk' hap
  have hvals := vas_rens hads c3 hps hps'
  have hex := callTg_ok (P := P) h hm.glob ha htg (dst := dst) (ty := ty) (pos := pos) (after := after) (g := g) w
  obtain ⟨f, vals, hrun, hcalls⟩ := b.ok x hpre w hent
  rw [findPc_tg hb, hvals] at hrun
  refine ⟨f, vals, by rw [hex, hrun], hcalls.mono ?_⟩
  rintro e w' ⟨r, m', he, hm', hext, rfl, rfl⟩
  subst he
  obtain ⟨hback, _, _, _⟩ := hm.back c1 hlen hk' hap (fun c hc hw => by rw [hnw c hc] at hw; cases hw) hm' hext c2
  have hU : ∀ (ρ' : List Nat) (r : List Nat) (s out M : List (Ck C)), (∀ c ∈ s, c.wr = false) → backU ρ' r s out M = M := by
    intro ρ' r
    induction r with
    | nil => intro s out M _; cases s <;> cases out <;> rfl
    | cons p r ih =>
      intro s out M hs
      cases s with
      | nil => cases out <;> rfl
      | cons a s =>
        cases out with
        | nil => rfl
        | cons o out =>
          simp only [backU, hs a (by simp)]
          exact ih s out M (fun c hc => hs c (by simp [hc]))
  have hN : ∀ (ρ' : List Nat) (s : List (Ck C)), backN ρ' s s = [] := by
    intro ρ' s
    induction s with
    | nil => rfl
    | cons a s ih => exact ih
  rw [hU _ _ _ _ _ hnw, hN, List.append_nil] at hback
  exact ⟨by rw [SV.va_ren hads _ c4], hback⟩

end Go.Vx
