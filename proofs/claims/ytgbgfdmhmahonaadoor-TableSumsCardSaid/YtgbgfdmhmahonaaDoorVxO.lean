/-
  The symbolic evaluator, fifteenth part: one operation under its guard; a list of operations.
  Conditions: none.
-/
import Derived.Test.YtgbgfdmhmahonaaDoorVxT
import Derived.Test.YtgbgfdmhmahonaaDoorVxZ
import Derived.LaidEql
namespace Go.Vx
open Go
variable {C : Nat → Codec}

def pickB (x : Bool) (A B : SB) : SB :=
  match A, B with
  | .t, .t => .t
  | .f, .f => .f
  | .t, .f => .tm x
  | .f, .t => .tm (!x)
  | .t, B => .tm (x || B.val)
  | .f, B => .tm (!x && B.val)
  | A, .f => .tm (x && A.val)
  | A, .t => .tm (!x || A.val)
  | A, B => .tm (bif x then A.val else B.val)
theorem pickB_ok (x : Bool) (A B : SB) : (pickB x A B).val = if x then A.val else B.val := by
  cases x <;> cases A <;> cases B <;> simp [pickB, SB.val]

def pickP (tm : Tm) (m : List (Ck C)) (al : List (Nat × Bool)) (o : Op) : Ans :=
  match o with
  | .pick (.tmp tc) a b => match ev tm m al (.tmp tc) with
    | some (.bool .t) => (ev tm m al a).map fun v => ([], v)
    | some (.bool .f) => (ev tm m al b).map fun v => ([], v)
    | some (.bool (.tm x)) => match ev tm m (al ++ [(tc, true)]) a, ev tm m (al ++ [(tc, false)]) b with
      | some (.bool A), some (.bool B) => some ([], .bool (pickB x A B))
      | some .undef, some (.bool B) => some ([x = false], .bool B)
      | some (.bool A), some .undef => some ([x = true], .bool A)
      | _, _ => none
    | _ => none
  | _ => none

theorem pickP_ok {P : Program} {n : Nat} {tm : Tm} {m : List (Ck C)} {a : Act} (h : ActOK (ads m) n tm a) (hg : GlOK m) {al : List (Nat × Bool)} (ha : AlOK tm al) {o : Oper} {ps : List Prop} {r : SV}
    (hp : pickP tm m al o.op = some (ps, r)) (hps : allOf ps) (w : World) : (execOp a.eval o).run P w = .ok (.value (r.va (ads m))) w := by
  obtain ⟨dst, op, ty, pos, after, g⟩ := o
  simp only at hp
  cases op <;> simp only [pickP] at hp <;> try contradiction
  rename_i c x y
  cases c <;> simp only at hp <;> try contradiction
  rename_i tc
  split at hp <;> try (first | contradiction | exact False.elim hp)
  · rename_i hc
    cases hx : ev tm m al x with
    | none => simp [hx] at hp
    | some v =>
      simp only [hx, Option.map_some, Option.some.injEq, Prod.mk.injEq] at hp
      obtain ⟨rfl, rfl⟩ := hp
      simp [execOp, ev_ok h hg ha _ _ hc, ev_ok h hg ha _ _ hx, SV.va, SB.val, asBool]
  · rename_i hc
    cases hy : ev tm m al y with
    | none => simp [hy] at hp
    | some v =>
      simp only [hy, Option.map_some, Option.some.injEq, Prod.mk.injEq] at hp
      obtain ⟨rfl, rfl⟩ := hp
      simp [execOp, ev_ok h hg ha _ _ hc, ev_ok h hg ha _ _ hy, SV.va, SB.val, asBool]
  · rename_i b hc
    have hcond : condAt tm tc = some b := by
      simp only [ev] at hc
      unfold condAt
      cases hg' : get tm tc with
      | junk => simp [hg', strip] at hc
      | cnd cs v =>
        simp only [hg', strip] at hc
        split at hc
        · cases v <;> simp_all [SB.val]
        · cases hc
      | bool s => simp only [hg', strip, Option.some.injEq, SV.bool.injEq] at hc; simp [hc, SB.val]
      | _ => simp [hg', strip] at hc
    have hval := ev_ok h hg ha _ _ hc
    have ha' : AlOK tm (al ++ [(tc, b)]) := by
      intro p hp
      rcases List.mem_append.1 hp with hp | hp
      · exact ha p hp
      · simp at hp; subst hp; exact hcond
    split at hp <;> try (first | contradiction | exact False.elim hp)
    · rename_i A B hA hB
      simp only [Option.some.injEq, Prod.mk.injEq] at hp
      obtain ⟨rfl, rfl⟩ := hp
      cases b with
      | true =>
        have := ev_ok h hg ha' _ _ hA
        have hv : a.eval (.tmp tc) = .bool true := hval
        simp [execOp, hv, this, SV.va, asBool, pickB_ok]
      | false =>
        have := ev_ok h hg ha' _ _ hB
        have hv : a.eval (.tmp tc) = .bool false := hval
        simp [execOp, hv, this, SV.va, asBool, pickB_ok]
    · rename_i B hA hB
      simp only [Option.some.injEq, Prod.mk.injEq] at hp
      obtain ⟨rfl, rfl⟩ := hp
      have hb : b = false := hps.1
      subst hb
      have := ev_ok h hg ha' _ _ hB
      have hv : a.eval (.tmp tc) = .bool false := hval
      simp [execOp, hv, this, SV.va, asBool]
    · rename_i A hA hB
      simp only [Option.some.injEq, Prod.mk.injEq] at hp
      obtain ⟨rfl, rfl⟩ := hp
      have hb : b = true := hps.1
      subst hb
      have := ev_ok h hg ha' _ _ hA
      have hv : a.eval (.tmp tc) = .bool true := hval
      simp [execOp, hv, this, SV.va, asBool]

/-- How a region that draws is gone through: the operation's number, and how it is taken. -/
inductive Tk where
  | p (i : Nat)
  | q (i : Nat)
  | e (i : Nat)
  | f (i : Nat)

/-- What a function's evaluation knows: contracts, the number of slots. -/
structure Env (P : Program) (C : Nat → Codec) where
  fcs : List (Fc P C)
  pcs : List (Pc P C)
  n : Nat
  plans : List (Nat × List Nat × List Tk) := []

/-- The address lies in an object that is known. -/
def Plain (C : Nat → Codec) (a : Addr) : Prop := ∃ (g : Nat) (c : Array Value) (t : TypeId), (a.block, Obj.cells c t (0, 0)) ∈ (C g).gpins
/-- '==' of two interface values that hold addresses of such objects. -/
def eqPtr (P : Program) (C : Nat → Codec) (t1 t2 : TypeId) (a b : Addr) : Option (List Prop × SB) :=
  match Nat.beq t1 t2 with
  | false => some ([], .f)
  | true => match P.underlying t1, P.info? t1 with
    | some (.pointer te), some i => match P.info? te with
      | some j => match i.comparable, Nat.beq j.size 0 with
        | true, false => some ([Plain C a, Plain C b], .tm (decide (a = b)))
        | _, _ => none
      | none => none
    | _, _ => none
def eqQ (P : Program) (tm : Tm) (m : List (Ck C)) (al : List (Nat × Bool)) (o : Op) : Ans :=
  match o with
  | .binOp op t x y _ => match ev tm m al x, ev tm m al y with
    | some (.ifc t1 (.val (.pointer (some a)))), some (.ifc t2 (.val (.pointer (some b)))) => match P.underlying t with
      | some (.interface _) => match op with
        | .eql => (eqPtr P C t1 t2 a b).map fun (ps, s) => (ps, .bool s)
        | .neq => (eqPtr P C t1 t2 a b).map fun (ps, s) => (ps, .bool s.neg)
        | _ => none
      | _ => none
    | _, _ => none
  | _ => none

theorem eqPtr_ok {P : Program} {S : Sx} {w0 w : World} {m : List (Ck C)} (hm : MemOK S w0 w m) {t : TypeId} {ms : Array (String × TypeId)} (ht : P.underlying t = some (.interface ms)) {t1 t2 : TypeId} {a b : Addr} {ps : List Prop} {s : SB}
    (h : eqPtr P C t1 t2 a b = some (ps, s)) (hp : allOf ps) : (Op.equal t (.iface t1 (.pointer (some a))) (.iface t2 (.pointer (some b)))).run P w = .ok s.val w := by
  unfold eqPtr at h
  split at h
  · rename_i hne
    simp only [Option.some.injEq, Prod.mk.injEq] at h
    obtain ⟨_, rfl⟩ := h
    have hne : t1 ≠ t2 := Nat.ne_of_beq_eq_false hne
    have key : ∀ d : Nat, (Op.equalIn (d + 1) t (.iface t1 (.pointer (some a))) (.iface t2 (.pointer (some b)))).run P w = .ok false w := fun d => by
      simp [Op.equalIn, run_underlying' ht, hne]
    exact key 9999
  · rename_i he
    have he : t1 = t2 := Nat.eq_of_beq_eq_true he
    subst he
    split at h <;> try contradiction
    rename_i te i hu hi
    split at h <;> try contradiction
    rename_i j hj
    split at h <;> try contradiction
    rename_i hc hs
    simp only [Option.some.injEq, Prod.mk.injEq] at h
    obtain ⟨rfl, rfl⟩ := h
    have hs : j.size ≠ 0 := Nat.ne_of_beq_eq_false hs
    obtain ⟨⟨g, c, u, hg⟩, ⟨g', c', u', hg'⟩, _⟩ := hp
    have ha := (hm.more.gp g _ hg).1
    have hb := (hm.more.gp g' _ hg').1
    by_cases hab : a = b
    · subst hab
      simp only [SB.val, decide_true]
      exact run_equalIn_iface_ptr_same w 9998 a ht hu hi hc hj
    · simp only [Op.equal, Op.maxDepth, run_equalIn_iface_ptr_other w 9998 ht hu hi hc hj hs hab ha hb, SB.val, decide_eq_false hab]

theorem eqQ_ok {P : Program} {S : Sx} {w0 w : World} {n : Nat} {tm : Tm} {m : List (Ck C)} {a : Act} (h : ActOK (ads m) n tm a) (hm : MemOK S w0 w m) {al : List (Nat × Bool)} (ha : AlOK tm al) {o : Oper} {ps : List Prop} {r : SV}
    (hl : eqQ P tm m al o.op = some (ps, r)) (hp : allOf ps) : (execOp a.eval o).run P w = .ok (.value (r.va (ads m))) w := by
  obtain ⟨dst, op, type, pos, after, guard⟩ := o
  simp only at hl
  cases op <;> simp only [eqQ] at hl <;> try contradiction
  case binOp bo t x y yt =>
    split at hl <;> try contradiction
    rename_i t1 a1 t2 b1 hx hy
    split at hl <;> try contradiction
    rename_i ms ht
    have ex := ev_ok h hm.glob ha _ _ hx
    have ey := ev_ok h hm.glob ha _ _ hy
    cases bo <;> simp only at hl <;> try contradiction
    · cases he : eqPtr P C t1 t2 a1 b1 with
      | none => simp [he] at hl
      | some q =>
        obtain ⟨qs, s⟩ := q
        simp only [he, Option.map_some, Option.some.injEq, Prod.mk.injEq] at hl
        obtain ⟨rfl, rfl⟩ := hl
        have := eqPtr_ok hm ht he hp
        simp [execOp, ex, ey, SV.va, eqGuard, binOp, this]
    · cases he : eqPtr P C t1 t2 a1 b1 with
      | none => simp [he] at hl
      | some q =>
        obtain ⟨qs, s⟩ := q
        simp only [he, Option.map_some, Option.some.injEq, Prod.mk.injEq] at hl
        obtain ⟨rfl, rfl⟩ := hl
        have := eqPtr_ok hm ht he hp
        simp [execOp, ex, ey, SV.va, eqGuard, binOp, this]
        cases s <;> simp [SB.val, SB.neg]

/-- It only computes, in whatever world. -/
def pureP (P : Program) (tm : Tm) (m : List (Ck C)) (al : List (Nat × Bool)) (o : Op) : Ans :=
  match pickP tm m al o with
  | some r => some r
  | none => pev P (fun c => (nth m c).sz) (ev tm m al) o
/-- It reads. -/
def pureQ {P : Program} (E : Env P C) (tm : Tm) (m : List (Ck C)) (al : List (Nat × Bool)) (o : Op) : Ans :=
  match lev P tm m al o with
  | some r => some r
  | none => match eqQ P tm m al o with
    | some r => some r
    | none => match mapQ P tm m al o with
      | some r => some r
      | none => callQ E.pcs tm m al o

theorem pureP_ok {P : Program} {n : Nat} {tm : Tm} {m : List (Ck C)} {a : Act} (h : ActOK (ads m) n tm a) (hg : GlOK m) {al : List (Nat × Bool)} (ha : AlOK tm al) {o : Oper} {ps : List Prop} {r : SV}
    (hp : pureP P tm m al o.op = some (ps, r)) (hps : allOf ps) (w : World) : (execOp a.eval o).run P w = .ok (.value (r.va (ads m))) w := by
  unfold pureP at hp
  split at hp
  · rename_i r' hr
    simp only [Option.some.injEq] at hp; subst hp
    exact pickP_ok h hg ha hr hps w
  · exact pev_ok hp hps (fun _ => rfl) (ev_ok h hg ha) w

/-- An operation that reads: one value in every world that these chunks fit. -/
def Reads (P : Program) (S : Sx) (w0 : World) (m : List (Ck C)) (o : Oper) (a : Act) (v : Value) : Prop :=
  ∀ w, MemOK S w0 w m → (execOp a.eval o).run P w = .ok (.value v) w ∨
    ∃ f vals, (execOp a.eval o).run P w = .ok (.enter f vals) w ∧ Calls P f vals w fun e w' => e = .returned v ∧ MemOK S w0 w' m

theorem pureQ_ok {P : Program} {S : Sx} {w0 : World} {E : Env P C} {n : Nat} {tm : Tm} {m : List (Ck C)} {a : Act} (h : ActOK (ads m) n tm a) {al : List (Nat × Bool)} (ha : AlOK tm al) {o : Oper} {ps : List Prop} {r : SV}
    (hp : pureQ E tm m al o.op = some (ps, r)) (hps : allOf ps) : Reads P S w0 m o a (r.va (ads m)) := by
  intro w hm
  unfold pureQ at hp
  split at hp
  · rename_i r' hr
    simp only [Option.some.injEq] at hp; subst hp
    exact .inl (lev_ok h hm ha hr hps)
  · split at hp
    · rename_i r' hr
      simp only [Option.some.injEq] at hp; subst hp
      exact .inl (eqQ_ok h hm ha hr hps)
    · split at hp
      · rename_i r' hr
        simp only [Option.some.injEq] at hp; subst hp
        exact .inl (mapQ_ok h hm ha hr hps)
      · exact .inr (callQ_ok h hm ha hp hps)

theorem Reads.wp {P : Program} {S : Sx} {w0 w : World} {m : List (Ck C)} {o : Oper} {a : Act} {v : Value} (h : Reads P S w0 m o a v) (hm : MemOK S w0 w m)
    {next : Act → World → Prop} {Q : Exit → Act → World → Prop} (hn : ∀ w', MemOK S w0 w' m → next (a.put o.dst v) w') : o.wp P a w next Q := by
  unfold Oper.wp
  rcases h w hm with h1 | ⟨f, vals, h1, h2⟩
  · rw [h1]; exact hn w hm
  · rw [h1]
    exact h2.mono fun e w' ⟨he, hm'⟩ => by subst he; exact hn w' hm'

def imp : List (Nat × Bool × Bool) → Prop → Prop
  | [], p => p
  | (_, w, b) :: r, p => b = w → imp r p
def impT : List (Nat × Bool × Bool) → Prop → Tr
  | [], p => .lf p
  | (_, w, b) :: r, p => .imp (b = w) (impT r p)
theorem impT_imp : ∀ {cs : List (Nat × Bool × Bool)} {p : Prop}, (impT cs p).holds → imp cs p
  | [], _, h => h
  | (_, _, _) :: _, _, h => fun e => impT_imp (h e)
def asks (cs : List (Nat × Bool × Bool)) : List Prop → Tr → Tr
  | [], X => X
  | p :: r, X => .and (impT cs p) (asks cs r X)
theorem imp_ok : ∀ {cs : List (Nat × Bool × Bool)} {p : Prop}, imp cs p → holds cs = true → p
  | [], _, h, _ => h
  | (_, w, b) :: r, p, h, hh => by
    simp only [holds, Bool.and_eq_true, beq_iff_eq] at hh
    exact imp_ok (h hh.1) hh.2
theorem asks_ok : ∀ {cs : List (Nat × Bool × Bool)} {ps : List Prop} {X : Tr}, asks cs ps X → X.holds ∧ (holds cs = true → allOf ps)
  | _, [], _, h => ⟨h, fun _ => trivial⟩
  | _, _ :: _, _, h => ⟨(asks_ok h.2).1, fun hh => ⟨imp_ok (impT_imp h.1) hh, (asks_ok h.2).2 hh⟩⟩

def alOf (cs : List (Nat × Bool × Bool)) : List (Nat × Bool) := cs.map fun c => (c.1, c.2.1)
theorem alOf_ok {tm : Tm} {cs : List (Nat × Bool × Bool)} (h : ∀ c ∈ cs, condAt tm c.1 = some c.2.2) (hh : holds cs = true) : AlOK tm (alOf cs) := by
  intro p hp
  obtain ⟨c, hc, rfl⟩ := List.mem_map.1 hp
  have : c.2.2 = c.2.1 := by
    clear h hp
    induction cs with
    | nil => cases hc
    | cons x r ih =>
      obtain ⟨t, w, b⟩ := x
      simp only [holds, Bool.and_eq_true, beq_iff_eq] at hh
      rcases List.mem_cons.1 hc with rfl | hc
      · exact hh.1
      · exact ih hh.2 hc
  rw [h c hc, this]

def callOf : Op → Option Call
  | .call c => match c.callee with
    | .builtin _ => none
    | _ => some c
  | _ => none
theorem callOf_ok {o : Op} {c : Call} (h : callOf o = some c) : o = .call c := by
  unfold callOf at h
  split at h
  · split at h
    · cases h
    · simp only [Option.some.injEq] at h; rw [h]
  · cases h
def onMaps : Op → Bool
  | .makeMap _ _ => true
  | .mapUpdate _ _ _ _ => true
  | .mapEntry _ _ _ => true
  | .entryStore _ _ _ _ => true
  | .range _ _ => true
  | .next _ _ => true
  | .call c => match c.callee with
    | .builtin .delete => true
    | _ => false
  | _ => false
def eff1 {P : Program} (E : Env P C) (tm : Tm) (m : List (Ck C)) (o : Op) (K : SV → List (Ck C) → Tr) : Tr :=
  match callOf o with
  | some c => callP E.fcs tm m [] c K
  | none => match onMaps o with
    | true => mapE P tm m [] o K
    | false => eev P tm m [] o K

def effG {P : Program} (E : Env P C) (ops : Array Oper) (o : Oper) : Nat → Tm → List (Ck C) → (Tm → List (Ck C) → Tr) → Tr
  | fuel, tm, m, K => match gd ops tm o.guard with
    | .lost => .no
    | .skip => match put? E.n tm o.dst [] .undef with
      | some tm' => K tm' m
      | none => .no
    | .run [] => eff1 E tm m o.op fun v m' => match put? E.n tm o.dst [] v with
      | some tm' => K tm' m'
      | none => .no
    | .run ((t, _, _) :: _) => match fuel with
      | 0 => .no
      | fuel + 1 => match get tm t with
        | .bool (.tm b) => .and (.imp (b = true) (fTm (know t true tm) fun tm' => effG E ops o fuel tm' m K)) (.imp (b = false) (fTm (know t false tm) fun tm' => effG E ops o fuel tm' m K))
        | _ => .no

theorem eev_ok {P : Program} {S : Sx} {w0 w : World} {n : Nat} {tm : Tm} {m : List (Ck C)} {a : Act} (h : ActOK (ads m) n tm a) (hm : MemOK S w0 w m) {al : List (Nat × Bool)} (ha : AlOK tm al) {o : Oper}
    {K : SV → List (Ck C) → Tr} (hl : eev P tm m al o.op K) : Left P S w0 tm m w (execOp a.eval o) K := by
  obtain ⟨dst, op, ty, pos, after, g⟩ := o
  simp only at hl
  cases op
  case store => exact eev_store h hm ha hl
  case alloc => exact eev_alloc hm hl
  case box => exact eev_box h hm ha hl
  case makeSlice => exact eev_make h hm ha hl
  case buildSlice => exact eev_buildSlice h hm ha hl
  case call => exact eev_append h hm ha hl
  all_goals exact hl.elim

theorem Left.opTo {P : Program} {S : Sx} {w0 w : World} {n : Nat} {tm : Tm} {m : List (Ck C)} {o : Oper} {a : Act} {K : SV → List (Ck C) → Tr} (h : ActOK (ads m) n tm a)
    (hl : Left P S w0 tm m w (execOp a.eval o) K) : OpTo P S w0 n tm m o a w K := by
  obtain ⟨w', m', r, hr, hm', hK, hads, hlen, hlt⟩ := hl.ex
  intro next Q hn
  have ha : ActOK (ads m') n tm a := by
    rcases hlt with ⟨_, e⟩ | hlt
    · rw [e]; exact h
    · exact h.ads hads hlt
  unfold Oper.wp
  rcases hr with hr | ⟨hr, rfl⟩
  · rw [hr]; exact hn _ _ _ _ hK hm' ha rfl ⟨hlen, hads⟩
  · rw [hr]; exact hn _ _ _ _ hK hm' ha rfl ⟨hlen, hads⟩

theorem eff1_ok {P : Program} {S : Sx} {w0 w : World} {E : Env P C} {o : Oper} {tm : Tm} {m : List (Ck C)} {K : Tm → List (Ck C) → Tr}
    (hs : eff1 E tm m o.op fun v m' => match put? E.n tm o.dst [] v with | some tm' => K tm' m' | none => .no) {a : Act}
    (h : ActOK (ads m) E.n tm a) (hm : MemOK S w0 w m) {next : Act → World → Prop} {Q : Exit → Act → World → Prop}
    (hn : ∀ tm' m' a' w', K tm' m' → ActOK (ads m') E.n tm' a' → MemOK S w0 w' m' → (m.length ≤ m'.length ∧ ∀ k, k < m.length → ads m k = ads m' k) → next a' w') : o.wp P a w next Q := by
  have fin : OpTo P S w0 E.n tm m o a w (fun v m' => match put? E.n tm o.dst [] v with | some tm' => K tm' m' | none => .no) → o.wp P a w next Q := by
    intro ho
    refine ho next Q ?_
    intro r m' w' v hK hm' ha' hv hads
    dsimp only at hK
    split at hK <;> try (first | contradiction | exact False.elim hK)
    rename_i tm' hp
    exact hn _ _ _ _ hK (put_ok ha' hp (by simp) _ hv) hm' hads
  have hnil : AlOK tm [] := by intro p hp; cases hp
  unfold eff1 at hs
  split at hs
  · rename_i c hc
    obtain ⟨dst, op, ty, pos, after, g⟩ := o
    have e := callOf_ok hc
    simp only at e
    subst e
    exact fin (callP_ok h hm hnil hs)
  · split at hs
    · exact fin ((mapE_ok h hm hnil hs).opTo h)
    · exact fin ((eev_ok h hm hnil hs).opTo h)

theorem effG_ok {P : Program} {S : Sx} {w0 w : World} {E : Env P C} {ops : Array Oper} {o : Oper} {m : List (Ck C)} {K : Tm → List (Ck C) → Tr} {a : Act}
    (hm : MemOK S w0 w m) {next : Act → World → Prop} {Q : Exit → Act → World → Prop}
    (hn : ∀ tm' m' a' w', K tm' m' → ActOK (ads m') E.n tm' a' → MemOK S w0 w' m' → (m.length ≤ m'.length ∧ ∀ k, k < m.length → ads m k = ads m' k) → next a' w') : ∀ (fuel : Nat) (tm : Tm), effG E ops o fuel tm m K → ActOK (ads m) E.n tm a →
    (Region.wanted o (yielded ops a.tmps) = true → o.wp P a w next Q) ∧ (Region.wanted o (yielded ops a.tmps) = false → next (a.put o.dst Go.undef) w)
  | fuel, tm, hs, h => by
    have h1 : ∀ hg : gd ops tm o.guard = .skip, ∀ tm', put? E.n tm o.dst [] .undef = some tm' → K tm' m → (Region.wanted o (yielded ops a.tmps) = true → o.wp P a w next Q) ∧ (Region.wanted o (yielded ops a.tmps) = false → next (a.put o.dst Go.undef) w) := by
      intro hg tm' hp hk
      have hw := gd_skip h hg
      exact ⟨fun e => (by rw [hw] at e; cases e), fun _ => hn _ _ _ _ hk (put_ok h hp (by simp) _ rfl) hm ⟨Nat.le_refl _, fun _ _ => rfl⟩⟩
    have h2 : gd ops tm o.guard = .run [] → (eff1 E tm m o.op fun v m' => match put? E.n tm o.dst [] v with | some tm' => K tm' m' | none => .no) →
        (Region.wanted o (yielded ops a.tmps) = true → o.wp P a w next Q) ∧ (Region.wanted o (yielded ops a.tmps) = false → next (a.put o.dst Go.undef) w) := by
      intro hg hk
      obtain ⟨hw, _⟩ := gd_run h hg
      exact ⟨fun _ => eff1_ok hk h hm hn, fun e => (by rw [hw] at e; cases e)⟩
    cases fuel with
    | zero =>
      unfold effG at hs
      split at hs <;> try (first | contradiction | exact False.elim hs)
      · rename_i hg
        split at hs <;> try (first | contradiction | exact False.elim hs)
        rename_i tm' hp
        exact h1 hg tm' hp hs
      · rename_i hg
        exact h2 hg hs
    | succ fuel =>
      unfold effG at hs
      split at hs <;> try (first | contradiction | exact False.elim hs)
      · rename_i hg
        split at hs <;> try (first | contradiction | exact False.elim hs)
        rename_i tm' hp
        exact h1 hg tm' hp hs
      · rename_i hg
        exact h2 hg hs
      · simp only at hs
        split at hs <;> try (first | contradiction | exact False.elim hs)
        rename_i b ht
        have hk := know_ok h ht
        cases b with
        | true => exact effG_ok hm hn fuel _ (by simpa only [fTm_eq] using hs.1 rfl) hk
        | false => exact effG_ok hm hn fuel _ (by simpa only [fTm_eq] using hs.2 rfl) hk

/-- One operation. -/
def stepP {P : Program} (E : Env P C) (ops : Array Oper) (o : Oper) (tm : Tm) (m : List (Ck C)) (K : Tm → List (Ck C) → Tr) : Tr :=
  match gd ops tm o.guard with
  | .lost => .no
  | .skip => match put? E.n tm o.dst [] .undef with
    | some tm' => K tm' m
    | none => .no
  | .run cs => match pureP P tm m (alOf cs) o.op with
    | some (ps, v) => match put? E.n tm o.dst cs v with
      | some tm' => asks cs ps (K tm' m)
      | none => .no
    | none => match pureQ E tm m (alOf cs) o.op with
      | some (ps, v) => match put? E.n tm o.dst cs v with
        | some tm' => asks cs ps (K tm' m)
        | none => .no
      | none => effG E ops o 8 tm m K

def sops {P : Program} (E : Env P C) (ops : Array Oper) : List Oper → Tm → List (Ck C) → (Tm → List (Ck C) → Tr) → Tr
  | [], tm, m, K => K tm m
  | o :: r, tm, m, K => stepP E ops o tm m fun tm' m' => fTm1 tm' fun tm' => fM m' fun m' => sops E ops r tm' m' K

theorem stepP_ok {P : Program} {S : Sx} {w0 w : World} {E : Env P C} {ops : Array Oper} {o : Oper} {tm : Tm} {m : List (Ck C)} {K : Tm → List (Ck C) → Tr} (hs : stepP E ops o tm m K) {a : Act}
    (h : ActOK (ads m) E.n tm a) (hm : MemOK S w0 w m) {next : Act → World → Prop} {Q : Exit → Act → World → Prop}
    (hn : ∀ tm' m' a' w', K tm' m' → ActOK (ads m') E.n tm' a' → MemOK S w0 w' m' → (m.length ≤ m'.length ∧ ∀ k, k < m.length → ads m k = ads m' k) → next a' w') :
    (Region.wanted o (yielded ops a.tmps) = true → o.wp P a w next Q) ∧ (Region.wanted o (yielded ops a.tmps) = false → next (a.put o.dst Go.undef) w) := by
  unfold stepP at hs
  split at hs <;> try (first | contradiction | exact False.elim hs)
  · rename_i hg
    have hw := gd_skip h hg
    split at hs <;> try (first | contradiction | exact False.elim hs)
    rename_i tm' hp
    refine ⟨fun e => (by rw [hw] at e; cases e), fun _ => hn _ _ _ _ hs (put_ok h hp (by simp) _ rfl) hm ⟨Nat.le_refl _, fun _ _ => rfl⟩⟩
  · rename_i cs hg
    obtain ⟨hw, hcs⟩ := gd_run h hg
    split at hs
    · rename_i ps v hpu
      split at hs <;> try (first | contradiction | exact False.elim hs)
      rename_i tm' hp
      obtain ⟨hK, hps⟩ := asks_ok hs
      refine ⟨fun e => ?_, fun e => ?_⟩
      · rw [hw] at e
        have hr := pureP_ok h hm.glob (alOf_ok hcs e) hpu (hps e) w
        unfold Oper.wp
        rw [hr]
        refine hn _ _ _ _ hK (put_ok h hp hcs _ ?_) hm ⟨Nat.le_refl _, fun _ _ => rfl⟩
        cases cs with
        | nil => rfl
        | cons c r => simp [mkc, SV.va, e]
      · rw [hw] at e
        refine hn _ _ _ _ hK (put_ok h hp hcs _ ?_) hm ⟨Nat.le_refl _, fun _ _ => rfl⟩
        cases cs with
        | nil => cases e
        | cons c r => simp [mkc, SV.va, e]
    · split at hs
      · rename_i ps v hpu
        split at hs <;> try (first | contradiction | exact False.elim hs)
        rename_i tm' hp
        obtain ⟨hK, hps⟩ := asks_ok hs
        refine ⟨fun e => ?_, fun e => ?_⟩
        · rw [hw] at e
          have hr := pureQ_ok (S := S) (w0 := w0) h (alOf_ok hcs e) hpu (hps e)
          refine hr.wp hm fun w' hm' => ?_
          refine hn _ _ _ _ hK (put_ok h hp hcs _ ?_) hm' ⟨Nat.le_refl _, fun _ _ => rfl⟩
          cases cs with
          | nil => rfl
          | cons c r => simp [mkc, SV.va, e]
        · rw [hw] at e
          refine hn _ _ _ _ hK (put_ok h hp hcs _ ?_) hm ⟨Nat.le_refl _, fun _ _ => rfl⟩
          cases cs with
          | nil => cases e
          | cons c r => simp [mkc, SV.va, e]
      · exact effG_ok hm hn 8 tm hs h

end Go.Vx
