/-
  The symbolic evaluator, fifth part: the frame's slots, guards, operands.
  Conditions: none.
-/
import Derived.Test.YtgbgfdmhmahonaaDoorVxD
namespace Go.Vx
open Go

abbrev Tm := List (Nat × SV)

def get : Tm → Nat → SV
  | [], _ => .junk
  | (k, v) :: r, t => match Nat.beq k t with
    | true => v
    | false => get r t

/-- The bool in a slot, conditional or not. -/
def condAt (tm : Tm) (t : Nat) : Option Bool :=
  match get tm t with
  | .bool s => some s.val
  | .cnd _ (.bool s) => some s.val
  | _ => none

/-- No conditional entry speaks of slot d. -/
def noCond (d : Nat) : Tm → Bool
  | [] => true
  | (_, .cnd cs _) :: r => (cs.all fun c => !(Nat.beq c.1 d)) && noCond d r
  | _ :: r => noCond d r

def Inv (tm : Tm) : Prop := ∀ t cs v, get tm t = .cnd cs v → ∀ c ∈ cs, ∀ b, condAt tm c.1 = some b → b = c.2.2

def mkc (cs : List (Nat × Bool × Bool)) (v : SV) : SV := match cs with
  | [] => v
  | cs => .cnd cs v

/-- Not a conditional value. -/
def notCnd : SV → Bool
  | .cnd _ _ => false
  | _ => true
theorem notCnd_ok {v : SV} (h : notCnd v = true) : ∀ cs v', v ≠ .cnd cs v' := by rintro cs v' rfl; cases h

/-- Slot d gets v. -/
def put? (n : Nat) (tm : Tm) (dst : Option Nat) (cs : List (Nat × Bool × Bool)) (v : SV) : Option Tm :=
  match dst with
  | none => some tm
  | some d => if Nat.blt d n && noCond d tm && (cs.all fun c => !(Nat.beq c.1 d)) && notCnd v then some ((d, mkc cs v) :: tm) else none

def isJunk : SV → Bool
  | .junk => true
  | _ => false

/-- What the slots hold. -/
structure ActOK (ad : Nat → Ad) (n : Nat) (tm : Tm) (a : Act) : Prop where
  defers : a.defers = []
  size : a.tmps.size = n
  tmps : ∀ t, get tm t = .junk ∨ a.tmps[t]? = some ((get tm t).va ad)
  inv : Inv tm

theorem get_put (tm : Tm) (d t : Nat) (v : SV) : get ((d, v) :: tm) t = if d = t then v else get tm t := by
  simp only [get]
  cases h : Nat.beq d t with
  | true => have := Nat.eq_of_beq_eq_true h; simp [this]
  | false => have := Nat.ne_of_beq_eq_false h; simp [this]

theorem noCond_ok {d : Nat} : ∀ {tm : Tm}, noCond d tm = true → ∀ t cs v, get tm t = .cnd cs v → ∀ c ∈ cs, c.1 ≠ d
  | [], _, t, cs, v, h => by simp [get] at h
  | (k, x) :: r, hn, t, cs, v, h => by
    rw [get_put] at h
    split at h
    · subst h
      simp only [noCond, Bool.and_eq_true, List.all_eq_true] at hn
      intro c hc hcd
      have := hn.1 c hc
      simp [hcd] at this
    · have hr : noCond d r = true := by
        cases x <;> simp_all [noCond]
      exact noCond_ok hr t cs v h

theorem put_ok {ad : Nat → Ad} {n : Nat} {tm tm' : Tm} {a : Act} (h : ActOK ad n tm a) {dst : Option Nat} {cs : List (Nat × Bool × Bool)} {v : SV} (hp : put? n tm dst cs v = some tm')
    (hcs : ∀ c ∈ cs, condAt tm c.1 = some c.2.2) (x : Value) (hx : x = (mkc cs v).va ad) : ActOK ad n tm' (a.put dst x) := by
  cases dst with
  | none => simp [put?] at hp; subst hp; exact h
  | some d =>
    simp only [put?] at hp
    split at hp
    · rename_i hc
      simp only [Bool.and_eq_true, List.all_eq_true] at hc
      obtain ⟨⟨⟨h1, h2⟩, h3⟩, h4⟩ := hc
      have hv := notCnd_ok h4
      simp only [Option.some.injEq] at hp
      subst hp
      have hd : d < n := by simpa using h1
      have h3' : ∀ c ∈ cs, c.1 ≠ d := by
        intro c hc hcd
        have := h3 c hc
        simp [hcd] at this
      have hcond : ∀ t, t ≠ d → condAt ((d, mkc cs v) :: tm) t = condAt tm t := by
        intro t ht
        unfold condAt
        rw [get_put, if_neg (Ne.symm ht)]
      refine ⟨h.defers, by simp [Act.put, h.size], ?_, ?_⟩
      · intro t
        rw [get_put]
        split
        · rename_i hdt; subst hdt
          right
          simp [Act.put, h.size, hd, hx]
        · rename_i hdt
          rcases h.tmps t with h | h
          · exact .inl h
          · right
            simp [Act.put, Array.getElem?_setIfInBounds_ne hdt, h]
      · intro t cs' v' hg c hc b hb
        rw [get_put] at hg
        split at hg
        · cases cs with
          | nil => exact absurd hg (hv _ _)
          | cons c0 cs0 =>
            simp only [mkc, SV.cnd.injEq] at hg
            obtain ⟨rfl, rfl⟩ := hg
            rw [hcond _ (h3' _ hc), hcs _ hc] at hb
            exact (Option.some.inj hb).symm
        · rw [hcond _ (noCond_ok h2 t cs' v' hg c hc)] at hb
          exact h.inv t cs' v' hg c hc b hb
    · cases hp

/-- One condition is allowed. -/
def allowed (al : List (Nat × Bool)) (c : Nat × Bool × Bool) : Bool := al.any fun p => Nat.beq p.1 c.1 && (match p.2, c.2.1 with | true, true => true | false, false => true | _, _ => false)

def strip (al : List (Nat × Bool)) : SV → Option SV
  | .junk => none
  | .cnd cs v => if cs.all (allowed al) then (match v with | .junk => none | v => some v) else none
  | v => some v

variable {C : Nat → Codec}

def findGl (g : Nat) : List (Ck C) → Nat → Option Nat
  | [], _ => none
  | c :: r, n => match c.gl with
    | some k => match Nat.beq k g with
      | true => some n
      | false => findGl g r (n + 1)
    | none => findGl g r (n + 1)

def ev (tm : Tm) (m : List (Ck C)) (al : List (Nat × Bool)) : Operand → Option SV
  | .tmp t => strip al (get tm t)
  | .const v => some (SV.ofValue v)
  | .global g => match findGl g m 0 with
    | some c => some (.ptr c 0 0)
    | none => some (.gp g)
  | .func f => some (.fn (.func f) [] [])

/-- What is allowed holds. -/
def AlOK (tm : Tm) (al : List (Nat × Bool)) : Prop := ∀ p ∈ al, condAt tm p.1 = some p.2

theorem strip_ok {ad : Nat → Ad} {tm : Tm} {al : List (Nat × Bool)} (ha : AlOK tm al) (hi : Inv tm) {t : Nat} {v : SV} (h : strip al (get tm t) = some v) : get tm t ≠ .junk ∧ (get tm t).va ad = v.va ad := by
  cases hg : get tm t with
  | junk => simp [hg, strip] at h
  | cnd cs x =>
    simp only [hg, strip] at h
    split at h
    · rename_i hall
      have hx : x = v := by cases x <;> simp_all
      subst hx
      refine ⟨by simp, ?_⟩
      simp only [SV.va]
      rw [if_pos]
      have hin := hi t cs x hg
      clear h hg
      induction cs with
      | nil => rfl
      | cons c cs ih =>
        obtain ⟨t', w, b⟩ := c
        simp only [List.all_cons, Bool.and_eq_true] at hall
        simp only [holds, Bool.and_eq_true]
        refine ⟨?_, ih hall.2 (fun c hc => hin c (by simp [hc]))⟩
        obtain ⟨p, hp, hpe⟩ := List.any_eq_true.1 hall.1
        have h1 := ha p hp
        simp only [Bool.and_eq_true] at hpe
        have e1 : p.1 = t' := Nat.eq_of_beq_eq_true hpe.1
        have e2 : p.2 = w := by
          have := hpe.2
          revert this
          cases p.2 <;> cases w <;> simp
        rw [e1] at h1
        have h2 : p.2 = b := hin (t', w, b) (by simp) _ h1
        rw [← h2, e2]; simp
    · cases h
  | _ =>
    rw [hg] at h
    simp only [strip, Option.some.injEq] at h
    subst h
    exact ⟨by simp, rfl⟩

theorem findGl_ok {g : Nat} : ∀ {m : List (Ck C)} {n k : Nat}, findGl g m n = some k → n ≤ k ∧ k - n < m.length ∧ (nth m (k - n)).gl = some g
  | [], _, _, h => by simp [findGl] at h
  | c :: r, n, k, h => by
    simp only [findGl] at h
    have step : findGl g r (n + 1) = some k → n ≤ k ∧ k - n < (c :: r).length ∧ (nth (c :: r) (k - n)).gl = some g := by
      intro h
      obtain ⟨h1, h2, h3⟩ := findGl_ok h
      have e : k - n = (k - (n + 1)) + 1 := by omega
      refine ⟨by omega, by simp; omega, ?_⟩
      rw [e]; exact h3
    split at h
    · rename_i q hq
      split at h
      · rename_i hb
        simp at h; subst h
        have := Nat.eq_of_beq_eq_true hb
        subst this
        simp [nth, hq]
      · exact step h
    · exact step h

theorem nth_mem {m : List (Ck C)} {c : Nat} (h : c < m.length) : nth m c ∈ m := by
  induction m generalizing c with
  | nil => simp at h
  | cons x r ih =>
    cases c with
    | zero => simp [nth]
    | succ c => simp only [nth]; exact List.mem_cons_of_mem _ (ih (by simpa using h))

/-- What is known of the globals' chunks. -/
def GlOK (m : List (Ck C)) : Prop := ∀ c ∈ m, ∀ g, c.gl = some g → c.block = g ∧ c.base = 0

theorem ev_ok {n : Nat} {tm : Tm} {m : List (Ck C)} {a : Act} (h : ActOK (ads m) n tm a) (hg : GlOK m) {al : List (Nat × Bool)} (ha : AlOK tm al) : ∀ x v, ev tm m al x = some v → a.eval x = v.va (ads m) := by
  intro x v hv
  cases x with
  | tmp t =>
    simp only [ev] at hv
    obtain ⟨h1, h2⟩ := strip_ok (ad := ads m) ha h.inv hv
    rcases h.tmps t with h3 | h3
    · exact absurd h3 h1
    · simp [Act.eval, h3, h2]
  | const v' => simp [ev] at hv; subst hv; simp [Act.eval, SV.va_ofValue]
  | global g =>
    simp only [ev] at hv
    cases hf : findGl g m 0 with
    | none => simp [hf] at hv; subst hv; simp [Act.eval, SV.va]
    | some c =>
      simp [hf] at hv; subst hv
      obtain ⟨_, h2, h3⟩ := findGl_ok hf
      simp only [Nat.sub_zero] at h2 h3
      obtain ⟨e1, e2⟩ := hg _ (nth_mem h2) _ h3
      simp [Act.eval, SV.va, ads, Ck.ad, Ad.at, e1, e2]
  | func f => simp [ev] at hv; subst hv; simp [Act.eval, SV.va, SV.vas]

/-- Is the operation wanted: no; under these conditions; not known. -/
inductive Gd where
  | skip
  | run (cs : List (Nat × Bool × Bool))
  | lost

def beqB : Bool → Bool → Bool
  | true, true => true
  | false, false => true
  | _, _ => false
def gdOf (t : Nat) (want : Bool) (cs : List (Nat × Bool × Bool)) : SB → Gd
  | .t => if beqB want true then .run cs else .skip
  | .f => if beqB want false then .run cs else .skip
  | .tm b => .run (cs ++ [(t, want, b)])
/-- Each condition's slot holds a bool. -/
def known (tm : Tm) : List (Nat × Bool × Bool) → Bool
  | [] => true
  | c :: r => (match get tm c.1 with
    | .bool _ => true
    | .cnd _ (.bool _) => true
    | _ => false) && known tm r
def gd (ops : Array Oper) (tm : Tm) : Option (Nat × Bool) → Gd
  | none => .run []
  | some (j, want) => match (ops[j]?).bind (·.dst) with
    | some t => match get tm t with
      | .bool s => gdOf t want [] s
      | .undef => .skip
      | .cnd cs (.bool s) => if known tm cs then gdOf t want cs s else .lost
      | _ => .lost
    | none => .lost

theorem holds_append : ∀ (a b : List (Nat × Bool × Bool)), holds (a ++ b) = (holds a && holds b)
  | [], _ => rfl
  | (_, _, _) :: a, b => by simp [holds, holds_append a b, Bool.and_assoc]

theorem known_ok {tm : Tm} : ∀ {cs : List (Nat × Bool × Bool)}, known tm cs = true → (∀ c ∈ cs, ∀ b, condAt tm c.1 = some b → b = c.2.2) → ∀ c ∈ cs, condAt tm c.1 = some c.2.2
  | [], _, _, c, hc => by simp at hc
  | x :: r, h, hi, c, hc => by
    simp only [known, Bool.and_eq_true] at h
    rcases List.mem_cons.1 hc with rfl | hc
    · have h1 := h.1
      have h2 := hi c (by simp)
      unfold condAt at h2 ⊢
      split at h1
      · rename_i s hs; rw [hs] at h2; exact congrArg some (h2 _ rfl)
      · rename_i s hs; rw [hs] at h2; exact congrArg some (h2 _ rfl)
      · cases h1
    · exact known_ok h.2 (fun c hc => hi c (by simp [hc])) c hc

theorem gdOf_ok {tm : Tm} {t : Nat} {want : Bool} {cs cs' : List (Nat × Bool × Bool)} {s : SB} (h : gdOf t want cs s = .run cs') (hcs : ∀ c ∈ cs, condAt tm c.1 = some c.2.2) (ht : condAt tm t = some s.val) :
    (holds cs' = (holds cs && (s.val == want))) ∧ ∀ c ∈ cs', condAt tm c.1 = some c.2.2 := by
  cases s <;> simp only [gdOf] at h
  · split at h
    · rename_i hb; simp at h; subst h; cases want <;> simp_all [beqB, SB.val]
    · cases h
  · split at h
    · rename_i hb; simp at h; subst h; cases want <;> simp_all [beqB, SB.val]
    · cases h
  · simp at h; subst h
    refine ⟨by simp [holds_append, holds, SB.val], ?_⟩
    intro c hc
    rcases List.mem_append.1 hc with hc | hc
    · exact hcs c hc
    · simp at hc; subst hc; exact ht

theorem gd_run {ad : Nat → Ad} {n : Nat} {ops : Array Oper} {tm : Tm} {a : Act} {o : Oper} (h : ActOK ad n tm a) {cs : List (Nat × Bool × Bool)} (hg : gd ops tm o.guard = .run cs) :
    Region.wanted o (yielded ops a.tmps) = holds cs ∧ ∀ c ∈ cs, condAt tm c.1 = some c.2.2 := by
  unfold gd at hg
  unfold Region.wanted
  split at hg
  · rename_i ho; simp at hg; subst hg; simp [ho, holds]
  · rename_i j want ho
    simp only [ho]
    split at hg <;> try contradiction
    rename_i t ht
    have hy : ∀ v, get tm t ≠ .junk → (get tm t).va ad = v → yielded ops a.tmps j = match v with | .bool b => some b | _ => none := by
      intro v hj hv
      rcases h.tmps t with h3 | h3
      · exact absurd h3 hj
      · rw [hv] at h3; simp only [yielded, ht, Option.bind_some, h3]; cases v <;> rfl
    split at hg <;> try contradiction
    · rename_i s hgt
      have hyb : yielded ops a.tmps j = some s.val := hy (.bool s.val) (by simp [hgt]) (by rw [hgt]; rfl)
      have hc : condAt tm t = some s.val := by simp [condAt, hgt]
      have h2 := gdOf_ok hg (by simp) hc
      refine ⟨?_, h2.2⟩
      rw [hyb, h2.1]
      cases s.val <;> cases want <;> rfl
    · rename_i cs0 s hgt
      split at hg <;> try contradiction
      rename_i hkn
      have hc : condAt tm t = some s.val := by simp [condAt, hgt]
      have hin := known_ok hkn (h.inv t cs0 _ hgt)
      have h2 := gdOf_ok hg hin hc
      refine ⟨?_, h2.2⟩
      have := hy (if holds cs0 then .bool s.val else Go.undef) (by simp [hgt]) (by rw [hgt]; rfl)
      rw [this, h2.1]
      cases holds cs0 <;> cases s.val <;> cases want <;> rfl

theorem gd_skip {ad : Nat → Ad} {n : Nat} {ops : Array Oper} {tm : Tm} {a : Act} {o : Oper} (h : ActOK ad n tm a) (hg : gd ops tm o.guard = .skip) :
    Region.wanted o (yielded ops a.tmps) = false := by
  unfold gd at hg
  unfold Region.wanted
  split at hg
  · cases hg
  · rename_i j want ho
    simp only [ho]
    split at hg <;> try contradiction
    rename_i t ht
    have hy : ∀ v, get tm t ≠ .junk → (get tm t).va ad = v → yielded ops a.tmps j = match v with | .bool b => some b | _ => none := by
      intro v hj hv
      rcases h.tmps t with h3 | h3
      · exact absurd h3 hj
      · rw [hv] at h3; simp only [yielded, ht, Option.bind_some, h3]; cases v <;> rfl
    split at hg <;> try contradiction
    · rename_i s hgt
      have hyb : yielded ops a.tmps j = some s.val := hy (.bool s.val) (by simp [hgt]) (by rw [hgt]; rfl)
      rw [hyb]
      cases s <;> simp only [gdOf] at hg
      · split at hg
        · cases hg
        · rename_i hb; cases want <;> first | rfl | exact absurd rfl hb
      · split at hg
        · cases hg
        · rename_i hb; cases want <;> first | rfl | exact absurd rfl hb
      · cases hg
    · rename_i hgt
      have := hy Go.undef (by simp [hgt]) (by rw [hgt]; rfl)
      rw [this]; simp [Go.undef]
    · rename_i cs0 s hgt
      split at hg <;> try contradiction
      have := hy (if holds cs0 then .bool s.val else Go.undef) (by simp [hgt]) (by rw [hgt]; rfl)
      rw [this]
      cases s <;> simp only [gdOf] at hg
      · split at hg
        · cases hg
        · rename_i hb; cases holds cs0 <;> cases want <;> first | rfl | exact absurd rfl hb
      · split at hg
        · cases hg
        · rename_i hb; cases holds cs0 <;> cases want <;> first | rfl | exact absurd rfl hb
      · cases hg

/-- What is known of slot t goes into the conditions. -/
def cut (t : Nat) (w : Bool) : List (Nat × Bool × Bool) → Option (List (Nat × Bool × Bool))
  | [] => some []
  | c :: r => if Nat.beq c.1 t then (if beqB c.2.1 w then cut t w r else none) else (cut t w r).map (c :: ·)
def uncnd : SV → SV
  | .cnd _ _ => .junk
  | v => v
def knowV (t : Nat) (w : Bool) (k : Nat) (v : SV) : SV :=
  if Nat.beq k t then .bool (SB.lit w) else match v with
    | .cnd cs x => match cut t w cs with
      | some [] => uncnd x
      | some cs' => .cnd cs' x
      | none => .undef
    | v => v
def know (t : Nat) (w : Bool) : Tm → Tm
  | [] => []
  | (k, v) :: r => (k, knowV t w k v) :: know t w r
theorem get_know (t : Nat) (w : Bool) : ∀ (tm : Tm) (k : Nat), get tm k ≠ .junk → get (know t w tm) k = knowV t w k (get tm k)
  | [], k, h => by simp [get] at h
  | (j, v) :: r, k, h => by
    rw [get_put] at h
    simp only [know]
    rw [get_put, get_put]
    split
    · rename_i e; rw [e]
    · rename_i e; rw [if_neg e] at h; exact get_know t w r k h
theorem get_know_junk (t : Nat) (w : Bool) : ∀ (tm : Tm) (k : Nat), get tm k = .junk → get (know t w tm) k = .junk ∨ (k = t)
  | [], k, h => .inl rfl
  | (j, v) :: r, k, h => by
    rw [get_put] at h
    simp only [know]
    rw [get_put]
    split
    · rename_i e
      rw [if_pos e] at h
      subst h
      by_cases hk : k = t
      · exact .inr hk
      · left; subst e; simp [knowV, hk]
    · rename_i e; rw [if_neg e] at h; exact get_know_junk t w r k h
theorem cut_ok {t : Nat} {w : Bool} : ∀ {cs : List (Nat × Bool × Bool)}, (∀ c ∈ cs, c.1 = t → c.2.2 = w) → (∀ cs', cut t w cs = some cs' → holds cs = holds cs' ∧ (∀ c ∈ cs', c ∈ cs ∧ c.1 ≠ t)) ∧ (cut t w cs = none → holds cs = false)
  | [], _ => ⟨fun cs' h => by simp [cut] at h; subst h; exact ⟨rfl, by simp⟩, fun h => by simp [cut] at h⟩
  | (k, want, b) :: r, hc => by
    have ih := cut_ok (t := t) (w := w) (cs := r) (fun c h => hc c (by simp [h]))
    by_cases hk : k = t
    · have hb := hc (k, want, b) (by simp) hk
      simp only at hb
      subst hb hk
      by_cases hw : want = b
      · subst hw
        have e : cut k want ((k, want, want) :: r) = cut k want r := by simp [cut]; cases want <;> simp [beqB]
        rw [e]
        refine ⟨fun cs' h => ?_, fun h => ?_⟩
        · obtain ⟨h1, h2⟩ := ih.1 cs' h
          exact ⟨by simp [holds, h1], fun c hc => ⟨by simp [(h2 c hc).1], (h2 c hc).2⟩⟩
        · simp [holds, ih.2 h]
      · have e : cut k b ((k, want, b) :: r) = none := by simp [cut]; cases want <;> cases b <;> simp_all [beqB]
        rw [e]
        refine ⟨fun cs' h => (by cases h), fun _ => ?_⟩
        cases want <;> cases b <;> simp_all [holds]
    · have e : cut t w ((k, want, b) :: r) = (cut t w r).map ((k, want, b) :: ·) := by simp [cut, hk]
      rw [e]
      cases hr : cut t w r with
      | none => exact ⟨fun cs' h => (by cases h), fun _ => by simp [holds, ih.2 hr]⟩
      | some cs0 =>
        obtain ⟨h1, h2⟩ := ih.1 cs0 hr
        refine ⟨fun cs' h => ?_, fun h => by cases h⟩
        simp at h; subst h
        refine ⟨by simp [holds, h1], fun c hc => ?_⟩
        rcases List.mem_cons.1 hc with rfl | hc
        · exact ⟨by simp, hk⟩
        · exact ⟨by simp [(h2 c hc).1], (h2 c hc).2⟩

theorem beq_ne {a b : Nat} (h : a ≠ b) : Nat.beq a b = false := by
  cases h2 : Nat.beq a b with
  | false => rfl
  | true => exact absurd (Nat.eq_of_beq_eq_true h2) h

theorem know_ok {ad : Nat → Ad} {n : Nat} {tm : Tm} {a : Act} (h : ActOK ad n tm a) {t : Nat} {b : Bool} (ht : get tm t = .bool (.tm b)) : ActOK ad n (know t b tm) a := by
  have hct : condAt tm t = some b := by simp [condAt, ht, SB.val]
  have hgt : get (know t b tm) t = .bool (SB.lit b) := by rw [get_know t b tm t (by simp [ht])]; simp [knowV]
  have hcs : ∀ k cs x, get tm k = .cnd cs x → ∀ c ∈ cs, c.1 = t → c.2.2 = b := by
    intro k cs x hk c hc he
    exact (h.inv k cs x hk c hc b (by rw [he]; exact hct)).symm
  -- what the slot of a condition holds
  have hcond : ∀ k b', k ≠ t → condAt (know t b tm) k = some b' → condAt tm k = some b' := by
    intro k b' hkt hb
    by_cases hj : get tm k = .junk
    · rcases get_know_junk t b tm k hj with h1 | h1
      · unfold condAt at hb; rw [h1] at hb; cases hb
      · exact absurd h1 hkt
    · unfold condAt at hb ⊢
      rw [get_know t b tm k hj] at hb
      have hkb : Nat.beq k t = false := beq_ne hkt
      simp only [knowV, hkb, Bool.false_eq_true, if_false] at hb
      cases hv : get tm k with
      | cnd cs x =>
        rw [hv] at hb
        simp only at hb
        cases hcut : cut t b cs with
        | none => rw [hcut] at hb; cases hb
        | some cs' =>
          rw [hcut] at hb
          cases cs' with
          | nil => cases x <;> simp_all [uncnd]
          | cons c r => cases x <;> exact hb
      | _ => rw [hv] at hb; exact hb
  refine ⟨h.defers, h.size, fun k => ?_, ?_⟩
  · by_cases hkt : k = t
    · subst hkt
      right
      rw [hgt]
      rcases h.tmps k with h1 | h1
      · rw [ht] at h1; cases h1
      · rw [h1, ht]; simp only [SV.va, SB.val_lit]; rfl
    · rcases h.tmps k with h1 | h1
      · rcases get_know_junk t b tm k h1 with h2 | h2
        · exact .inl h2
        · exact absurd h2 hkt
      · by_cases hj : get tm k = .junk
        · rcases get_know_junk t b tm k hj with h2 | h2
          · exact .inl h2
          · exact absurd h2 hkt
        · rw [get_know t b tm k hj]
          have hkb : Nat.beq k t = false := beq_ne hkt
          simp only [knowV, hkb, Bool.false_eq_true, if_false]
          cases hv : get tm k with
          | cnd cs x =>
            rw [hv] at h1
            have hc := cut_ok (t := t) (w := b) (cs := cs) (hcs k cs x hv)
            simp only
            cases hcut : cut t b cs with
            | none =>
              right; simp only
              rw [h1]; simp [SV.va, hc.2 hcut]
            | some cs' =>
              have h2 := (hc.1 cs' hcut).1
              cases cs' with
              | nil =>
                have : holds cs = true := by rw [h2]; rfl
                have h3 : a.tmps[k]? = some (x.va ad) := by rw [h1]; simp [SV.va, this]
                simp only
                cases x <;> first | exact .inl rfl | exact .inr h3
              | cons c r => right; simp only; rw [h1]; simp only [SV.va]; rw [h2]
          | _ => right; rw [hv] at h1; exact h1
  · intro k cs x hk c hc b' hb
    have hkt : k ≠ t := by rintro rfl; rw [hgt] at hk; cases hk
    have hj : get tm k ≠ .junk := by
      intro hj
      rcases get_know_junk t b tm k hj with h2 | h2
      · rw [h2] at hk; cases hk
      · exact hkt h2
    rw [get_know t b tm k hj] at hk
    have hkb : Nat.beq k t = false := beq_ne hkt
    simp only [knowV, hkb, Bool.false_eq_true, if_false] at hk
    cases hv : get tm k with
    | cnd cs0 x0 =>
      rw [hv] at hk
      simp only at hk
      have hc0 := cut_ok (t := t) (w := b) (cs := cs0) (hcs k cs0 x0 hv)
      cases hcut : cut t b cs0 with
      | none => rw [hcut] at hk; cases hk
      | some cs' =>
        rw [hcut] at hk
        cases cs' with
        | nil =>
          simp only at hk
          cases x0 <;> simp [uncnd] at hk
        | cons c1 r1 =>
          simp only [SV.cnd.injEq] at hk
          obtain ⟨rfl, rfl⟩ := hk
          have hcc := (hc0.1 _ hcut).2 c hc
          exact h.inv k cs0 x0 hv c hcc.1 b' (hcond _ _ hcc.2 hb)
    | _ => rw [hv] at hk; cases hk

end Go.Vx
