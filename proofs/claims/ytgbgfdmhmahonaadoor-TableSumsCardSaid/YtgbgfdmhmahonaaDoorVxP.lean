/-
  The symbolic evaluator, sixteenth part: regions, code, loops.
  Conditions: none.
-/
import Derived.Test.YtgbgfdmhmahonaaDoorVxR
namespace Go.Vx
open Go
variable {C : Nat → Codec}

theorem sops_ok {P : Program} {S : Sx} {w0 : World} {E : Env P C} {ops : Array Oper} {Q : Exit → Act → World → Prop} : ∀ {l : List Oper} {tm : Tm} {m : List (Ck C)} {K : Tm → List (Ck C) → Tr} {a : Act} {w : World},
    sops E ops l tm m K → ActOK (ads m) E.n tm a → MemOK S w0 w m → (∀ tm' m' a' w', K tm' m' → ActOK (ads m') E.n tm' a' → MemOK S w0 w' m' → Q .normal a' w') → wpList P ops Q l a w
  | [], tm, m, K, a, w, hs, h, hm, hq => hq _ _ _ _ hs h hm
  | o :: r, tm, m, K, a, w, hs, h, hm, hq => by
    obtain ⟨h1, h2⟩ := stepP_ok (Q := Q) (next := wpList P ops Q r) hs h hm (fun tm' m' a' w' hk h' hm' _ => by simp only [fTm1_eq, fM_eq] at hk; exact sops_ok hk h' hm' hq)
    unfold wpList
    split
    · rename_i hw; exact .inl (h1 hw)
    · rename_i hw; exact h2 (by simpa using hw)

/-- A region all of whose operations only compute or read. -/
def stepQ {P : Program} (E : Env P C) (ops : Array Oper) (o : Oper) (tm : Tm) (m : List (Ck C)) (K : Tm → Tr) : Tr :=
  match gd ops tm o.guard with
  | .lost => .no
  | .skip => match put? E.n tm o.dst [] .undef with
    | some tm' => K tm'
    | none => .no
  | .run cs => match pureP P tm m (alOf cs) o.op with
    | some (ps, v) => match put? E.n tm o.dst cs v with
      | some tm' => asks cs ps (K tm')
      | none => .no
    | none => match pureQ E tm m (alOf cs) o.op with
      | some (ps, v) => match put? E.n tm o.dst cs v with
        | some tm' => asks cs ps (K tm')
        | none => .no
      | none => match cs with
        | [] => .no
        | _ :: _ => match put? E.n tm o.dst [] .undef with
          | some tm' => asks cs [False] (K tm')
          | none => .no

def sopsQ {P : Program} (E : Env P C) (ops : Array Oper) (m : List (Ck C)) : List Oper → Tm → (Tm → Tr) → Tr
  | [], tm, K => K tm
  | o :: r, tm, K => stepQ E ops o tm m fun tm' => fTm1 tm' fun tm' => sopsQ E ops m r tm' K

theorem sopsQ_ok {P : Program} {S : Sx} {w0 : World} {E : Env P C} {ops : Array Oper} {m : List (Ck C)} (hg : GlOK m) {Q : Act → Prop} : ∀ {l : List Oper} {tm : Tm} {K : Tm → Tr} {a : Act},
    sopsQ E ops m l tm K → ActOK (ads m) E.n tm a → (∀ tm' a', K tm' → ActOK (ads m) E.n tm' a' → Q a') → wpQuiet P ops (fun w => MemOK S w0 w m) Q l a
  | [], tm, K, a, hs, h, hq => hq _ _ hs h
  | o :: r, tm, K, a, hs, h, hq => by
    unfold wpQuiet
    simp only [sopsQ] at hs
    unfold stepQ at hs
    split at hs <;> try (first | contradiction | exact False.elim hs)
    · rename_i hgd
      have hw := gd_skip h hgd
      split at hs <;> try (first | contradiction | exact False.elim hs)
      rename_i tm' hp
      rw [if_neg (by simp [hw])]
      dsimp only at hs
      rw [fTm1_eq] at hs
      exact sopsQ_ok hg hs (put_ok h hp (by simp) _ rfl) hq
    · rename_i cs hgd
      obtain ⟨hw, hcs⟩ := gd_run h hgd
      have fin : ∀ (ps : List Prop) (v : SV) (tm' : Tm), put? E.n tm o.dst cs v = some tm' → asks cs ps (fTm1 tm' fun tm' => sopsQ E ops m r tm' K) →
          (holds cs = true → allOf ps → ∀ w, MemOK S w0 w m → o.quietAt P a (fun w => MemOK S w0 w m) w (v.va (ads m))) →
          (if Region.wanted o (yielded ops a.tmps) then o.quiet P a (fun w => MemOK S w0 w m) (wpQuiet P ops (fun w => MemOK S w0 w m) Q r) else wpQuiet P ops (fun w => MemOK S w0 w m) Q r (a.put o.dst Go.undef)) := by
        intro ps v tm' hp hs hr
        obtain ⟨hK, hps⟩ := asks_ok hs
        rw [fTm1_eq] at hK
        cases e : holds cs with
        | true =>
          rw [if_pos (by rw [hw, e])]
          refine ⟨v.va (ads m), hr e (hps e), sopsQ_ok hg hK (put_ok h hp hcs _ ?_) hq⟩
          cases cs with
          | nil => rfl
          | cons c r => simp [mkc, SV.va, e]
        | false =>
          rw [if_neg (by rw [hw, e]; simp)]
          refine sopsQ_ok hg hK (put_ok h hp hcs _ ?_) hq
          cases cs with
          | nil => cases e
          | cons c r => simp [mkc, SV.va, e]
      split at hs
      · rename_i ps v hpu
        split at hs <;> try (first | contradiction | exact False.elim hs)
        rename_i tm' hp
        refine fin ps v tm' hp hs fun e hps w hm => ?_
        have hr := pureP_ok h hg (alOf_ok hcs e) hpu hps w
        unfold Oper.quietAt; rw [hr]; exact ⟨rfl, rfl⟩
      · split at hs
        rotate_left
        · cases cs with
          | nil => exact False.elim hs
          | cons c1 c2 =>
            dsimp only at hs
            split at hs <;> try (first | contradiction | exact False.elim hs)
            rename_i tm' hp
            obtain ⟨hK, hno⟩ := asks_ok hs
            rw [fTm1_eq] at hK
            cases e : holds (c1 :: c2) with
            | true => exact (hno e).1.elim
            | false =>
              rw [if_neg (by rw [hw, e]; simp)]
              exact sopsQ_ok hg hK (put_ok h hp (by simp) _ rfl) hq
        rename_i ps v hpu
        split at hs <;> try (first | contradiction | exact False.elim hs)
        rename_i tm' hp
        refine fin ps v tm' hp hs fun e hps w hm => ?_
        rcases pureQ_ok (S := S) (w0 := w0) h (alOf_ok hcs e) hpu hps w hm with hr | ⟨f, vals, hr, hc⟩
        · unfold Oper.quietAt; rw [hr]; exact ⟨rfl, rfl⟩
        · unfold Oper.quietAt; rw [hr]; exact ⟨rfl, hc⟩

/-- How a piece of code is left. -/
inductive Ex where
  | nor
  | exit (id : Nat)
  | ret

def Ex.of : Ex → Exit
  | .nor => .normal
  | .exit i => .exit i
  | .ret => .ret

/-- The first region of a piece of code: a loop's name. -/
def firstId : Code → Nat
  | .region id _ _ => id
  | .seq a b => match firstId a with
    | 0 => firstId b
    | n => n
  | .block _ c => firstId c
  | .loop c => firstId c
  | .scope c => firstId c
  | _ => 0

/-- The slots that a piece of code writes. -/
def writes : Code → List Nat
  | .region _ ops _ => ops.toList.filterMap (·.dst)
  | .seq a b => writes a ++ writes b
  | .cond _ a b => writes a ++ writes b
  | .block _ c => writes c
  | .loop c => writes c
  | .scope c => writes c
  | _ => []

def inList (k : Nat) : List Nat → Bool
  | [] => false
  | x :: r => Nat.beq x k || inList k r
/-- Only what is not written, each slot once. -/
def keepTm (ws : List Nat) : Tm → Tm
  | [] => []
  | (k, v) :: r => match inList k ws with
    | true => keepTm ws r
    | false => match v with
      | .cnd _ _ => keepTm (k :: ws) r
      | v => (k, v) :: keepTm (k :: ws) r

/-- What is said of a loop: by variables X, the slots that its rounds turn, the chunks, what holds of them, a measure. -/
structure Inv' (C : Nat → Codec) where
  id : Nat
  X : Type
  tm : X → Tm
  mem : X → List (Ck C) → List (Ck C)
  inv : X → Prop
  meas : X → Nat

/-- All that is said of that loop: its rounds stand in one or another of these states. -/
def findInvs (id : Nat) : List (Inv' C) → List (Inv' C)
  | [] => []
  | x :: r => if Nat.beq x.id id then x :: findInvs id r else findInvs id r
def allI : List (Inv' C) → (Inv' C → Tr) → Tr
  | [], _ => .yes
  | I :: r, f => .and (f I) (allI r f)
theorem allI_ok : ∀ {l : List (Inv' C)} {f : Inv' C → Tr}, (allI l f).holds → ∀ I ∈ l, (f I).holds
  | [], _, _, I, hI => by cases hI
  | J :: r, f, h, I, hI => by
    rcases List.mem_cons.1 hI with rfl | hI
    · exact h.1
    · exact allI_ok h.2 I hI
/-- One of the states stands. -/
def Stands (l : List (Inv' C)) (f : (I : Inv' C) → I.X → Prop) : Prop := ∃ I ∈ l, ∃ x, f I x
theorem Stands.one {I : Inv' C} {r : List (Inv' C)} {f : (I : Inv' C) → I.X → Prop} (x : I.X) (h : f I x) : Stands (I :: r) f := ⟨I, List.mem_cons_self .., x, h⟩
theorem Stands.next {I : Inv' C} {r : List (Inv' C)} {f : (I : Inv' C) → I.X → Prop} (h : Stands r f) : Stands (I :: r) f := by
  obtain ⟨J, hJ, x, h⟩ := h
  exact ⟨J, List.mem_cons_of_mem _ hJ, x, h⟩

mutual
/-- Which of the caller's names stand for which. -/
def unif : SV → SV → List (Nat × Nat)
  | .ptr c _ _, .ptr c' _ _ => [(c, c')]
  | .sl c _ _ _, .sl c' _ _ _ => [(c, c')]
  | .mp c, .mp c' => [(c, c')]
  | .agg a, .agg b => unifs a b
  | .tup a, .tup b => unifs a b
  | .ifc _ v, .ifc _ v' => unif v v'
  | .fn _ a b, .fn _ a' b' => unifs a a' ++ unifs b b'
  | _, _ => []
def unifs : List SV → List SV → List (Nat × Nat)
  | a :: r, b :: s => unif a b ++ unifs r s
  | _, _ => []
end
def look : List (Nat × Nat) → Nat → Nat
  | [], k => k
  | (a, b) :: r, k => if Nat.beq a k then b else look r k
def unifTm (tm : Tm) : Tm → List (Nat × Nat)
  | [] => []
  | (k, v) :: r => unif v (get tm k) ++ unifTm tm r
def unifMem (m : List (Ck C)) : Nat → List (Ck C) → List (Nat × Nat) → List (Nat × Nat)
  | _, [], acc => acc
  | k, a :: r, acc => unifMem m (k + 1) r (match a.cells, (nth m (look acc k)).cells with
    | .one vs, .one vs' => acc ++ unifs vs vs'
    | .it c _ _, .it c' _ _ => acc ++ [(c, c')]
    | _, _ => acc)
def namesOf (acc : List (Nat × Nat)) : Nat → List (Ck C) → List Nat
  | _, [] => []
  | k, _ :: r => look acc k :: namesOf acc (k + 1) r

/-- Slots tm are told by tm' under the names ρ. -/
def tmSub (ρ : List Nat) (tm : Tm) : Tm → Option (List Prop)
  | [] => some []
  | (k, v) :: r => match isJunk v with
    | true => tmSub ρ tm r
    | false => match eqv (get tm k) (v.ren ρ), tmSub ρ tm r with
      | some p, some q => some (p ++ q)
      | _, _ => none

/-- No slot twice. -/
def once : List Nat → Tm → Bool
  | _, [] => true
  | ks, (k, _) :: r => !(inList k ks) && once (k :: ks) r

def fP : List (Nat × Nat) → (List (Nat × Nat) → Tr) → Tr
  | [], K => K []
  | (a, b) :: r, K => fP r fun r => K ((a, b) :: r)
theorem fP_eq : ∀ (l : List (Nat × Nat)) (K : List (Nat × Nat) → Tr), fP l K = K l
  | [], _ => rfl
  | (a, b) :: r, K => by simp only [fP, fP_eq r]
def fNat (n : Nat) : (Nat → Tr) → Tr :=
  Nat.rec (motive := fun _ => (Nat → Tr) → Tr) (fun K => K 0) (fun _ ih K => ih fun n => K (n + 1)) n
theorem fNat_eq : ∀ (n : Nat) (K : Nat → Tr), fNat n K = K n
  | 0, _ => rfl
  | n + 1, K => by
    show fNat n (fun n => K (n + 1)) = K (n + 1)
    rw [fNat_eq n]
def fNames : List Nat → (List Nat → Tr) → Tr
  | [], K => K []
  | x :: r, K => fNat x fun x => fNames r fun r => K (x :: r)
theorem fNames_eq : ∀ (l : List Nat) (K : List Nat → Tr), fNames l K = K l
  | [], _ => rfl
  | x :: r, K => by simp only [fNames, fNat_eq, fNames_eq r]
/-- The same as 'unifMem', each step worked out before the next one. -/
def unifMemK (m : List (Ck C)) : Nat → List (Ck C) → List (Nat × Nat) → (List (Nat × Nat) → Tr) → Tr
  | _, [], acc, K => K acc
  | k, a :: r, acc, K => fP (match a.cells, (nth m (look acc k)).cells with
    | .one vs, .one vs' => acc ++ unifs vs vs'
    | .it c _ _, .it c' _ _ => acc ++ [(c, c')]
    | _, _ => acc) fun acc' => unifMemK m (k + 1) r acc' K
theorem unifMemK_eq (m : List (Ck C)) : ∀ (r : List (Ck C)) (k : Nat) (acc : List (Nat × Nat)) (K : List (Nat × Nat) → Tr), unifMemK m k r acc K = K (unifMem m k r acc)
  | [], _, _, _ => rfl
  | a :: r, k, acc, K => by simp only [unifMemK, unifMem, fP_eq, unifMemK_eq m r]
def subR (tm : Tm) (m : List (Ck C)) (tm' : Tm) (m' : List (Ck C)) (ρ : List Nat) : Tr :=
  match memLt m'.length m' && tmLt m'.length tm' && apartB ρ m' && once [] tm' with
  | false => .no
  | true => match cksEq ρ m ρ m', tmSub ρ tm tm' with
    | some ps, some qs => allLf (ps ++ qs)
    | _, _ => .no
def subP (tm : Tm) (m : List (Ck C)) (tm' : Tm) (m' : List (Ck C)) (acc : List (Nat × Nat)) : Tr :=
  fP acc fun acc => unifMemK m 0 m' acc fun A => fNames (namesOf A 0 m') fun ρ => subR tm m tm' m' ρ
theorem subP_eq (tm : Tm) (m : List (Ck C)) (tm' : Tm) (m' : List (Ck C)) (acc : List (Nat × Nat)) : subP tm m tm' m' acc = subR tm m tm' m' (namesOf (unifMem m 0 m' acc) 0 m') := by
  simp only [subP, fP_eq, unifMemK_eq, fNames_eq]

theorem MemOK.sub {S : Sx} {w0 w : World} {M : List (Ck C)} (h : MemOK S w0 w M) {ρ : List Nat} {m : List (Ck C)} (hlt : memLt m.length m = true)
    (hk : ∀ k, k < m.length → rn ρ k < M.length ∧ CkEq ρ (nth m k) (nth M (rn ρ k))) (hap : ∀ i j, i < m.length → j < m.length → i ≠ j → (nth m i).wr = true → rn ρ i ≠ rn ρ j) :
    MemOK S w0 w m ∧ ∀ c, c < m.length → ads m c = ads M (rn ρ c) := by
  obtain ⟨he, hads⟩ := h.enter hlt hk hap
  have hmore : More S w0 w m := by
    refine h.more.mono h.inS (fun _ _ _ => rfl) (fun x hx hxl => ?_) h.size
    obtain ⟨j, hjl, rfl⟩ := mem_nth hx
    obtain ⟨h1, h2⟩ := hk j hjl
    exact .inl ⟨_, nth_mem h1, h2.live hxl, h2.block.symm⟩
  refine ⟨⟨h.os, h.tape, h.output, h.size, h.keep, ?_, he.ok, he.wrok, he.apart, he.lt, he.glob, hmore⟩, hads⟩
  intro c hc hw hb
  obtain ⟨k, hkl, rfl⟩ := mem_nth hc
  obtain ⟨h1, h2⟩ := hk k hkl
  rw [h2.block] at hb ⊢
  exact h.inS _ (nth_mem h1) (h2.wr hw) hb

theorem get_once {v : SV} : ∀ {tm : Tm} {ks : List Nat}, once ks tm = true → ∀ k, (k, v) ∈ tm → get tm k = v
  | [], _, _, k, hk => by cases hk
  | (j, u) :: r, ks, h, k, hk => by
    simp only [once, Bool.and_eq_true] at h
    rw [get_put]
    rcases List.mem_cons.1 hk with e | hk
    · simp only [Prod.mk.injEq] at e; rw [if_pos e.1.symm, e.2]
    · have hne : j ≠ k := by
        rintro rfl
        have inl : ∀ (l : Tm) (ks : List Nat), once ks l = true → ∀ p ∈ l, inList p.1 ks = false := by
          intro l
          induction l with
          | nil => intro ks _ p hp; cases hp
          | cons y l ih =>
            intro ks hl p hp
            obtain ⟨y1, y2⟩ := y
            simp only [once, Bool.and_eq_true, Bool.not_eq_true'] at hl
            rcases List.mem_cons.1 hp with rfl | hp
            · exact hl.1
            · have := ih _ hl.2 p hp
              simp only [inList, Bool.or_eq_false_iff] at this
              exact this.2
        have := inl r (j :: ks) h.2 _ hk
        simp [inList] at this
      rw [if_neg hne]
      exact get_once h.2 k hk
theorem get_mem : ∀ (tm : Tm) (k : Nat), get tm k = .junk ∨ (k, get tm k) ∈ tm
  | [], k => .inl rfl
  | (j, u) :: r, k => by
    rw [get_put]
    split
    · rename_i e; subst e; exact .inr (by simp)
    · rcases get_mem r k with h | h
      · exact .inl h
      · exact .inr (by simp [h])

theorem tmSub_ok {ρ : List Nat} {tm : Tm} : ∀ {tm' : Tm} {ps : List Prop}, tmSub ρ tm tm' = some ps → allOf ps → ∀ k v, (k, v) ∈ tm' → v ≠ .junk → ∃ qs, eqv (get tm k) (v.ren ρ) = some qs ∧ allOf qs
  | [], _, _, _, k, v, hk, _ => by cases hk
  | (j, u) :: r, ps, h, hp, k, v, hk, hv => by
    simp only [tmSub] at h
    split at h
    · rename_i hj
      rcases List.mem_cons.1 hk with e | hk
      · simp only [Prod.mk.injEq] at e
        obtain ⟨rfl, rfl⟩ := e
        cases v <;> simp [isJunk] at hj; exact absurd rfl hv
      · exact tmSub_ok h hp k v hk hv
    · split at h <;> try (first | contradiction | exact False.elim h)
      rename_i p q hp' hq'
      simp only [Option.some.injEq] at h; subst h
      have hpq := (allOf_append p q).1 hp
      rcases List.mem_cons.1 hk with e | hk
      · simp only [Prod.mk.injEq] at e
        obtain ⟨rfl, rfl⟩ := e
        exact ⟨p, hp', hpq.1⟩
      · exact tmSub_ok hq' hpq.2 k v hk hv

theorem subP_ok {S : Sx} {w0 w : World} {n : Nat} {tm tm' : Tm} {m m' : List (Ck C)} {acc : List (Nat × Nat)} (h : subP tm m tm' m' acc) {a : Act} (ha : ActOK (ads m) n tm a) (hm : MemOK S w0 w m) :
    ActOK (ads m') n tm' a ∧ MemOK S w0 w m' := by
  rw [subP_eq] at h
  obtain ⟨ρ, hρ⟩ : ∃ ρ, ρ = namesOf (unifMem m 0 m' acc) 0 m' := ⟨_, rfl⟩
  rw [← hρ] at h
  unfold subR at h
  split at h <;> try (first | contradiction | exact False.elim h)
  rename_i hc
  simp only [Bool.and_eq_true] at hc
  obtain ⟨⟨⟨c1, c2⟩, c3⟩, c4⟩ := hc
  split at h <;> try (first | contradiction | exact False.elim h)
  rename_i ps qs hps hqs
  obtain ⟨hps', hqs'⟩ := (allOf_append _ _).1 (allLf_ok h)
  obtain ⟨hlen, hk⟩ := cksEq_ok hps hps'
  have hk' : ∀ k, k < m'.length → rn ρ k < m.length ∧ CkEq ρ (nth m' k) (nth m (rn ρ k)) := fun k hkl => by
    obtain ⟨h1, qs, h2, h3⟩ := hk k hkl
    exact ⟨h1, ckEq_ok h2 h3⟩
  obtain ⟨hm', hads⟩ := hm.sub c1 hk' (apartB_ok c3 hlen)
  refine ⟨⟨ha.defers, ha.size, fun t => ?_, ?_⟩, hm'⟩
  · by_cases hj : get tm' t = .junk
    · exact .inl hj
    · right
      rcases get_mem tm' t with h1 | h1
      · exact absurd h1 hj
      · obtain ⟨rs, hr1, hr2⟩ := tmSub_ok hqs hqs' t _ h1 hj
        have e := eqv_ok (ads m) _ _ rs hr1 hr2
        rcases ha.tmps t with h2 | h2
        · rw [h2] at hr1
          simp [eqv] at hr1
        · rw [h2, e, SV.va_ren hads _ (tmLt_get c2 t)]
  · intro t cs v hg c hc b hb
    exfalso
    have hj : get tm' t ≠ .junk := by rw [hg]; simp
    rcases get_mem tm' t with h1 | h1
    · exact hj h1
    · obtain ⟨rs, hr1, _⟩ := tmSub_ok hqs hqs' t _ h1 hj
      rw [hg] at hr1
      simp only [SV.ren] at hr1
      unfold eqv at hr1
      split at hr1 <;> simp_all

theorem wp_loop' {P : Program} {Q : Exit → Act → World → Prop} {a : Act} {w : World} {c : Code} (I : Nat → Act → World → Prop) (n : Nat) (h₀ : I n a w)
    (round : ∀ n a w, I n a w → c.wp P (Exit.then (fun a' w' => ∃ n', n' < n ∧ I n' a' w') Q) a w) : (Code.loop c).wp P Q a w := by
  intro b k cs
  have key : ∀ n a w, I n a w → ∃ e a' w', Q e a' w' ∧ Arrives P (lone (b.at a (.code c :: .inLoop c :: k)) cs w) b k cs e a' w' := by
    intro n
    induction n using Nat.strongRecOn with
    | _ n ih =>
      intro a w hI
      obtain ⟨e, a₁, w₁, hq, harr⟩ := round n a w hI b (.inLoop c :: k) cs
      cases e with
      | normal =>
        obtain ⟨n', hlt, hI₁⟩ := hq
        obtain ⟨e₂, a₂, w₂, hq₂, harr₂⟩ := ih n' hlt a₁ w₁ hI₁
        exact ⟨e₂, a₂, w₂, hq₂, .of_steps (Steps.trans harr (.one step_inLoop)) harr₂⟩
      | exit id => exact ⟨_, a₁, w₁, hq, .pass (x := .inLoop c) rfl (fun _ _ => .inl (by simp)) harr⟩
      | goto l => exact ⟨_, a₁, w₁, hq, .pass (x := .inLoop c) rfl (fun _ _ => .inl (by simp)) harr⟩
      | ret => exact ⟨_, a₁, w₁, hq, .pass (x := .inLoop c) rfl (fun _ _ => .inl (by simp)) harr⟩
      | panic ch => exact ⟨_, a₁, w₁, hq, .pass (x := .inLoop c) rfl (fun _ _ => .inl (by simp)) harr⟩
      | outgrown => exact ⟨_, a₁, w₁, hq, .pass (x := .inLoop c) rfl (fun _ _ => .inl (by simp)) harr⟩
  obtain ⟨e, a', w', hq, harr⟩ := key n a w h₀
  exact ⟨e, a', w', hq, .of_steps (.one step_loop) harr⟩

def keysOf : Tm → List Nat
  | [] => []
  | (k, _) :: r => k :: keysOf r

/-- A region: in its order, or, where it draws, all quiet. -/
def sreg {P : Program} (E : Env P C) (id : Nat) (ops : Array Oper) (draw : Bool) (tm : Tm) (m : List (Ck C)) (K : Tm → List (Ck C) → Tr) : Tr :=
  match draw with
  | false => sops E ops ops.toList tm m K
  | true => match findPlan id E.plans with
    | none => .and (.lf (Region.lexB .any ops = true)) (sopsQ E ops m ops.toList tm fun tm' => K tm' m)
    | some (F, pl) => .and (.lf (planned ops pl = true)) (.and (inMem F m) (splan E ops F m pl tm m K))

/-- Two values that cannot be one, by their shapes. -/
def unlike : SV → SV → Bool
  | .nils, .sl _ _ _ _ => true
  | .sl _ _ _ _, .nils => true
  | .nilp, .ptr _ _ _ => true
  | .ptr _ _ _, .nilp => true
  | .nili, .ifc _ _ => true
  | .ifc _ _, .nili => true
  | _, _ => false
/-- Numbers that a loop's states name in slots that it never writes: they are what they were ahead of it; so are the shapes of values. -/
def linkP (ws : List Nat) (tm : Tm) : Tm → List Prop
  | [] => []
  | (k, v) :: r => match inList k ws with
    | true => linkP ws tm r
    | false => match unlike (get tm k) v with
      | true => False :: linkP ws tm r
      | false => match get tm k with
        | .int _ a => match v with
          | .int _ b => (a = b) :: linkP ws tm r
          | _ => linkP ws tm r
        | _ => linkP ws tm r
/-- The state cannot be met there. -/
def linkNo (ws : List Nat) (tm : Tm) : Tm → Bool
  | [] => false
  | (k, v) :: r => match inList k ws with
    | true => linkNo ws tm r
    | false => match unlike (get tm k) v with
      | true => true
      | false => linkNo ws tm r
theorem linkNo_ok {ws : List Nat} {tm : Tm} : ∀ {l : Tm}, linkNo ws tm l = true → ¬ allOf (linkP ws tm l)
  | [], h, _ => by cases h
  | (k, v) :: r, h, ha => by
    simp only [linkNo] at h
    simp only [linkP] at ha
    cases hk : inList k ws with
    | true => rw [hk] at h ha; exact linkNo_ok h ha
    | false =>
      rw [hk] at h ha
      simp only at h ha
      cases hu : unlike (get tm k) v with
      | true => rw [hu] at ha; exact ha.1
      | false =>
        rw [hu] at h ha
        simp only at h ha
        split at ha
        · split at ha
          · exact linkNo_ok h ha.2
          · exact linkNo_ok h ha
        · exact linkNo_ok h ha
def ifNo (b : Bool) (X : Tr) : Tr := match b with
  | true => .yes
  | false => X
theorem ifNo_h {b : Bool} {X : Tr} (h : (ifNo b X).holds) : b = true ∨ X.holds := by
  cases b with
  | true => exact .inl rfl
  | false => exact .inr h
def linked : List Prop → Tr → Tr
  | [], X => X
  | p :: r, X => .and (.lf p) (linked r X)
def linkT : List Prop → Tr → Tr
  | [], X => X
  | p :: r, X => .imp p (linkT r X)
theorem linked_ok : ∀ {l : List Prop} {X : Tr}, (linked l X).holds → allOf l ∧ X.holds
  | [], _, h => ⟨trivial, h⟩
  | _ :: _, _, h => ⟨⟨h.1, (linked_ok h.2).1⟩, (linked_ok h.2).2⟩
theorem linkT_ok : ∀ {l : List Prop} {X : Tr}, (linkT l X).holds → allOf l → X.holds
  | [], _, h, _ => h
  | _ :: _, _, h, hl => linkT_ok (h hl.1) hl.2

/-- A piece of code. -/
def sexec {P : Program} (E : Env P C) (L : List (Inv' C)) : Code → Tm → List (Ck C) → (Ex → Tm → List (Ck C) → Tr) → Tr
  | .skip, tm, m, K => K .nor tm m
  | .region id ops draw, tm, m, K => sreg E id ops draw tm m fun tm' m' => K .nor tm' m'
  | .seq a b, tm, m, K => sexec E L a tm m fun e tm' m' => match e with
    | .nor => sexec E L b tm' m' K
    | e => K e tm' m'
  | .cond c x y, tm, m, K => match ev tm m [] c with
    | some (.bool .t) => sexec E L x tm m K
    | some (.bool .f) => sexec E L y tm m K
    | some (.bool (.tm b)) => .and (.imp (b = true) (sexec E L x tm m K)) (.imp (b = false) (sexec E L y tm m K))
    | _ => .no
  | .block id c, tm, m, K => sexec E L c tm m fun e tm' m' => match e with
    | .exit i => match Nat.beq i id with
      | true => K .nor tm' m'
      | false => K (.exit i) tm' m'
    | e => K e tm' m'
  | .loop c, tm, m, K => fL (findInvs (firstId c) L) fun Is => fLN (writes c) fun ws =>
      .and (.lf (Stands Is fun I x0 => I.inv x0 ∧ (linked (linkP ws tm (I.tm x0)) (subP tm m (I.tm x0 ++ keepTm (keysOf (I.tm x0) ++ ws) tm) (I.mem x0 m) (unifTm tm (I.tm x0)))).holds))
        (allI Is fun I => .all fun x => ifNo (linkNo ws tm (I.tm x)) (.imp (I.inv x) (linkT (linkP ws tm (I.tm x)) (fTm (I.tm x ++ keepTm (keysOf (I.tm x) ++ ws) tm) fun tmL => fM (I.mem x m) fun mL => sexec E L c tmL mL fun e tm' m' => match e with
          | .nor => Tr.lf (Stands Is fun I' x' => I'.inv x' ∧ I'.meas x' < I.meas x ∧ (linked (linkP ws tm (I'.tm x')) (subP tm' m' (I'.tm x' ++ keepTm (keysOf (I'.tm x') ++ ws) tm) (I'.mem x' m) (unifTm tm' (I'.tm x')))).holds)
          | e => K e tm' m'))))
  | .exit id, tm, m, K => K (.exit id) tm m
  | .ret, tm, m, K => K .ret tm m
  | _, _, _, _ => .no

theorem sexec_ok {P : Program} (hmix : P.follows .mixedOrders = true) {S : Sx} {w0 : World} {E : Env P C} {L : List (Inv' C)} : ∀ {c : Code} {tm : Tm} {m : List (Ck C)} {K : Ex → Tm → List (Ck C) → Tr} {a : Act} {w : World} {Q : Exit → Act → World → Prop},
    sexec E L c tm m K → ActOK (ads m) E.n tm a → MemOK S w0 w m → (∀ e tm' m' a' w', K e tm' m' → ActOK (ads m') E.n tm' a' → MemOK S w0 w' m' → Q e.of a' w') → c.wp P Q a w := by
  intro c
  induction c with
  | skip => intro tm m K a w Q hs h hm hq; exact wp_skip (hq _ _ _ _ _ hs h hm)
  | region id ops draw =>
    intro tm m K a w Q hs h hm hq
    simp only [sexec, sreg] at hs
    cases draw with
    | false => exact wp_region_list (sops_ok hs h hm (fun tm' m' a' w' hk h' hm' => hq _ _ _ _ _ hk h' hm'))
    | true =>
      simp only at hs
      split at hs
      rotate_left
      · exact draw_ok hmix hs.1 hs.2.1 hs.2.2 h hm (fun tm' m' a' w' hk h' hm' => hq _ _ _ _ _ hk h' hm')
      obtain ⟨hB, hs⟩ := hs
      exact wp_region_quiet (C := fun w => MemOK S w0 w m) hmix hB hm.drew (sopsQ_ok hm.glob hs h (fun tm' a' hk h' w' hm' => hq _ _ _ _ _ hk h' hm'))
  | seq x y ihx ihy =>
    intro tm m K a w Q hs h hm hq
    refine wp_seq (ihx hs h hm fun e tm' m' a' w' hk h' hm' => ?_)
    cases e with
    | nor => exact ihy hk h' hm' hq
    | exit i => exact hq _ _ _ _ _ hk h' hm'
    | ret => exact hq _ _ _ _ _ hk h' hm'
  | cond c x y ihx ihy =>
    intro tm m K a w Q hs h hm hq
    have hnil : AlOK tm [] := by intro p hp; cases hp
    simp only [sexec] at hs
    split at hs <;> try (first | contradiction | exact False.elim hs)
    · rename_i hc
      exact wp_cond (t := true) (ev_ok h hm.glob hnil _ _ hc) (ihx hs h hm hq)
    · rename_i hc
      exact wp_cond (t := false) (ev_ok h hm.glob hnil _ _ hc) (ihy hs h hm hq)
    · rename_i b hc
      cases b with
      | true => exact wp_cond (t := true) (ev_ok h hm.glob hnil _ _ hc) (ihx (hs.1 rfl) h hm hq)
      | false => exact wp_cond (t := false) (ev_ok h hm.glob hnil _ _ hc) (ihy (hs.2 rfl) h hm hq)
  | block id c ih =>
    intro tm m K a w Q hs h hm hq
    refine wp_block (ih hs h hm fun e tm' m' a' w' hk h' hm' => ?_)
    cases e with
    | nor => exact hq _ _ _ _ _ hk h' hm'
    | exit i =>
      simp only [Ex.of, Exit.inBlock]
      simp only at hk
      split at hk
      · rename_i hb
        rw [if_pos (Nat.eq_of_beq_eq_true hb)]
        exact hq _ _ _ _ _ hk h' hm'
      · rename_i hb
        rw [if_neg (Nat.ne_of_beq_eq_false hb)]
        exact hq _ _ _ _ _ hk h' hm'
    | ret => exact hq _ _ _ _ _ hk h' hm'
  | loop c ih =>
    intro tm m K a w Q hs h hm hq
    simp only [sexec, fL_eq, fLN_eq] at hs
    obtain ⟨⟨I0, hI0, x0, hi0, hs0⟩, hround⟩ := hs
    have hround := allI_ok hround
    obtain ⟨hl0, hs0⟩ := linked_ok hs0
    obtain ⟨ha0, hm0⟩ := subP_ok hs0 h hm
    refine wp_loop' (fun n a w => ∃ I ∈ findInvs (firstId c) L, ∃ x, (I.inv x ∧ allOf (linkP (writes c) tm (I.tm x))) ∧ I.meas x = n ∧ ActOK (ads (I.mem x m)) E.n (I.tm x ++ keepTm (keysOf (I.tm x) ++ writes c) tm) a ∧ MemOK S w0 w (I.mem x m)) (I0.meas x0) ⟨I0, hI0, x0, ⟨hi0, hl0⟩, rfl, ha0, hm0⟩ ?_
    rintro n a1 w1 ⟨I, hI, x, ⟨hix, hlx⟩, rfl, hax, hmx⟩
    have hro := (ifNo_h (hround I hI x)).resolve_left (fun hno => linkNo_ok hno hlx)
    have hro := linkT_ok (hro hix) hlx
    simp only [fTm_eq, fM_eq] at hro
    refine ih hro hax hmx fun e tm' m' a' w' hk h' hm' => ?_
    cases e with
    | nor =>
      obtain ⟨I', hI', x', hi', hlt, hs'⟩ := hk
      obtain ⟨hl', hs'⟩ := linked_ok hs'
      obtain ⟨ha', hm''⟩ := subP_ok hs' h' hm'
      exact ⟨I'.meas x', hlt, I', hI', x', ⟨hi', hl'⟩, rfl, ha', hm''⟩
    | exit i => exact hq _ _ _ _ _ hk h' hm'
    | ret => exact hq _ _ _ _ _ hk h' hm'
  | exit id => intro tm m K a w Q hs h hm hq; exact wp_exit (hq _ _ _ _ _ hs h hm)
  | ret => intro tm m K a w Q hs h hm hq; exact wp_ret (hq _ _ _ _ _ hs h hm)
  | rangeFunc _ _ _ _ => intro tm m K a w Q hs; exact False.elim hs
  | scope _ _ => intro tm m K a w Q hs; exact False.elim hs
  | label _ => intro tm m K a w Q hs; exact False.elim hs
  | goto _ => intro tm m K a w Q hs; exact False.elim hs
  | refuse _ => intro tm m K a w Q hs; exact False.elim hs

end Go.Vx
