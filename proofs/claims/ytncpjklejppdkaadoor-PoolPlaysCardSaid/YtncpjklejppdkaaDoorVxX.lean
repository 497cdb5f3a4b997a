/-
  The symbolic evaluator, twenty-second part: a range over a function, its iterator and its rounds gone through in one walk.
  Conditions: none.
-/
import Derived.Test.YtncpjklejppdkaaDoorVxW
set_option linter.unusedVariables false
namespace Go.Vx
open Go
variable {C : Nat → Codec}

theorem heap_put_other {w : World} {l k : Nat} {o : Obj} (h : k ≠ l) : (w.putObj l o).heap[k]? = w.heap[k]? := World.putObj_heap_other h

/-- An object that is no chunk of ours is laid, and its place is kept in mind. -/
theorem MemOK.pinNew {s : Nat → Prop} {ps : List (Nat × Obj)} {w0 w : World} {m : List (Ck C)} (h : MemOK ⟨s, ps⟩ w0 w m) (o : Obj) : MemOK ⟨s, (w.heap.size, o) :: ps⟩ w0 (w.alloc o) m := by
  have hb : ∀ k, k < w.heap.size → (w.alloc o).heap[k]? = w.heap[k]? := fun k hk => heap_alloc_lt w o hk
  refine ⟨h.os, h.tape, h.output, by have := h.size; simp; omega, ?_, h.inS, ?_, ?_, h.apart, ?_, h.glob, ?_⟩
  · intro k hk hno; rw [hb k (Nat.lt_of_lt_of_le hk h.size)]; exact h.keep k hk hno
  · intro c hc; exact Ck.ok_same (h.ok c hc) (hb _ (h.lt c hc))
  · intro c hc hw hl a ha
    rw [World.frozen?_of_block (w := w) (by rw [ha]; exact hb _ (h.lt c hc))]
    exact h.wrok c hc hw hl a ha
  · intro c hc; have := h.lt c hc; simp; omega
  · have hm := h.more
    refine ⟨fun g v hv => ?_, fun g p hp => ?_, fun p hp => ?_, ?_⟩
    · obtain ⟨h1, h2, h3⟩ := hm.gv g v hv
      exact ⟨(World.cell?_of_block (w := w) (a := ⟨g, 0, none⟩) (hb g (Nat.lt_of_lt_of_le h2 h.size))).trans h1, h2, h3⟩
    · obtain ⟨h1, h2, h3⟩ := hm.gp g p hp
      exact ⟨(hb _ (Nat.lt_of_lt_of_le h2 h.size)).trans h1, h2, h3⟩
    · rcases List.mem_cons.1 hp with rfl | hp
      · exact ⟨World.alloc_heap_new w o, h.size, fun c hc _ => Nat.ne_of_lt (h.lt c hc)⟩
      · obtain ⟨h1, h2, h3⟩ := hm.pin p hp
        exact ⟨(hb _ (heap_size_of h1)).trans h1, h2, h3⟩
    · have : w.heap.size ∉ ps.map (·.1) := by
        intro hmem
        obtain ⟨p, hp, he⟩ := List.mem_map.1 hmem
        have := heap_size_of (hm.pin p hp).1
        omega
      simpa [this] using hm.nod

/-- Such an object turns. -/
theorem MemOK.repin {s : Nat → Prop} {ps : List (Nat × Obj)} {w0 w : World} {m : List (Ck C)} {l : Nat} {o : Obj} (h : MemOK ⟨s, (l, o) :: ps⟩ w0 w m) (o' : Obj) : MemOK ⟨s, (l, o') :: ps⟩ w0 (w.putObj l o') m := by
  have hm := h.more
  obtain ⟨hl1, hl2, hl3⟩ := hm.pin (l, o) (by simp)
  simp only at hl1 hl2 hl3
  have hb : ∀ k, k ≠ l → (w.putObj l o').heap[k]? = w.heap[k]? := fun k hk => heap_put_other hk
  have hlv : ∀ c ∈ m, c.live = false → ∀ w', Ck.ok (ads m) w' c := by
    intro c _ hc w'
    unfold Ck.live at hc; unfold Ck.ok
    split at hc <;> first | cases hc | skip
    rename_i hd; rw [hd]; trivial
  refine ⟨h.os, h.tape, h.output, by have := h.size; simpa using this, ?_, h.inS, ?_, ?_, h.apart, ?_, h.glob, ?_⟩
  · intro k hk hno
    rw [hb k (by omega)]
    exact h.keep k hk hno
  · intro c hc
    cases hcl : c.live with
    | false => exact hlv c hc hcl _
    | true => exact Ck.ok_same (h.ok c hc) (hb _ (hl3 c hc hcl))
  · intro c hc hw hl a ha
    rw [World.frozen?_of_block (w := w) (by rw [ha]; exact hb _ (hl3 c hc hl))]
    exact h.wrok c hc hw hl a ha
  · intro c hc; have := h.lt c hc; simpa using this
  · have hnod := hm.nod
    simp only [List.map_cons, List.nodup_cons] at hnod
    refine ⟨fun g v hv => ?_, fun g p hp => ?_, fun p hp => ?_, by simpa using hm.nod⟩
    · obtain ⟨h1, h2, h3⟩ := hm.gv g v hv
      exact ⟨(World.cell?_of_block (w := w) (a := ⟨g, 0, none⟩) (hb g (by omega))).trans h1, h2, h3⟩
    · obtain ⟨h1, h2, h3⟩ := hm.gp g p hp
      exact ⟨(hb _ (by omega)).trans h1, h2, h3⟩
    · rcases List.mem_cons.1 hp with rfl | hp
      · exact ⟨World.putObj_heap_same (heap_size_of hl1), hl2, hl3⟩
      · obtain ⟨h1, h2, h3⟩ := hm.pin p (List.mem_cons_of_mem _ hp)
        refine ⟨(hb _ ?_).trans h1, h2, h3⟩
        rintro he
        exact hnod.1 (he ▸ List.mem_map.2 ⟨p, hp, rfl⟩)
/-- It is kept in mind no more. -/
theorem MemOK.unpin {s : Nat → Prop} {ps : List (Nat × Obj)} {w0 w : World} {m : List (Ck C)} {l : Nat} {o : Obj} (h : MemOK ⟨s, (l, o) :: ps⟩ w0 w m) : MemOK ⟨s, ps⟩ w0 w m := by
  have hm := h.more
  refine ⟨h.os, h.tape, h.output, h.size, h.keep, h.inS, h.ok, h.wrok, h.apart, h.lt, h.glob, hm.gv, hm.gp, fun p hp => hm.pin p (List.mem_cons_of_mem _ hp), ?_⟩
  have := hm.nod
  simp only [List.map_cons, List.nodup_cons] at this
  exact this.2

/-- An iterator whose text is gone through. -/
structure It (P : Program) (C : Nat → Codec) where
  f : Nat
  fn : Func
  c : Code
  E : Env P C
  L : List (Inv' C)
  hf : P.funcs[f]? = some fn
  hb : fn.body = some c
  hname : (fn.name == "runtime.NumGoroutine") = false
  hn : fn.ntmps = E.n
def findIt {P : Program} (f : Nat) : List (It P C) → Option (It P C)
  | [] => none
  | x :: r => match Nat.beq x.f f with
    | true => some x
    | false => findIt f r
theorem findIt_f {P : Program} {f : Nat} : ∀ {l : List (It P C)} {it : It P C}, findIt f l = some it → it.f = f
  | [], _, h => by cases h
  | x :: r, it, h => by
    simp only [findIt] at h
    split at h
    · rename_i he; simp only [Option.some.injEq] at h; subst h; exact Nat.eq_of_beq_eq_true he
    · exact findIt_f h

def noRf : Rf C := fun _ _ _ _ _ _ _ => .no
theorem noRf_ok {P : Program} {n : Nat} {G : Gs} : ROK (C := C) P n G noRf := fun _ _ _ _ _ _ _ _ _ _ _ h => h.elim
theorem noY_ok {P : Program} {G : Gs} : YOK (C := C) P G none := fun _ _ h => by cases h

def putAll (n : Nat) : Tm → List Nat → List SV → Option Tm
  | tm, [], [] => some tm
  | tm, p :: r, v :: s => match put? n tm (some p) [] v with
    | some tm' => putAll n tm' r s
    | none => none
  | _, _, _ => none
theorem putAll_len {n : Nat} : ∀ {ps : List Nat} {vs : List SV} {tm tm' : Tm}, putAll n tm ps vs = some tm' → ps.length = vs.length
  | [], [], _, _, _ => rfl
  | p :: r, v :: s, tm, tm', h => by
    simp only [putAll] at h
    split at h
    · simp [putAll_len h]
    · cases h
  | [], _ :: _, _, _, h => by simp [putAll] at h
  | _ :: _, [], _, _, h => by simp [putAll] at h
theorem putAll_ok {ad : Nat → Ad} {n : Nat} : ∀ {ps : List Nat} {vs : List SV} {tm tm' : Tm} {a : Act}, ActOK ad n tm a → putAll n tm ps vs = some tm' →
    ActOK ad n tm' { tmps := (ps.zip (SV.vas ad vs)).foldl (fun t (p, v) => t.setIfInBounds p v) a.tmps, defers := [] }
  | [], [], tm, tm', a, h, hp => by
    simp only [putAll, Option.some.injEq] at hp; subst hp
    exact ⟨rfl, h.size, h.tmps, h.inv⟩
  | p :: r, v :: s, tm, tm', a, h, hp => by
    simp only [putAll] at hp
    split at hp
    · rename_i tm1 h1
      have hA := put_ok h h1 (by simp) (v.va ad) (by simp [mkc])
      exact putAll_ok (a := a.put (some p) (v.va ad)) hA hp
    · cases hp
  | [], _ :: _, _, _, _, _, h => by simp [putAll] at h
  | _ :: _, [], _, _, _, _, h => by simp [putAll] at h

def PJ.code : Ex → Code
  | .nor => .skip
  | .exit i => .exit i
  | .ret => .ret
def PJ.back : PJ → Ex
  | none => .nor
  | some e => e

/-- A round: what is assigned, and the body. -/
def goR {P : Program} (E : Env P C) (L : List (Inv' C)) (tmC : Tm) (ps : Array Tmp) (asg bd : Code) : Yf C := fun vs tmI m Kc =>
  match tmLt m.length tmI, putAll E.n tmC ps.toList vs with
  | true, some tmb => sexecG E L (tmNm tmI ++ tmNm tmC) none noRf asg none tmb m fun e _ tma ma => match e with
    | .nor => sexecG E L (tmNm tmI ++ tmNm tmC) none noRf bd none tma ma fun e _ tm2 m2 => match e with
      | .nor => Kc true none m2
      | .exit i => Kc false (some (.exit i)) m2
      | .ret => Kc false (some .ret) m2
    | _ => .no
  | _, _ => .no

def rangeF {P : Program} (E : Env P C) (L : List (Inv' C)) (its : List (It P C)) : Rf C := fun g ps asg bd tm m K =>
  match ev tm m [] g with
  | some (.fn (.func gf) [] cap) => match findIt gf its with
    | some it => match tmLt m.length tm && SV.lts m.length cap && Nat.ble (cap.length + 1) it.E.n && noCnds cap with
      | false => .no
      | true => .all fun (l : Nat) => fTm (initTm 0 (.fn (.yield l) [] [] :: cap)) fun tmI => sexecG it.E it.L (tmNm tm) (some (l, goR E L tm ps asg bd)) noRf it.c none tmI m fun e pj tmI' m' => match e with
        | .exit _ => .no
        | _ => match retSV P it.fn tmI' m' with
          | some (qs, _) => conj qs (K pj.back tm m')
          | none => .no
    | none => .no
  | _ => .no

theorem tmLt_nm {n : Nat} : ∀ {tm : Tm}, tmLt n tm = true → ∀ c ∈ tmNm tm, c < n := by
  have hv : ∀ (v : SV), SV.lt n v = true → ∀ c ∈ v.nm, c < n := by
    intro v
    induction v using SV.rec (motive_2 := fun vs => SV.lts n vs = true → ∀ c ∈ SV.nms vs, c < n) with
    | ptr c i f => intro h k hk; simp only [SV.lt] at h; simp only [SV.nm, List.mem_singleton] at hk; subst hk; simpa using h
    | sl c i f m => intro h k hk; simp only [SV.lt] at h; simp only [SV.nm, List.mem_singleton] at hk; subst hk; simpa using h
    | agg vs ih => intro h k hk; simp only [SV.lt] at h; simp only [SV.nm] at hk; exact ih h k hk
    | tup vs ih => intro h k hk; simp only [SV.lt] at h; simp only [SV.nm] at hk; exact ih h k hk
    | ifc t v ih => intro h k hk; simp only [SV.lt] at h; simp only [SV.nm] at hk; exact ih h k hk
    | fn f a b iha ihb =>
      intro h k hk
      simp only [SV.lt, Bool.and_eq_true] at h
      simp only [SV.nm, List.mem_append] at hk
      rcases hk with hk | hk
      · exact iha h.1 k hk
      · exact ihb h.2 k hk
    | cnd cs v ih => intro h k hk; simp only [SV.lt] at h; simp only [SV.nm] at hk; exact ih h k hk
    | nil => rename_i k hk; cases hk
    | cons v r ihv ihr =>
      rename_i h k hk
      simp only [SV.lts, Bool.and_eq_true] at h
      simp only [SV.nms, List.mem_append] at hk
      rcases hk with hk | hk
      · exact ihv h.1 k hk
      · exact ihr h.2 k hk
    | _ => intro _ k hk; simp [SV.nm] at hk
  intro tm
  induction tm with
  | nil => intro _ c hc; cases hc
  | cons p r ih =>
    obtain ⟨k, v⟩ := p
    intro h c hc
    simp only [tmLt, Bool.and_eq_true] at h
    simp only [tmNm, List.mem_append] at hc
    rcases hc with hc | hc
    · exact hv v h.1 c hc
    · exact ih h.2 c hc

/-- What the record of the loop is, by the jump that is left. -/
def recOf (rec : LoopState → Option Code → Loop) : PJ → Obj
  | none => .loop (rec .ready none)
  | some e => .loop (rec .done (some (PJ.code e)))

theorem goR_ok {P : Program} (hmix : P.follows .mixedOrders = true) {E : Env P C} {L : List (Inv' C)} {tmC : Tm} {ps : Array Tmp} {asg bd : Code} {s : Nat → Prop} {old : List (Nat × Obj)} {w0 : World} {A0 : Nat → Ad} {a0 : Act} {l : Nat} {fn : FuncId} {D : Nat}
    {rec : LoopState → Option Code → Loop} (hrec : ∀ st pe, rec st pe = { state := st, pending := pe, fn := fn, tmps := a0.tmps, params := ps, assign := asg, body := bd, defers := D }) (ha0 : ActOK A0 E.n tmC a0) :
    YOK P ⟨none, fun pj _ => ⟨s, (l, recOf rec pj) :: old⟩, w0, fun _ => [], A0, tmNm tmC⟩ (some (l, goR E L tmC ps asg bd)) := by
  intro l' go hgo vs tmI m Kc w ds R h hm hx hK
  simp only [Option.some.injEq, Prod.mk.injEq] at hgo
  obtain ⟨rfl, rfl⟩ := hgo
  unfold goR at h
  split at h
  rotate_left
  · exact h.elim
  rename_i tmb hlt hput
  simp only at hm hx hK
  have hpin := (hm.more.pin (l, recOf rec none) (by simp)).1
  simp only [recOf] at hpin
  have hlen := putAll_len hput
  have hy := run_yield (P := P) (args := (SV.vas (ads m) vs).toArray) hpin (by rw [hrec]; simp [SV.vas_eq, ← hlen])
  refine ⟨_, _, _, _, hy, ?_⟩
  simp only [hrec]
  have hact : ActOK (ads m) E.n tmC a0 := ha0.fixed (fun c hc => ((hx c hc).2).symm)
  have hactb := putAll_ok hact hput
  have hz : (ps.zip (SV.vas (ads m) vs).toArray).foldl (fun tmps (x : Tmp × Value) => tmps.setIfInBounds x.1 x.2) a0.tmps = (ps.toList.zip (SV.vas (ads m) vs)).foldl (fun t (x : Nat × Value) => t.setIfInBounds x.1 x.2) a0.tmps := by
    rw [← Array.foldl_toList]
    simp
  obtain ⟨G1, hG1⟩ : ∃ G1 : Gs, G1 = ⟨some l, fun _ _ => ⟨s, (l, .loop (rec .ready none)) :: old⟩, w0, fun _ => [], ads m, tmNm tmI ++ tmNm tmC⟩ := ⟨_, rfl⟩
  obtain ⟨G2, hG2⟩ : ∃ G2 : Gs, G2 = ⟨some l, fun _ _ => ⟨s, (l, .loop (rec .busy none)) :: old⟩, w0, fun _ => [], ads m, tmNm tmI ++ tmNm tmC⟩ := ⟨_, rfl⟩
  have hfx : FixOK (ads m) (tmNm tmI ++ tmNm tmC) m := by
    intro c hc
    rcases List.mem_append.1 hc with hc | hc
    · exact ⟨tmLt_nm hlt c hc, rfl⟩
    · exact ⟨(hx c hc).1, rfl⟩
  have back : ∀ m' : List (Ck C), FixOK (ads m) (tmNm tmI ++ tmNm tmC) m' → FixOK A0 (tmNm tmC) m' ∧ (∀ c ∈ tmNm tmI, c < m'.length ∧ ads m' c = ads m c) := by
    intro m' h'
    refine ⟨fun c hc => ?_, fun c hc => h' c (List.mem_append.2 (.inl hc))⟩
    obtain ⟨h1, h2⟩ := h' c (List.mem_append.2 (.inr hc))
    exact ⟨h1, h2.trans (hx c hc).2⟩
  refine roundIn_of_wpIn (FR_fn none fn) ?_
  have h1 := sexecG_ok (P := P) hmix (G := G1) (E := E) (L := L) (Y := none) (RF := noRf) noY_ok noRf_ok (c := asg) (pj := none) (tm := tmb) (m := m) (ds := []) (w := w)
    (a := { tmps := (ps.toList.zip (SV.vas (ads m) vs)).foldl (fun t (x : Nat × Value) => t.setIfInBounds x.1 x.2) a0.tmps, defers := [] })
    (Q := Exit.then (fun a₁ w₁ => ∃ w₂, (Instr.beginRound l).run P w₁ = .ok () w₂ ∧ bd.wpIn (Fence.wide.inRound l) 0 P (roundPost P l R) a₁ w₂) (fun _ _ _ => False))
    (by subst hG1; exact h) hactb (by subst hG1; exact hm) (by subst hG1; exact hfx) ?_
  · have e : wa ({ tmps := (ps.toList.zip (SV.vas (ads m) vs)).foldl (fun t (x : Nat × Value) => t.setIfInBounds x.1 x.2) a0.tmps, defers := [] } : Act) (G1.dm []) = { tmps := (ps.toList.zip (SV.vas (ads m) vs)).foldl (fun t (x : Nat × Value) => t.setIfInBounds x.1 x.2) a0.tmps, defers := [] } := by subst hG1; rfl
    rw [e] at h1
    rw [hz]
    have e2 : FR G1.r = Fence.wide.inRound l := by subst hG1; rfl
    rw [e2] at h1
    exact h1
  intro e pj' tma ma a1 w1 ds' hk ha1 hm1 hx1
  subst hG1
  cases e with
  | exit i => exact hk.elim
  | ret => exact hk.elim
  | nor =>
    simp only at hk hm1 hx1
    have hpin1 := (hm1.more.pin (l, .loop (rec .ready none)) (by simp)).1
    have hbr := run_beginRound (P := P) hpin1 (by rw [hrec])
    have hm2 := hm1.repin (.loop { rec .ready none with state := .busy })
    have ebusy : ({ rec .ready none with state := .busy } : Loop) = rec .busy none := by rw [hrec, hrec]
    rw [ebusy] at hm2 hbr
    refine ⟨_, hbr, ?_⟩
    have h2 := sexecG_ok (P := P) hmix (G := G2) (E := E) (L := L) (Y := none) (RF := noRf) noY_ok noRf_ok (c := bd) (pj := none) (tm := tma) (m := ma) (ds := []) (w := w1.putObj l (.loop (rec .busy none))) (a := a1)
      (Q := roundPost P l R) (by subst hG2; exact hk) ha1 (by subst hG2; exact hm2) (by subst hG2; exact hx1) ?_
    · have e : wa a1 (G2.dm []) = wa a1 [] := by subst hG2; rfl
      rw [e] at h2
      have e2 : FR G2.r = Fence.wide.inRound l := by subst hG2; rfl
      rw [e2] at h2
      exact h2
    intro e pj2 tm2 m2 a2 w2 ds2 hk2 ha2 hm3 hx2
    subst hG2
    simp only at hm3 hx2
    have hpin2 := (hm3.more.pin (l, .loop (rec .busy none)) (by simp)).1
    obtain ⟨b1, b2⟩ := back m2 hx2
    have fin : ∀ (jump : Option Code) (pj : PJ), (jump.isNone = true ↔ pj = none) → pj.map PJ.code = jump → (Kc jump.isNone pj m2).holds → ∃ v w', (Instr.endRound l jump).run P w2 = .ok v w' ∧ R (.returned v) w' := by
      intro jump pj hj hpj hkc
      have her := run_endRound (P := P) jump hpin2
      refine ⟨_, _, her, hK _ pj m2 _ hkc ?_ b1 b2⟩
      have hm4 := hm3.repin (.loop { rec .busy none with state := if jump.isNone then .ready else .done, pending := jump })
      have e : (Obj.loop { rec .busy none with state := if jump.isNone then .ready else .done, pending := jump }) = recOf rec pj := by
        cases pj with
        | none =>
          simp only [Option.map_none] at hpj
          subst hpj
          simp [recOf, hrec]
        | some e =>
          simp only [Option.map_some] at hpj
          subst hpj
          simp [recOf, hrec]
      rw [e] at hm4 ⊢
      exact hm4
    cases e with
    | nor => exact fin none none (by simp) rfl hk2
    | exit i => exact fin (some (.exit i)) (some (.exit i)) (by simp) rfl hk2
    | ret => exact fin (some .ret) (some .ret) (by simp) rfl hk2

/-- What a new frame's slots hold. -/
theorem init_ok {ad : Nat → Ad} {n : Nat} {args : List SV} (hlen : Nat.ble args.length n = true) (hnc : noCnds args = true) :
    ActOK ad n (initTm 0 args) { tmps := (SV.vas ad args).toArray ++ Array.replicate (n - (SV.vas ad args).toArray.size) Go.undef, defers := [] } := by
  have hlen : args.length ≤ n := Nat.le_of_ble_eq_true hlen
  have hsz : (SV.vas ad args).toArray.size = args.length := by simp [SV.vas_eq]
  refine ⟨rfl, by simp [SV.vas_eq]; omega, fun t => ?_, ?_⟩
  · rcases get_init args 0 t with h1 | ⟨_, v, h2, h3⟩
    · exact .inl h1
    · right
      simp only [Nat.sub_zero] at h2
      have hlt : t < args.length := (List.getElem?_eq_some_iff.1 h2).1
      rw [h3, Array.getElem?_append_left (by rw [hsz]; exact hlt)]
      simp [SV.vas_eq, h2]
  · intro t cs v hg
    exfalso
    rcases get_init args 0 t with h1 | ⟨_, u, h2, h3⟩
    · rw [h1] at hg; cases hg
    · rw [h3] at hg
      exact notCnd_ok (noCnds_ok hnc u (List.mem_of_getElem? h2)) cs v hg

/-- The marks among the deferred calls, and what lies at their places. -/
def mark (D : Nat) : Deferred := { target := .collected D, args := #[] }
def mpin (D : Nat) : Nat × Obj := (D, .deferred (some []))

theorem rangeF_ok {P : Program} (hmix : P.follows .mixedOrders = true) {E : Env P C} {L : List (Inv' C)} {its : List (It P C)} {s : Nat → Prop} {w0 : World} :
    ROK P E.n ⟨none, fun _ ds => ⟨s, ds.map mpin⟩, w0, fun ds => ds.map mark, noAd, []⟩ (rangeF E L its) := by
  intro g ps asg bd tm m K a w Q ds h ha hm hx hq
  simp only at hm hq
  unfold rangeF at h
  split at h <;> try (first | contradiction | exact False.elim h)
  rename_i gf cap hg
  split at h
  rotate_left
  · exact h.elim
  rename_i it hit
  split at h
  · exact h.elim
  rename_i hc
  simp only [Bool.and_eq_true] at hc
  obtain ⟨⟨⟨c1, c2⟩, c3⟩, c4⟩ := hc
  have hf := findIt_f hit
  subst hf
  have hnil : AlOK tm [] := by intro p hp; cases hp
  have eg : (wa a (ds.map mark)).eval g = .func (.func it.f) #[] (SV.vas (ads m) cap).toArray := by
    rw [wa_eval, ev_ok ha hm.glob hnil _ _ hg]; rfl
  refine wpIn_rangeFunc ?_
  intro fn _
  obtain ⟨rec, hrec⟩ : ∃ rec : LoopState → Option Code → Loop, rec = fun st pe => { state := st, pending := pe, fn, tmps := a.tmps, params := ps, assign := asg, body := bd, defers := w.heap.size } := ⟨_, rfl⟩
  have hrec' : ∀ st pe, rec st pe = { state := st, pending := pe, fn := fn, tmps := a.tmps, params := ps, assign := asg, body := bd, defers := w.heap.size } := fun _ _ => by rw [hrec]
  obtain ⟨W1, hW1⟩ : ∃ W1, (w.alloc (.deferred (some []))).alloc (.loop (rec .ready none)) = W1 := ⟨_, rfl⟩
  have hm1 : MemOK ⟨s, (w.heap.size + 1, recOf rec none) :: (mpin w.heap.size) :: ds.map mpin⟩ w0 W1 m := by
    have := (hm.pinNew (.deferred (some []))).pinNew (.loop (rec .ready none))
    rw [World.size_alloc, hW1] at this
    exact this
  refine ⟨w.heap.size + 1, [mark w.heap.size], W1, { target := .fn (.func it.f) (SV.vas (ads m) cap).toArray, args := #[.func (.yield (w.heap.size + 1)) #[] #[]] }, W1, it.f,
    #[.func (.yield (w.heap.size + 1)) #[] #[]] ++ (SV.vas (ads m) cap).toArray, W1, ?_, ?_, ?_, ?_, fun hd => (by rw [FR_depth] at hd; cases hd), ?_⟩
  · rw [← hW1, hrec]; exact run_enterLoop_outer _ _ _ _ _
  · simp only [resolve, eg, Deferred.ofValue]
    simp [Act.eval]
  · intro f' _; exact FR_fn _ f'
  · simp [invoke, run_callFunc it.hf it.hb it.hname]
  · have hin := h (w.heap.size + 1)
    simp only [fTm_eq] at hin
    refine callsIn_of_wp it.hf it.hb (FR_fn _ _) ?_
    obtain ⟨GI, hGI⟩ : ∃ GI : Gs, GI = ⟨none, fun pj _ => ⟨s, (w.heap.size + 1, recOf rec pj) :: mpin w.heap.size :: ds.map mpin⟩, w0, fun _ => [], ads m, tmNm tm⟩ := ⟨_, rfl⟩
    have hy : YOK P GI (some (w.heap.size + 1, goR E L tm ps asg bd)) := by
      subst hGI
      exact goR_ok hmix hrec' ha
    have hargs : (#[Value.func (.yield (w.heap.size + 1)) #[] #[]] ++ (SV.vas (ads m) cap).toArray) = (SV.vas (ads m) (.fn (.yield (w.heap.size + 1)) [] [] :: cap)).toArray := by
      apply Array.ext'; simp [SV.vas, SV.va]
    rw [hargs]
    have hinit := init_ok (ad := ads m) (n := it.E.n) (args := .fn (.yield (w.heap.size + 1)) [] [] :: cap) (by simpa using c3) (by simp [noCnds, notCnd, c4])
    rw [← it.hn] at hinit
    rw [it.hn] at hinit
    have h3 := sexecG_ok (P := P) hmix (G := GI) (E := it.E) (L := it.L) (Y := some (w.heap.size + 1, goR E L tm ps asg bd)) (RF := noRf) hy noRf_ok (c := it.c) (pj := none) (m := m) (ds := []) (w := W1)
      (Q := bodyPost P it.fn (rangePost (FR none) 0 P (w.heap.size + 1) Q { wa a (ds.map mark) with defers := [mark w.heap.size] ++ (wa a (ds.map mark)).defers }))
      (by subst hGI; exact hin) hinit (by subst hGI; exact hm1) (by subst hGI; exact fun c hc => ⟨tmLt_nm c1 c hc, rfl⟩) ?_
    · have e2 : FR GI.r = FR none := by subst hGI; rfl
      have e3 : ∀ b : Act, b.defers = [] → wa b (GI.dm []) = b := by
        intro b hb; subst hGI
        show ({ b with defers := b.defers ++ [] } : Act) = b
        cases b; simp at hb ⊢
      rw [e2, e3 _ rfl, ← it.hn] at h3
      exact h3
    intro e pj tmI' m' a' w' ds' hk ha' hm' hx'
    have fin : (match retSV P it.fn tmI' m' with | some (qs, _) => conj qs (K pj.back tm m') | none => .no : Tr).holds →
        (wa a' (GI.dm ds')).defers = [] ∧ ∃ v, (results it.fn (wa a' (GI.dm ds')).tmps).run P w' = .ok v w' ∧
          rangePost (FR none) 0 P (w.heap.size + 1) Q { wa a (ds.map mark) with defers := [mark w.heap.size] ++ (wa a (ds.map mark)).defers } (.returned v) w' := by
      intro hk
      split at hk <;> try (first | contradiction | exact False.elim hk)
      rename_i qs r hr
      obtain ⟨hp, hK⟩ := (conj_iff _ _).1 hk
      refine ⟨by subst hGI; show a'.defers ++ [] = []; rw [ha'.defers]; rfl, _, retSV_ok (S := GI.Sp pj ds') ha' hm' hr hp, ?_⟩
      subst hGI
      simp only at hm' hx'
      have hpin := (hm'.more.pin (w.heap.size + 1, recOf rec pj) (by simp)).1
      have hA : ActOK (ads m') E.n tm a := ha.fixed (fun c hc => ((hx' c hc).2).symm)
      have hdf : ({ wa a (ds.map mark) with defers := [mark w.heap.size] ++ (wa a (ds.map mark)).defers } : Act) = wa a ((w.heap.size :: ds).map mark) := by
        show ({ tmps := a.tmps, defers := [mark w.heap.size] ++ (a.defers ++ ds.map mark) } : Act) = { tmps := a.tmps, defers := a.defers ++ ((w.heap.size :: ds).map mark) }
        rw [ha.defers]; rfl
      rw [hdf]
      have hend : ∀ (o : Obj), MemOK ⟨s, (w.heap.size :: ds).map mpin⟩ w0 (w'.putObj (w.heap.size + 1) o) m' := fun o => (hm'.repin o).unpin
      cases pj with
      | none =>
        simp only [recOf] at hpin
        refine ⟨none, _, by have := run_endLoop (P := P) hpin (by rw [hrec]; simp); rw [hrec] at this; exact this, ?_⟩
        refine hq .nor tm m' a _ (w.heap.size :: ds) hK hA ?_ (fun c hc => by cases hc)
        exact hend _
      | some e =>
        simp only [recOf] at hpin
        refine ⟨some (PJ.code e), _, by have := run_endLoop (P := P) hpin (by rw [hrec]; simp); rw [hrec] at this; exact this, ?_⟩
        have hQ : ∀ w4, MemOK ⟨s, (w.heap.size :: ds).map mpin⟩ w0 w4 m' → Q (Ex.of e) (wa a ((w.heap.size :: ds).map mark)) w4 := fun w4 hm4 => hq e tm m' a w4 (w.heap.size :: ds) hK hA hm4 (fun c hc => by cases hc)
        cases e with
        | nor => exact wpIn_skip (hQ _ (hend _))
        | exit i => exact wpIn_exit (hQ _ (hend _))
        | ret => exact wpIn_ret (hQ _ (hend _))
    cases e with
    | nor => exact fin hk
    | exit i => exact hk.elim
    | ret => exact fin hk

/-- A function's body that may range over functions. -/
def fexecR {P : Program} (E : Env P C) (L : List (Inv' C)) (its : List (It P C)) (fn : Func) (c : Code) (args : List SV) (mem : List (Ck C)) (G : SV → List (Ck C) → Tr) : Tr :=
  fTm (initTm 0 args) fun tm0 => fM mem fun mem0 => sexecG E L [] none (rangeF E L its) c none tm0 mem0 fun e _ tm m => match e with
    | .exit _ => .no
    | _ => match retSV P fn tm m with
      | some (ps, r) => conj ps (fSV r fun r => fM m fun m => G r m)
      | none => .no

theorem leaves_marks {P : Program} {fn : Func} {tmps : Array Value} {R : Ending → World → Prop} {s : Nat → Prop} {w0 : World} {m : List (Ck C)} : ∀ (ds : List Nat) (w : World), MemOK ⟨s, ds.map mpin⟩ w0 w m →
    (∀ w', MemOK ⟨s, []⟩ w0 w' m → ∃ v, (results fn tmps).run P w' = .ok v w' ∧ R (.returned v) w') → LeavesInM (FR none) 0 P fn tmps R (ds.map mark) .returning w
  | [], w, hm, h => h w hm
  | D :: ds, w, hm, h => by
    refine ⟨by simp, .inl ⟨D, _, rfl, run_takeDeferred (hm.more.pin (mpin D) (by simp)).1, ?_⟩⟩
    exact leaves_marks ds _ ((hm.repin (.deferred none)).unpin) h

theorem fexecR_ok {P : Program} (hmix : P.follows .mixedOrders = true) {E : Env P C} {L : List (Inv' C)} {its : List (It P C)} {f : FuncId} {fn : Func} {c : Code} {args : List SV} {mem : List (Ck C)} {G : SV → List (Ck C) → Tr}
    (hf : P.funcs[f]? = some fn) (hb : fn.body = some c) (hn : fn.ntmps = E.n) (hlen : Nat.ble args.length E.n = true) (hnc : noCnds args = true) (h : fexecR E L its fn c args mem G) (w : World) (hm : MemOK (wrS mem) w w mem) :
    Calls P f (SV.vas (ads mem) args).toArray w fun e w' => ∃ r m', e = .returned (r.va (ads m')) ∧ MemOK (wrS mem) w w' m' ∧ G r m' := by
  refine (callsIn_wide (n := 0)).1 (callsIn_of_wp_marks hf hb trivial ?_)
  have hinit := init_ok (ad := ads mem) (n := E.n) hlen hnc
  unfold fexecR at h
  simp only [fTm_eq, fM_eq, fSV_eq] at h
  have h3 := sexecG_ok (P := P) hmix (G := ⟨none, fun _ ds => ⟨(wrS mem).set, ds.map mpin⟩, w, fun ds => ds.map mark, noAd, []⟩) (E := E) (L := L) (Y := none) (RF := rangeF E L its) noY_ok (rangeF_ok hmix) (c := c) (pj := none) (m := mem) (ds := []) (w := w)
    (Q := bodyPostM Fence.wide 0 P fn (fun e w' => ∃ r m', e = .returned (r.va (ads m')) ∧ MemOK (wrS mem) w w' m' ∧ G r m')) h hinit hm (fun c hc => by cases hc) ?_
  · rw [← hn] at h3
    exact h3
  intro e pj' tm m a w' ds hk ha hm' _
  have fin : (match retSV P fn tm m with | some (ps, r) => conj ps (G r m) | none => .no : Tr).holds → LeavesInM Fence.wide 0 P fn a.tmps (fun e w' => ∃ r m', e = .returned (r.va (ads m')) ∧ MemOK (wrS mem) w w' m' ∧ G r m') (wa a (ds.map mark)).defers .returning w' := by
    intro hk
    split at hk <;> try (first | contradiction | exact False.elim hk)
    rename_i ps r hr
    obtain ⟨hp, hG⟩ := (conj_iff _ _).1 hk
    have e : (wa a (ds.map mark)).defers = ds.map mark := by show a.defers ++ _ = _; rw [ha.defers]; rfl
    rw [e]
    exact leaves_marks ds w' hm' fun w'' hm'' => ⟨_, retSV_ok ha hm'' hr hp, r, m, rfl, hm'', hG⟩
  cases e with
  | nor => exact fin hk
  | exit i => exact hk.elim
  | ret => exact fin hk

/-- From the body to the contract, where the body ranges over functions. -/
theorem loc_fnR {P : Program} (hmix : P.follows .mixedOrders = true) {E : Env P C} {L : List (Inv' C)} (its : List (It P C)) {f : FuncId} {fn : Func} {c : Code} {args : List SV} {mem : List (Ck C)} {alts : List (Alt C)}
    (hf : P.funcs[f]? = some fn) (hb : fn.body = some c) (hname : (fn.name == "runtime.NumGoroutine") = false) (hn : fn.ntmps = E.n) (hlen : Nat.ble args.length E.n = true) (hnc : noCnds args = true)
    (h : fexecR E L its fn c args mem fun r m => .lf (Ends alts fun A y => (finP mem r m (A.res y) (A.out y)).holds)) :
    LocG P (.fn f) mem args fun r m' => Ends alts fun A y => r = A.res y ∧ m' = A.out y := by
  intro w hm
  refine ⟨f, _, run_callFunc hf hb hname _ w, (fexecR_ok hmix hf hb hn hlen hnc h w hm).mono ?_⟩
  rintro e w' ⟨r, m', rfl, hm', A, hA, y, hy, hfin⟩
  obtain ⟨hm'', hv, hx⟩ := finP_ok hfin hm'
  exact ⟨A.res y, A.out y, by rw [hv], hm'', hx, A, hA, y, hy, rfl, rfl⟩
theorem loc_pcR {P : Program} (hmix : P.follows .mixedOrders = true) {E : Env P C} {L : List (Inv' C)} (its : List (It P C)) {f : FuncId} {fn : Func} {c : Code} {args : List SV} {mem : List (Ck C)} {res : SV}
    (hf : P.funcs[f]? = some fn) (hb : fn.body = some c) (hname : (fn.name == "runtime.NumGoroutine") = false) (hn : fn.ntmps = E.n) (hlen : Nat.ble args.length E.n = true) (hnc : noCnds args = true)
    (h : fexecR E L its fn c args mem fun r m => finP mem r m res mem) :
    LocG P (.fn f) mem args fun r m' => r = res ∧ m' = mem := by
  intro w hm
  refine ⟨f, _, run_callFunc hf hb hname _ w, (fexecR_ok hmix hf hb hn hlen hnc h w hm).mono ?_⟩
  rintro e w' ⟨r, m', rfl, hm', hfin⟩
  obtain ⟨hm'', hv, hx⟩ := finP_ok hfin hm'
  exact ⟨res, mem, by rw [hv], hm'', hx, rfl, rfl⟩
end Go.Vx
