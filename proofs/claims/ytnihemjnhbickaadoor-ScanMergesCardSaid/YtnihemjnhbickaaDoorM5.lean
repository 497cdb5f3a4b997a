/-
  The symbolic evaluator, twenty-second part: a range over a function, its iterator and its rounds gone through in one walk.
  Round 22: the keys of a map, gathered.
  Round 22: maps az sets of numbers; rising lists; pages by their blocks: plain facts.
  Round 22: slices.Sort of numbers: the shelf's contract, laid here.
  Round 22: the keys of a map, rising.
  The symbolic evaluator: a call that only tells something leaves the world az it was, but for draws and new blocks (az the shelf asks it of a 'cmp').
  slices.SortFunc at structs, at whatever length: the shelf's contract az a contract of chunks.
  Round 22: slices.SortFunc of numbers and of places: the shelf's contracts, laid here.
  Conditions: none.
-/
import Derived.Test.YtnihemjnhbickaaDoorM4
import Derived.Shelf.SortM.SortNone
import Derived.Sort.EveryDepth
import Derived.Sort.Grow
import Derived.Deep.Draws
import Derived.Shelf.SlSortCmp.NoneTotal
set_option linter.unusedVariables false
set_option linter.unusedSimpArgs false
set_option linter.unusedSectionVars false
namespace Go.Vx
open Go
variable {C : Nat → Codec}
theorem heap_put_other {w : World} {l k : Nat} {o : Obj} (h : k ≠ l) : (w.putObj l o).heap[k]? = w.heap[k]? := World.putObj_heap_other h
theorem MemOK.pinNew {s rd : Nat → Prop} {ps : List (Nat × Obj)} {w0 w : World} {m : List (Ck C)} (h : MemOK ⟨s, ps, rd⟩ w0 w m) (o : Obj) : MemOK ⟨s, (w.heap.size, o) :: ps, rd⟩ w0 (w.alloc o) m := by
  have hb : ∀ k, k < w.heap.size → (w.alloc o).heap[k]? = w.heap[k]? := fun k hk => heap_alloc_lt w o hk
  refine ⟨h.os, h.tape, h.output, by have := h.size; simp; omega, ?_, h.inS, ?_, ?_, h.apart, ?_, ?_⟩
  · intro k hk hno; rw [hb k (Nat.lt_of_lt_of_le hk h.size)]; exact h.keep k hk hno
  · intro c hc ho; exact Ck.ok_same (h.ok c hc ho) (hb _ (h.lt c hc ho))
  · intro c hc hw hl a ha
    rw [World.frozen?_of_block (w := w) (by rw [ha]; exact hb _ (h.lt c hc (Ck.live_iff.1 hl).2))]
    exact h.wrok c hc hw hl a ha
  · intro c hc ho; have := h.lt c hc ho; simp; omega
  · have hm := h.more
    refine ⟨fun g v hv => ?_, fun g p hp => ?_, fun p hp => ?_, ?_, fun c hc t x hx => ?_⟩
    rotate_left 4
    · obtain ⟨g1, g2⟩ := hm.deep c hc t x hx
      refine ⟨(C t).good_keep w _ x (fun b hb' => hb b (g2 b hb').lt) g1, fun b hb' => ?_⟩
      have hB := g2 b hb'
      refine ⟨by have := hB.lt; simp; omega, hB.old, hB.no, fun p hp => ?_⟩
      rcases List.mem_cons.1 hp with rfl | hp
      · exact fun e => absurd hB.lt (by simp only at e; omega)
      · exact hB.pin p hp
    · obtain ⟨h1, h2, h3⟩ := hm.gv g v hv
      exact ⟨(World.cell?_of_block (w := w) (a := ⟨g, 0, none⟩) (hb g (Nat.lt_of_lt_of_le h2 h.size))).trans h1, h2, h3⟩
    · obtain ⟨h1, h2, h3⟩ := hm.gp g p hp
      exact ⟨(hb _ (Nat.lt_of_lt_of_le h2 h.size)).trans h1, h2, h3⟩
    · rcases List.mem_cons.1 hp with rfl | hp
      · exact ⟨World.alloc_heap_new w o, h.size, fun c hc hl => Nat.ne_of_lt (h.lt c hc (Ck.live_iff.1 hl).2)⟩
      · obtain ⟨h1, h2, h3⟩ := hm.pin p hp
        exact ⟨(hb _ (heap_size_of h1)).trans h1, h2, h3⟩
    · have : w.heap.size ∉ ps.map (·.1) := by
        intro hmem
        obtain ⟨p, hp, he⟩ := List.mem_map.1 hmem
        have := heap_size_of (hm.pin p hp).1
        omega
      simpa [this] using hm.nod
theorem MemOK.repin {s rd : Nat → Prop} {ps : List (Nat × Obj)} {w0 w : World} {m : List (Ck C)} {l : Nat} {o : Obj} (h : MemOK ⟨s, (l, o) :: ps, rd⟩ w0 w m) (o' : Obj) : MemOK ⟨s, (l, o') :: ps, rd⟩ w0 (w.putObj l o') m := by
  have hm := h.more
  obtain ⟨hl1, hl2, hl3⟩ := hm.pin (l, o) (by simp)
  simp only at hl1 hl2 hl3
  have hb : ∀ k, k ≠ l → (w.putObj l o').heap[k]? = w.heap[k]? := fun k hk => heap_put_other hk
  have hlv : ∀ c ∈ m, c.alive = false → ∀ w', Ck.ok (ads m) w' c := by
    intro c _ hc w'
    unfold Ck.alive at hc; unfold Ck.ok
    split at hc <;> first | cases hc | skip
    rename_i hd; rw [hd]; trivial
  refine ⟨h.os, h.tape, h.output, by have := h.size; simpa using this, ?_, h.inS, ?_, ?_, h.apart, ?_, ?_⟩
  · intro k hk hno
    rw [hb k (by omega)]
    exact h.keep k hk hno
  · intro c hc ho
    cases hcl : c.alive with
    | false => exact hlv c hc hcl _
    | true => exact Ck.ok_same (h.ok c hc ho) (hb _ (hl3 c hc (Ck.live_iff.2 ⟨hcl, ho⟩)))
  · intro c hc hw hl a ha
    rw [World.frozen?_of_block (w := w) (by rw [ha]; exact hb _ (hl3 c hc hl))]
    exact h.wrok c hc hw hl a ha
  · intro c hc ho; have := h.lt c hc ho; simpa using this
  · have hnod := hm.nod
    simp only [List.map_cons, List.nodup_cons] at hnod
    refine ⟨fun g v hv => ?_, fun g p hp => ?_, fun p hp => ?_, by simpa using hm.nod, fun c hc t x hx => ?_⟩
    rotate_left 3
    · obtain ⟨g1, g2⟩ := hm.deep c hc t x hx
      refine ⟨(C t).good_keep w _ x (fun b hb' => hb b (fun e => (g2 b hb').pin (l, o) (by simp) e.symm)) g1, fun b hb' => ?_⟩
      have hB := g2 b hb'
      refine ⟨by have := hB.lt; simpa using this, hB.old, hB.no, fun p hp => ?_⟩
      rcases List.mem_cons.1 hp with rfl | hp
      · exact hB.pin (l, o) (by simp)
      · exact hB.pin p (List.mem_cons_of_mem _ hp)
    · obtain ⟨h1, h2, h3⟩ := hm.gv g v hv
      exact ⟨(World.cell?_of_block (w := w) (a := ⟨g, 0, none⟩) (hb g (by omega))).trans h1, h2, h3⟩
    · obtain ⟨h1, h2, h3⟩ := hm.gp g p hp
      exact ⟨(hb _ (by omega)).trans h1, h2, h3⟩
    · rcases List.mem_cons.1 hp with rfl | hp
      · exact ⟨World.putObj_heap_same (heap_size_of hl1), hl2, hl3⟩
      · obtain ⟨h1, h2, h3⟩ := hm.pin p (List.mem_cons_of_mem _ hp)
        refine ⟨(hb _ ?_).trans h1, h2, h3⟩
        rintro he
        exact hnod.1 (he ▸ List.mem_map.2 ⟨p, hp, rfl⟩)
theorem MemOK.unpin {s rd : Nat → Prop} {ps : List (Nat × Obj)} {w0 w : World} {m : List (Ck C)} {l : Nat} {o : Obj} (h : MemOK ⟨s, (l, o) :: ps, rd⟩ w0 w m) : MemOK ⟨s, ps, rd⟩ w0 w m := by
  have hm := h.more
  refine ⟨h.os, h.tape, h.output, h.size, h.keep, h.inS, h.ok, h.wrok, h.apart, h.lt, hm.gv, hm.gp, fun p hp => hm.pin p (List.mem_cons_of_mem _ hp), ?_, fun c hc t x hx => ?_⟩
  rotate_left
  · obtain ⟨g1, g2⟩ := hm.deep c hc t x hx
    exact ⟨g1, fun b hb => ⟨(g2 b hb).lt, (g2 b hb).old, (g2 b hb).no, fun p hp => (g2 b hb).pin p (List.mem_cons_of_mem _ hp)⟩⟩
  have := hm.nod
  simp only [List.map_cons, List.nodup_cons] at this
  exact this.2
structure It (P : Program) (C : Nat → Codec) where
  f : Nat
  fn : Func
  c : Code
  E : Env P C
  L : List (Inv' C)
  hf : P.funcs[f]? = some fn
  hb : fn.body = some c
  hname : (fn.name == "runtime.NumGoroutine") = false
  hn : fn.ntmps = E.n
def findIt {P : Program} (f : Nat) : List (It P C) → Option (It P C)
  | [] => none
  | x :: r => match Nat.beq x.f f with
    | true => some x
    | false => findIt f r
theorem findIt_f {P : Program} {f : Nat} : ∀ {l : List (It P C)} {it : It P C}, findIt f l = some it → it.f = f
  | [], _, h => by cases h
  | x :: r, it, h => by
    simp only [findIt] at h
    split at h
    · rename_i he; simp only [Option.some.injEq] at h; subst h; exact Nat.eq_of_beq_eq_true he
    · exact findIt_f h
def noRf : Rf C := fun _ _ _ _ _ _ _ => .no
theorem noRf_ok {P : Program} {n : Nat} {G : Gs} : ROK (C := C) P n G noRf := fun _ _ _ _ _ _ _ _ _ _ _ h => h.elim
theorem noY_ok {P : Program} {G : Gs} : YOK (C := C) P G none := fun _ _ h => by cases h
def putAll (n : Nat) : Tm → List Nat → List SV → Option Tm
  | tm, [], [] => some tm
  | tm, p :: r, v :: s => match put? n tm (some p) [] v with
    | some tm' => putAll n tm' r s
    | none => none
  | _, _, _ => none
theorem putAll_len {n : Nat} : ∀ {ps : List Nat} {vs : List SV} {tm tm' : Tm}, putAll n tm ps vs = some tm' → ps.length = vs.length
  | [], [], _, _, _ => rfl
  | p :: r, v :: s, tm, tm', h => by
    simp only [putAll] at h
    split at h
    · simp [putAll_len h]
    · cases h
  | [], _ :: _, _, _, h => by simp [putAll] at h
  | _ :: _, [], _, _, h => by simp [putAll] at h
theorem putAll_ok {ad : Nat → Ad} {n : Nat} : ∀ {ps : List Nat} {vs : List SV} {tm tm' : Tm} {a : Act}, ActOK ad n tm a → putAll n tm ps vs = some tm' →
    ActOK ad n tm' { tmps := (ps.zip (SV.vas ad vs)).foldl (fun t (p, v) => t.setIfInBounds p v) a.tmps, defers := [] }
  | [], [], tm, tm', a, h, hp => by
    simp only [putAll, Option.some.injEq] at hp; subst hp
    exact ⟨rfl, h.size, h.tmps, h.inv⟩
  | p :: r, v :: s, tm, tm', a, h, hp => by
    simp only [putAll] at hp
    split at hp
    · rename_i tm1 h1
      have hA := put_ok h h1 (by simp) (v.va ad) (by simp [mkc])
      exact putAll_ok (a := a.put (some p) (v.va ad)) hA hp
    · cases hp
  | [], _ :: _, _, _, _, _, h => by simp [putAll] at h
  | _ :: _, [], _, _, _, _, h => by simp [putAll] at h
def PJ.code : Ex → Code
  | .nor => .skip
  | .exit i => .exit i
  | .ret => .ret
def PJ.back : PJ → Ex
  | none => .nor
  | some e => e
def goR {P : Program} (E : Env P C) (L : List (Inv' C)) (tmC : Tm) (ps : Array Tmp) (asg bd : Code) : Yf C := fun vs tmI m Kc =>
  match tmLt m.length tmI, putAll E.n tmC ps.toList vs with
  | true, some tmb => sexecG E L (tmNm tmI ++ tmNm tmC) none noRf asg none tmb m fun e _ tma ma => match e with
    | .nor => sexecG E L (tmNm tmI ++ tmNm tmC) none noRf bd none tma ma fun e _ tm2 m2 => match e with
      | .nor => Kc true none m2
      | .exit i => Kc false (some (.exit i)) m2
      | .ret => Kc false (some .ret) m2
    | _ => .no
  | _, _ => .no
def rangeF {P : Program} (E : Env P C) (L : List (Inv' C)) (its : List (It P C)) : Rf C := fun g ps asg bd tm m K =>
  match ev tm m [] g with
  | some (.fn (.func gf) [] cap) => match findIt gf its with
    | some it => match tmLt m.length tm && SV.lts m.length cap && Nat.ble (cap.length + 1) it.E.n && noCnds cap with
      | false => .no
      | true => .all fun (l : Nat) => fTm (initTm 0 (.fn (.yield l) [] [] :: cap)) fun tmI => sexecG it.E it.L (tmNm tm) (some (l, goR E L tm ps asg bd)) noRf it.c none tmI m fun e pj tmI' m' => match e with
        | .exit _ => .no
        | _ => match retSV P it.fn tmI' m' with
          | some (qs, _) => conj qs (K pj.back tm m')
          | none => .no
    | none => .no
  | _ => .no
theorem tmLt_nm {n : Nat} : ∀ {tm : Tm}, tmLt n tm = true → ∀ c ∈ tmNm tm, c < n := by
  have hv : ∀ (v : SV), SV.lt n v = true → ∀ c ∈ v.nm, c < n := by
    intro v
    induction v using SV.rec (motive_2 := fun vs => SV.lts n vs = true → ∀ c ∈ SV.nms vs, c < n) with
    | ptr c i f => intro h k hk; simp only [SV.lt] at h; simp only [SV.nm, List.mem_singleton] at hk; subst hk; simpa using h
    | sl c i f m => intro h k hk; simp only [SV.lt] at h; simp only [SV.nm, List.mem_singleton] at hk; subst hk; simpa using h
    | mp c => intro h k hk; simp only [SV.lt] at h; simp only [SV.nm, List.mem_singleton] at hk; subst hk; simpa using h
    | agg vs ih => intro h k hk; simp only [SV.lt] at h; simp only [SV.nm] at hk; exact ih h k hk
    | tup vs ih => intro h k hk; simp only [SV.lt] at h; simp only [SV.nm] at hk; exact ih h k hk
    | ifc t v ih => intro h k hk; simp only [SV.lt] at h; simp only [SV.nm] at hk; exact ih h k hk
    | fn f a b iha ihb =>
      intro h k hk
      simp only [SV.lt, Bool.and_eq_true] at h
      simp only [SV.nm, List.mem_append] at hk
      rcases hk with hk | hk
      · exact iha h.1 k hk
      · exact ihb h.2 k hk
    | cnd cs v ih => intro h k hk; simp only [SV.lt] at h; simp only [SV.nm] at hk; exact ih h k hk
    | nil => rename_i k hk; cases hk
    | cons v r ihv ihr =>
      rename_i h k hk
      simp only [SV.lts, Bool.and_eq_true] at h
      simp only [SV.nms, List.mem_append] at hk
      rcases hk with hk | hk
      · exact ihv h.1 k hk
      · exact ihr h.2 k hk
    | _ => intro _ k hk; simp [SV.nm] at hk
  intro tm
  induction tm with
  | nil => intro _ c hc; cases hc
  | cons p r ih =>
    obtain ⟨k, v⟩ := p
    intro h c hc
    simp only [tmLt, Bool.and_eq_true] at h
    simp only [tmNm, List.mem_append] at hc
    rcases hc with hc | hc
    · exact hv v h.1 c hc
    · exact ih h.2 c hc
def recOf (rec : LoopState → Option Code → Loop) : PJ → Obj
  | none => .loop (rec .ready none)
  | some e => .loop (rec .done (some (PJ.code e)))
theorem goR_ok {P : Program} (hmix : P.follows .mixedOrders = true) {E : Env P C} {L : List (Inv' C)} {tmC : Tm} {ps : Array Tmp} {asg bd : Code} {s rd : Nat → Prop} {old : List (Nat × Obj)} {w0 : World} {A0 : Nat → Ad} {a0 : Act} {l : Nat} {fn : FuncId} {D : Nat}
    {rec : LoopState → Option Code → Loop} (hrec : ∀ st pe, rec st pe = { state := st, pending := pe, fn := fn, tmps := a0.tmps, params := ps, assign := asg, body := bd, defers := D }) (ha0 : ActOK A0 E.n tmC a0) :
    YOK P ⟨none, fun pj _ => ⟨s, (l, recOf rec pj) :: old, rd⟩, w0, fun _ => [], A0, tmNm tmC⟩ (some (l, goR E L tmC ps asg bd)) := by
  intro l' go hgo vs tmI m Kc w ds R h hm hx hK
  simp only [Option.some.injEq, Prod.mk.injEq] at hgo
  obtain ⟨rfl, rfl⟩ := hgo
  unfold goR at h
  split at h
  rotate_left
  · exact h.elim
  rename_i tmb hlt hput
  simp only at hm hx hK
  have hpin := (hm.more.pin (l, recOf rec none) (by simp)).1
  simp only [recOf] at hpin
  have hlen := putAll_len hput
  have hy := run_yield (P := P) (args := (SV.vas (ads m) vs).toArray) hpin (by rw [hrec]; simp [SV.vas_eq, ← hlen])
  refine ⟨_, _, _, _, hy, ?_⟩
  simp only [hrec]
  have hact : ActOK (ads m) E.n tmC a0 := ha0.fixed (fun c hc => ((hx c hc).2).symm)
  have hactb := putAll_ok hact hput
  have hz : (ps.zip (SV.vas (ads m) vs).toArray).foldl (fun tmps (x : Tmp × Value) => tmps.setIfInBounds x.1 x.2) a0.tmps = (ps.toList.zip (SV.vas (ads m) vs)).foldl (fun t (x : Nat × Value) => t.setIfInBounds x.1 x.2) a0.tmps := by
    rw [← Array.foldl_toList]
    simp
  obtain ⟨G1, hG1⟩ : ∃ G1 : Gs, G1 = ⟨some l, fun _ _ => ⟨s, (l, .loop (rec .ready none)) :: old, rd⟩, w0, fun _ => [], ads m, tmNm tmI ++ tmNm tmC⟩ := ⟨_, rfl⟩
  obtain ⟨G2, hG2⟩ : ∃ G2 : Gs, G2 = ⟨some l, fun _ _ => ⟨s, (l, .loop (rec .busy none)) :: old, rd⟩, w0, fun _ => [], ads m, tmNm tmI ++ tmNm tmC⟩ := ⟨_, rfl⟩
  have hfx : FixOK (ads m) (tmNm tmI ++ tmNm tmC) m := by
    intro c hc
    rcases List.mem_append.1 hc with hc | hc
    · exact ⟨tmLt_nm hlt c hc, rfl⟩
    · exact ⟨(hx c hc).1, rfl⟩
  have back : ∀ m' : List (Ck C), FixOK (ads m) (tmNm tmI ++ tmNm tmC) m' → FixOK A0 (tmNm tmC) m' ∧ (∀ c ∈ tmNm tmI, c < m'.length ∧ ads m' c = ads m c) := by
    intro m' h'
    refine ⟨fun c hc => ?_, fun c hc => h' c (List.mem_append.2 (.inl hc))⟩
    obtain ⟨h1, h2⟩ := h' c (List.mem_append.2 (.inr hc))
    exact ⟨h1, h2.trans (hx c hc).2⟩
  refine roundIn_of_wpIn (FR_fn none fn) ?_
  have h1 := sexecG_ok (P := P) hmix (G := G1) (E := E) (L := L) (Y := none) (RF := noRf) noY_ok noRf_ok (c := asg) (pj := none) (tm := tmb) (m := m) (ds := []) (w := w)
    (a := { tmps := (ps.toList.zip (SV.vas (ads m) vs)).foldl (fun t (x : Nat × Value) => t.setIfInBounds x.1 x.2) a0.tmps, defers := [] })
    (Q := Exit.then (fun a₁ w₁ => ∃ w₂, (Instr.beginRound l).run P w₁ = .ok () w₂ ∧ bd.wpIn (Fence.wide.inRound l) 0 P (roundPost P l R) a₁ w₂) (fun _ _ _ => False))
    (by subst hG1; exact h) hactb (by subst hG1; exact hm) (by subst hG1; exact hfx) ?_
  · have e : wa ({ tmps := (ps.toList.zip (SV.vas (ads m) vs)).foldl (fun t (x : Nat × Value) => t.setIfInBounds x.1 x.2) a0.tmps, defers := [] } : Act) (G1.dm []) = { tmps := (ps.toList.zip (SV.vas (ads m) vs)).foldl (fun t (x : Nat × Value) => t.setIfInBounds x.1 x.2) a0.tmps, defers := [] } := by subst hG1; rfl
    rw [e] at h1
    rw [hz]
    have e2 : FR G1.r = Fence.wide.inRound l := by subst hG1; rfl
    rw [e2] at h1
    exact h1
  intro e pj' tma ma a1 w1 ds' hk ha1 hm1 hx1
  subst hG1
  cases e with
  | exit i => exact hk.elim
  | ret => exact hk.elim
  | nor =>
    simp only at hk hm1 hx1
    have hpin1 := (hm1.more.pin (l, .loop (rec .ready none)) (by simp)).1
    have hbr := run_beginRound (P := P) hpin1 (by rw [hrec])
    have hm2 := hm1.repin (.loop { rec .ready none with state := .busy })
    have ebusy : ({ rec .ready none with state := .busy } : Loop) = rec .busy none := by rw [hrec, hrec]
    rw [ebusy] at hm2 hbr
    refine ⟨_, hbr, ?_⟩
    have h2 := sexecG_ok (P := P) hmix (G := G2) (E := E) (L := L) (Y := none) (RF := noRf) noY_ok noRf_ok (c := bd) (pj := none) (tm := tma) (m := ma) (ds := []) (w := w1.putObj l (.loop (rec .busy none))) (a := a1)
      (Q := roundPost P l R) (by subst hG2; exact hk) ha1 (by subst hG2; exact hm2) (by subst hG2; exact hx1) ?_
    · have e : wa a1 (G2.dm []) = wa a1 [] := by subst hG2; rfl
      rw [e] at h2
      have e2 : FR G2.r = Fence.wide.inRound l := by subst hG2; rfl
      rw [e2] at h2
      exact h2
    intro e pj2 tm2 m2 a2 w2 ds2 hk2 ha2 hm3 hx2
    subst hG2
    simp only at hm3 hx2
    have hpin2 := (hm3.more.pin (l, .loop (rec .busy none)) (by simp)).1
    obtain ⟨b1, b2⟩ := back m2 hx2
    have fin : ∀ (jump : Option Code) (pj : PJ), (jump.isNone = true ↔ pj = none) → pj.map PJ.code = jump → (Kc jump.isNone pj m2).holds → ∃ v w', (Instr.endRound l jump).run P w2 = .ok v w' ∧ R (.returned v) w' := by
      intro jump pj hj hpj hkc
      have her := run_endRound (P := P) jump hpin2
      refine ⟨_, _, her, hK _ pj m2 _ hkc ?_ b1 b2⟩
      have hm4 := hm3.repin (.loop { rec .busy none with state := if jump.isNone then .ready else .done, pending := jump })
      have e : (Obj.loop { rec .busy none with state := if jump.isNone then .ready else .done, pending := jump }) = recOf rec pj := by
        cases pj with
        | none =>
          simp only [Option.map_none] at hpj
          subst hpj
          simp [recOf, hrec]
        | some e =>
          simp only [Option.map_some] at hpj
          subst hpj
          simp [recOf, hrec]
      rw [e] at hm4 ⊢
      exact hm4
    cases e with
    | nor => exact fin none none (by simp) rfl hk2
    | exit i => exact fin (some (.exit i)) (some (.exit i)) (by simp) rfl hk2
    | ret => exact fin (some .ret) (some .ret) (by simp) rfl hk2
theorem init_ok {ad : Nat → Ad} {n : Nat} {args : List SV} (hlen : Nat.ble args.length n = true) (hnc : noCnds args = true) :
    ActOK ad n (initTm 0 args) { tmps := (SV.vas ad args).toArray ++ Array.replicate (n - (SV.vas ad args).toArray.size) Go.undef, defers := [] } := by
  have hlen : args.length ≤ n := Nat.le_of_ble_eq_true hlen
  have hsz : (SV.vas ad args).toArray.size = args.length := by simp [SV.vas_eq]
  refine ⟨rfl, by simp [SV.vas_eq]; omega, fun t => ?_, ?_⟩
  · rcases get_init args 0 t with h1 | ⟨_, v, h2, h3⟩
    · exact .inl h1
    · right
      simp only [Nat.sub_zero] at h2
      have hlt : t < args.length := (List.getElem?_eq_some_iff.1 h2).1
      rw [h3, Array.getElem?_append_left (by rw [hsz]; exact hlt)]
      simp [SV.vas_eq, h2]
  · intro t cs v hg
    exfalso
    rcases get_init args 0 t with h1 | ⟨_, u, h2, h3⟩
    · rw [h1] at hg; cases hg
    · rw [h3] at hg
      exact notCnd_ok (noCnds_ok hnc u (List.mem_of_getElem? h2)) cs v hg
def mark (D : Nat) : Deferred := { target := .collected D, args := #[] }
def mpin (D : Nat) : Nat × Obj := (D, .deferred (some []))
theorem rangeF_ok {P : Program} (hmix : P.follows .mixedOrders = true) {E : Env P C} {L : List (Inv' C)} {its : List (It P C)} {s rd : Nat → Prop} {w0 : World} :
    ROK P E.n ⟨none, fun _ ds => ⟨s, ds.map mpin, rd⟩, w0, fun ds => ds.map mark, noAd, []⟩ (rangeF E L its) := by
  intro g ps asg bd tm m K a w Q ds h ha hm hx hq
  simp only at hm hq
  unfold rangeF at h
  split at h <;> try (first | contradiction | exact False.elim h)
  rename_i gf cap hg
  split at h
  rotate_left
  · exact h.elim
  rename_i it hit
  split at h
  · exact h.elim
  rename_i hc
  simp only [Bool.and_eq_true] at hc
  obtain ⟨⟨⟨c1, c2⟩, c3⟩, c4⟩ := hc
  have hf := findIt_f hit
  subst hf
  have hnil : AlOK tm [] := by intro p hp; cases hp
  have eg : (wa a (ds.map mark)).eval g = .func (.func it.f) #[] (SV.vas (ads m) cap).toArray := by
    rw [wa_eval, ev_ok ha hm.glob hnil _ _ hg]; rfl
  refine wpIn_rangeFunc ?_
  intro fn _
  obtain ⟨rec, hrec⟩ : ∃ rec : LoopState → Option Code → Loop, rec = fun st pe => { state := st, pending := pe, fn, tmps := a.tmps, params := ps, assign := asg, body := bd, defers := w.heap.size } := ⟨_, rfl⟩
  have hrec' : ∀ st pe, rec st pe = { state := st, pending := pe, fn := fn, tmps := a.tmps, params := ps, assign := asg, body := bd, defers := w.heap.size } := fun _ _ => by rw [hrec]
  obtain ⟨W1, hW1⟩ : ∃ W1, (w.alloc (.deferred (some []))).alloc (.loop (rec .ready none)) = W1 := ⟨_, rfl⟩
  have hm1 : MemOK ⟨s, (w.heap.size + 1, recOf rec none) :: (mpin w.heap.size) :: ds.map mpin, rd⟩ w0 W1 m := by
    have := (hm.pinNew (.deferred (some []))).pinNew (.loop (rec .ready none))
    rw [World.size_alloc, hW1] at this
    exact this
  refine ⟨w.heap.size + 1, [mark w.heap.size], W1, { target := .fn (.func it.f) (SV.vas (ads m) cap).toArray, args := #[.func (.yield (w.heap.size + 1)) #[] #[]] }, W1, it.f,
    #[.func (.yield (w.heap.size + 1)) #[] #[]] ++ (SV.vas (ads m) cap).toArray, W1, ?_, ?_, ?_, ?_, fun hd => (by rw [FR_depth] at hd; cases hd), ?_⟩
  · rw [← hW1, hrec]; exact run_enterLoop_outer _ _ _ _ _
  · simp only [resolve, eg, Deferred.ofValue]
    simp [Act.eval]
  · intro f' _; exact FR_fn _ f'
  · simp [invoke, run_callFunc it.hf it.hb it.hname]
  · have hin := h (w.heap.size + 1)
    simp only [fTm_eq] at hin
    refine callsIn_of_wp it.hf it.hb (FR_fn _ _) ?_
    obtain ⟨GI, hGI⟩ : ∃ GI : Gs, GI = ⟨none, fun pj _ => ⟨s, (w.heap.size + 1, recOf rec pj) :: mpin w.heap.size :: ds.map mpin, rd⟩, w0, fun _ => [], ads m, tmNm tm⟩ := ⟨_, rfl⟩
    have hy : YOK P GI (some (w.heap.size + 1, goR E L tm ps asg bd)) := by
      subst hGI
      exact goR_ok hmix hrec' ha
    have hargs : (#[Value.func (.yield (w.heap.size + 1)) #[] #[]] ++ (SV.vas (ads m) cap).toArray) = (SV.vas (ads m) (.fn (.yield (w.heap.size + 1)) [] [] :: cap)).toArray := by
      apply Array.ext'; simp [SV.vas, SV.va]
    rw [hargs]
    have hinit := init_ok (ad := ads m) (n := it.E.n) (args := .fn (.yield (w.heap.size + 1)) [] [] :: cap) (by simpa using c3) (by simp [noCnds, notCnd, c4])
    rw [← it.hn] at hinit
    rw [it.hn] at hinit
    have h3 := sexecG_ok (P := P) hmix (G := GI) (E := it.E) (L := it.L) (Y := some (w.heap.size + 1, goR E L tm ps asg bd)) (RF := noRf) hy noRf_ok (c := it.c) (pj := none) (m := m) (ds := []) (w := W1)
      (Q := bodyPost P it.fn (rangePost (FR none) 0 P (w.heap.size + 1) Q { wa a (ds.map mark) with defers := [mark w.heap.size] ++ (wa a (ds.map mark)).defers }))
      (by subst hGI; exact hin) hinit (by subst hGI; exact hm1) (by subst hGI; exact fun c hc => ⟨tmLt_nm c1 c hc, rfl⟩) ?_
    · have e2 : FR GI.r = FR none := by subst hGI; rfl
      have e3 : ∀ b : Act, b.defers = [] → wa b (GI.dm []) = b := by
        intro b hb; subst hGI
        show ({ b with defers := b.defers ++ [] } : Act) = b
        cases b; simp at hb ⊢
      rw [e2, e3 _ rfl, ← it.hn] at h3
      exact h3
    intro e pj tmI' m' a' w' ds' hk ha' hm' hx'
    have fin : (match retSV P it.fn tmI' m' with | some (qs, _) => conj qs (K pj.back tm m') | none => .no : Tr).holds →
        (wa a' (GI.dm ds')).defers = [] ∧ ∃ v, (results it.fn (wa a' (GI.dm ds')).tmps).run P w' = .ok v w' ∧
          rangePost (FR none) 0 P (w.heap.size + 1) Q { wa a (ds.map mark) with defers := [mark w.heap.size] ++ (wa a (ds.map mark)).defers } (.returned v) w' := by
      intro hk
      split at hk <;> try (first | contradiction | exact False.elim hk)
      rename_i qs r hr
      obtain ⟨hp, hK⟩ := (conj_iff _ _).1 hk
      refine ⟨by subst hGI; show a'.defers ++ [] = []; rw [ha'.defers]; rfl, _, retSV_ok (S := GI.Sp pj ds') ha' hm' hr hp, ?_⟩
      subst hGI
      simp only at hm' hx'
      have hpin := (hm'.more.pin (w.heap.size + 1, recOf rec pj) (by simp)).1
      have hA : ActOK (ads m') E.n tm a := ha.fixed (fun c hc => ((hx' c hc).2).symm)
      have hdf : ({ wa a (ds.map mark) with defers := [mark w.heap.size] ++ (wa a (ds.map mark)).defers } : Act) = wa a ((w.heap.size :: ds).map mark) := by
        show ({ tmps := a.tmps, defers := [mark w.heap.size] ++ (a.defers ++ ds.map mark) } : Act) = { tmps := a.tmps, defers := a.defers ++ ((w.heap.size :: ds).map mark) }
        rw [ha.defers]; rfl
      rw [hdf]
      have hend : ∀ (o : Obj), MemOK ⟨s, (w.heap.size :: ds).map mpin, rd⟩ w0 (w'.putObj (w.heap.size + 1) o) m' := fun o => (hm'.repin o).unpin
      cases pj with
      | none =>
        simp only [recOf] at hpin
        refine ⟨none, _, by have := run_endLoop (P := P) hpin (by rw [hrec]; simp); rw [hrec] at this; exact this, ?_⟩
        refine hq .nor tm m' a _ (w.heap.size :: ds) hK hA ?_ (fun c hc => by cases hc)
        exact hend _
      | some e =>
        simp only [recOf] at hpin
        refine ⟨some (PJ.code e), _, by have := run_endLoop (P := P) hpin (by rw [hrec]; simp); rw [hrec] at this; exact this, ?_⟩
        have hQ : ∀ w4, MemOK ⟨s, (w.heap.size :: ds).map mpin, rd⟩ w0 w4 m' → Q (Ex.of e) (wa a ((w.heap.size :: ds).map mark)) w4 := fun w4 hm4 => hq e tm m' a w4 (w.heap.size :: ds) hK hA hm4 (fun c hc => by cases hc)
        cases e with
        | nor => exact wpIn_skip (hQ _ (hend _))
        | exit i => exact wpIn_exit (hQ _ (hend _))
        | ret => exact wpIn_ret (hQ _ (hend _))
    cases e with
    | nor => exact fin hk
    | exit i => exact hk.elim
    | ret => exact fin hk
def fexecR {P : Program} (E : Env P C) (L : List (Inv' C)) (its : List (It P C)) (fn : Func) (c : Code) (args : List SV) (mem : List (Ck C)) (G : SV → List (Ck C) → Tr) : Tr :=
  fTm (initTm 0 args) fun tm0 => fM mem fun mem0 => sexecG E L [] none (rangeF E L its) c none tm0 mem0 fun e _ tm m => match e with
    | .exit _ => .no
    | _ => match retSV P fn tm m with
      | some (ps, r) => conj ps (fSV r fun r => fM m fun m => G r m)
      | none => .no
theorem leaves_marks {P : Program} {fn : Func} {tmps : Array Value} {R : Ending → World → Prop} {s rd : Nat → Prop} {w0 : World} {m : List (Ck C)} : ∀ (ds : List Nat) (w : World), MemOK ⟨s, ds.map mpin, rd⟩ w0 w m →
    (∀ w', MemOK ⟨s, [], rd⟩ w0 w' m → ∃ v, (results fn tmps).run P w' = .ok v w' ∧ R (.returned v) w') → LeavesInM (FR none) 0 P fn tmps R (ds.map mark) .returning w
  | [], w, hm, h => h w hm
  | D :: ds, w, hm, h => by
    refine ⟨by simp, .inl ⟨D, _, rfl, run_takeDeferred (hm.more.pin (mpin D) (by simp)).1, ?_⟩⟩
    exact leaves_marks ds _ ((hm.repin (.deferred none)).unpin) h
theorem fexecR_ok {P : Program} (hmix : P.follows .mixedOrders = true) {E : Env P C} {L : List (Inv' C)} {its : List (It P C)} {f : FuncId} {fn : Func} {c : Code} {args : List SV} {mem : List (Ck C)} {G : SV → List (Ck C) → Tr}
    (hf : P.funcs[f]? = some fn) (hb : fn.body = some c) (hn : fn.ntmps = E.n) (hlen : Nat.ble args.length E.n = true) (hnc : noCnds args = true) (h : fexecR E L its fn c args mem G) (w : World) (hm : MemOK (wrS mem) w w mem) :
    Calls P f (SV.vas (ads mem) args).toArray w fun e w' => ∃ r m', e = .returned (r.va (ads m')) ∧ MemOK (wrS mem) w w' m' ∧ G r m' := by
  refine (callsIn_wide (n := 0)).1 (callsIn_of_wp_marks hf hb trivial ?_)
  have hinit := init_ok (ad := ads mem) (n := E.n) hlen hnc
  unfold fexecR at h
  simp only [fTm_eq, fM_eq, fSV_eq] at h
  have h3 := sexecG_ok (P := P) hmix (G := ⟨none, fun _ ds => ⟨(wrS mem).set, ds.map mpin, (wrS mem).rd⟩, w, fun ds => ds.map mark, noAd, []⟩) (E := E) (L := L) (Y := none) (RF := rangeF E L its) noY_ok (rangeF_ok hmix) (c := c) (pj := none) (m := mem) (ds := []) (w := w)
    (Q := bodyPostM Fence.wide 0 P fn (fun e w' => ∃ r m', e = .returned (r.va (ads m')) ∧ MemOK (wrS mem) w w' m' ∧ G r m')) h hinit hm (fun c hc => by cases hc) ?_
  · rw [← hn] at h3
    exact h3
  intro e pj' tm m a w' ds hk ha hm' _
  have fin : (match retSV P fn tm m with | some (ps, r) => conj ps (G r m) | none => .no : Tr).holds → LeavesInM Fence.wide 0 P fn a.tmps (fun e w' => ∃ r m', e = .returned (r.va (ads m')) ∧ MemOK (wrS mem) w w' m' ∧ G r m') (wa a (ds.map mark)).defers .returning w' := by
    intro hk
    split at hk <;> try (first | contradiction | exact False.elim hk)
    rename_i ps r hr
    obtain ⟨hp, hG⟩ := (conj_iff _ _).1 hk
    have e : (wa a (ds.map mark)).defers = ds.map mark := by show a.defers ++ _ = _; rw [ha.defers]; rfl
    rw [e]
    exact leaves_marks ds w' hm' fun w'' hm'' => ⟨_, retSV_ok ha hm'' hr hp, r, m, rfl, hm'', hG⟩
  cases e with
  | nor => exact fin hk
  | exit i => exact hk.elim
  | ret => exact fin hk
theorem loc_fnR {P : Program} (hmix : P.follows .mixedOrders = true) {E : Env P C} {L : List (Inv' C)} (its : List (It P C)) {f : FuncId} {fn : Func} {c : Code} {args : List SV} {mem : List (Ck C)} {alts : List (Alt C)}
    (hf : P.funcs[f]? = some fn) (hb : fn.body = some c) (hname : (fn.name == "runtime.NumGoroutine") = false) (hn : fn.ntmps = E.n) (hlen : Nat.ble args.length E.n = true) (hnc : noCnds args = true)
    (h : fexecR E L its fn c args mem fun r m => .lf (Ends alts fun A y => (finP mem r m (A.res y) (A.out y)).holds)) :
    LocG P (.fn f) mem args fun r m' => Ends alts fun A y => r = A.res y ∧ m' = A.out y := by
  intro w hm
  refine ⟨f, _, run_callFunc hf hb hname _ w, (fexecR_ok hmix hf hb hn hlen hnc h w hm).mono ?_⟩
  rintro e w' ⟨r, m', rfl, hm', A, hA, y, hy, hfin⟩
  obtain ⟨hm'', hv, hx⟩ := finP_ok hfin hm' hm
  exact ⟨A.res y, A.out y, by rw [hv], hm'', hx, A, hA, y, hy, rfl, rfl⟩
end Go.Vx
set_option maxRecDepth 100000
namespace Go.Vx
open Go Go.Proofs
variable [Gl]
abbrev bnsE {c d : Codec} (v : List (Ent' c d)) : List Nat := v.map (·.2.2)
abbrev lftE {c d : Codec} (M v : List (Ent' c d)) : List (Ent' c d) := leftOf c d M (bnsE v)
abbrev VisE {c d : Codec} (M v : List (Ent' c d)) : Prop := (v ++ lftE M v).Perm M
section
variable {c d : Codec} {M : List (Ent' c d)} {clk : Nat}
theorem VisE.nil : VisE M [] := by
  show ([] ++ leftOf c d M []).Perm M
  unfold leftOf
  rw [List.nil_append, List.filter_eq_self.2 (fun e _ => by simp)]
theorem VisE.add (h : Births M clk) {v : List (Ent' c d)} (hv : VisE M v) {e : Ent' c d} (he : e ∈ M ∧ ¬ e.2.2 ∈ bnsE v) : VisE M (v ++ [e]) ∧ (lftE M (v ++ [e])).length < (lftE M v).length := by
  have hp := leftOf_perm he.1 he.2 h.nd
  have e1 : bnsE (v ++ [e]) = bnsE v ++ [e.2.2] := by simp
  have e2 : lftE M (v ++ [e]) = leftOf c d M (bnsE v ++ [e.2.2]) := congrArg (leftOf c d M) e1
  constructor
  · show (v ++ [e] ++ lftE M (v ++ [e])).Perm M
    rw [e2, List.append_assoc]
    exact ((List.Perm.append_left v hp.symm).trans hv)
  · rw [e2, hp.length_eq]; exact Nat.lt_succ_self _
theorem VisE.done {v : List (Ent' c d)} (hv : VisE M v) (h : ∀ e ∈ M, e.2.2 ∈ bnsE v) : v.Perm M := by
  have : lftE M v = [] := by
    show leftOf c d M (bnsE v) = []
    unfold leftOf
    rw [List.filter_eq_nil_iff]
    intro e he
    simpa using h e he
  have hv' : (v ++ lftE M v).Perm M := hv
  rw [this, List.append_nil] at hv'
  exact hv'
theorem VisE.len {v : List (Ent' c d)} (hv : VisE M v) : v.length ≤ M.length := by
  have hv : (v ++ lftE M v).Perm M := hv
  rw [← hv.length_eq, List.length_append]; omega
theorem matE (h : Births M clk) {v : List Nat} {e : Ent' c d} (he : e ∈ M) : mat c d (lastS (v ++ [e.2.2])) M = e := by
  rw [lastS_add]; exact mat_of h.nd he
theorem entryE {v : List Nat} {e : Ent' c d} (he : e ∈ M) : v ++ [e.2.2] ≠ [] ∧ mhasS c d M (lastS (v ++ [e.2.2])) = true := by
  refine ⟨by simp, ?_⟩
  rw [lastS_add]; exact mhasS_of he
end
theorem by3 : Tryd.prog.types[3].bytes = 8 := by kernel_rfl
abbrev MpB := List (Int × Bool × Nat)
def KnB (M : MpB) (clk : Nat) : Inv' C0 := ⟨1, MpB, fun _ => [], fun v m => match m with
  | bx :: mp :: bs :: it :: _ => [bx, mp, ⟨bs.block, bs.base, bs.sz, bs.wr, bs.gl, .one [.nils]⟩, ⟨it.block, it.base, it.sz, it.wr, it.gl, .it 1 (bnsE (c := C0 3) (d := C0 4) v) clk⟩]
  | m => m, fun v => VisE (c := C0 3) (d := C0 4) M v ∧ (v.map fun e => e.1) = [], fun v => (lftE (c := C0 3) (d := C0 4) M v).length⟩
def KyB (M : MpB) (clk : Nat) : Inv' C0 := ⟨1, MpB × Nat × Nat × List Int × Nat × Nat, fun _ => [], fun y m => match m with
  | bx :: mp :: bs :: it :: _ => [bx, mp, ⟨bs.block, bs.base, bs.sz, bs.wr, bs.gl, .one [.sl 4 0 y.2.2.2.2.1 y.2.2.2.2.2]⟩, ⟨it.block, it.base, it.sz, it.wr, it.gl, .it 1 (bnsE (c := C0 3) (d := C0 4) y.1) clk⟩, ⟨y.2.1, y.2.2.1, 1, true, none, .rows 3 y.2.2.2.1⟩]
  | m => m, fun y => VisE (c := C0 3) (d := C0 4) M y.1 ∧ Gth (y.1.map fun e => e.1) (true, y.2), fun y => (lftE (c := C0 3) (d := C0 4) M y.1).length⟩
noncomputable def itB (M : MpB) (clk : Nat) : It Tryd.prog C0 := ⟨58, Tryd.f58, _, ⟨[], [], 14, [], [], []⟩, [KnB M clk, KyB M clk], Tryd.func58, rfl, (by kernel_rfl), (by kernel_rfl)⟩
def KsB (M : MpB) (y : Sq Int) : Prop := ∃ A, A.Perm (M.map fun e => e.1) ∧ Gth A y
abbrev mpB (bx qx bm : Nat) (M : MpB) (clk : Nat) : List (Ck C0) := [⟨bx, qx, 1, false, none, .one [.mp 1]⟩, ⟨bm, 0, 0, false, none, .mp 3 4 M clk⟩]
abbrev moB (bx qx bm : Nat) (M : MpB) (clk : Nat) (y : Sq Int) : List (Ck C0) := mpB bx qx bm M clk ++ [⟨y.2.1, y.2.2.1, 1, true, some y.1, .rows 3 y.2.2.2.1⟩]
set_option maxHeartbeats 4000000 in
theorem appB_ok (bx qx bm : Nat) (M : MpB) (clk : Nat) (h : Births (c := C0 3) (d := C0 4) M clk) (hl : M.length < 1000000000) :
    Does (C := C0) Tryd.prog (.fn 66) (mpB bx qx bm M clk) [.nils, .fn (.func 58) [] [.ptr 0 0 0]]
      [⟨Sq Int, fun y => KsB M y, fun y => .sl 2 0 y.2.2.2.2.1 y.2.2.2.2.2, fun y => moB bx qx bm M clk y⟩] := by
  refine loc_fnR (P := Tryd.prog) (E := ⟨[], [], 13, [], [], []⟩) (L := []) mix [itB M clk] Tryd.func66 rfl (by kernel_rfl) (by kernel_rfl) rfl rfl ?_
  ((conv => (arg 1; reduce)); with_reducible repeat' (first | exact Tr.yes_h | refine Tr.and_h ?_ ?_ | refine Tr.imp_h fun _ => ?_ | refine Tr.all_h fun _ => ?_ | refine Tr.lf_h ?_))
  all_goals try (first | first | (show Region.lexB _ _ = true; kernel_rfl) | (show planned _ _ = true; kernel_rfl) | exact rfl | exact True.intro | (first | exact key3 | exact zeroB | exact zeroR | exact zeroS | exact ⟨key3, zeroB⟩ | exact ⟨key3, zeroR⟩ | exact ⟨key3, zeroS⟩) | ((try dsimp only [imp, C0, cG, cInt, cPl, cSlot, cPg, gwCodec] at *); (try refine inR64 ?_ ?_) <;> (try simp only [List.length_set, List.length_append, List.length_take, List.length_drop]) <;> omega))
  · rename_i b1 b2 b3
    refine Stands.one ([] : MpB) ⟨⟨VisE.nil, rfl⟩, ?_⟩
    ((conv => (arg 1; reduce)); with_reducible repeat' (first | exact Tr.yes_h | refine Tr.and_h ?_ ?_ | refine Tr.imp_h fun _ => ?_ | refine Tr.all_h fun _ => ?_ | refine Tr.lf_h ?_))
    all_goals first | (first | first | (show Region.lexB _ _ = true; kernel_rfl) | (show planned _ _ = true; kernel_rfl) | exact rfl | exact True.intro | (first | exact key3 | exact zeroB | exact zeroR | exact zeroS | exact ⟨key3, zeroB⟩ | exact ⟨key3, zeroR⟩ | exact ⟨key3, zeroS⟩) | ((try dsimp only [imp, C0, cG, cInt, cPl, cSlot, cPg, gwCodec] at *); (try refine inR64 ?_ ?_) <;> (try simp only [List.length_set, List.length_append, List.length_take, List.length_drop]) <;> omega)) | (simp; done)
  · exact ⟨rfl, rfl, h.old⟩
  · rename_i b1 b2 b3 y hy hd
    change MpB at y
    obtain ⟨hv, hG⟩ := hy
    have hp : (y.map fun e => e.1).Perm (M.map fun e => e.1) := (hv.done hd).map fun e => e.1
    have hG : (y.map fun e => e.1) = [] := hG
    rw [hG] at hp
    refine Ends.one ((false, 0, 0, [], 0, 0) : Sq Int) ⟨_, hp, Gth.nil⟩ ?_
    ((conv => (arg 1; reduce)); with_reducible repeat' (first | exact Tr.yes_h | refine Tr.and_h ?_ ?_ | refine Tr.imp_h fun _ => ?_ | refine Tr.all_h fun _ => ?_ | refine Tr.lf_h ?_))
    all_goals (first | first | (show Region.lexB _ _ = true; kernel_rfl) | (show planned _ _ = true; kernel_rfl) | exact rfl | exact True.intro | (first | exact key3 | exact zeroB | exact zeroR | exact zeroS | exact ⟨key3, zeroB⟩ | exact ⟨key3, zeroR⟩ | exact ⟨key3, zeroS⟩) | ((try dsimp only [imp, C0, cG, cInt, cPl, cSlot, cPg, gwCodec] at *); (try refine inR64 ?_ ?_) <;> (try simp only [List.length_set, List.length_append, List.length_take, List.length_drop]) <;> omega))
  · rename_i b1 b2 b3 y hy e he
    exact ⟨rfl, rfl, entryE (c := C0 3) (d := C0 4) he.1⟩
  · rw [by3]
    exact ⟨Nat.le_refl 1, by decide⟩
  · rename_i b1 b2 b3 y hy e he b4 b5 sp
    change MpB at y
    obtain ⟨hv, hG⟩ := hy
    obtain ⟨k1, k2⟩ := hv.add h he
    have hm := matE (v := bnsE (c := C0 3) (d := C0 4) y) h he.1
    change List Int at sp
    refine Stands.next (Stands.one ((y ++ [e], (b5, 0, e.1 :: sp, 1, 1 + sp.length)) : MpB × Nat × Nat × List Int × Nat × Nat) ⟨⟨k1, ?_⟩, k2, ?_⟩)
    · show Gth ((y ++ [e]).map fun e => e.1) _
      rw [List.map_append, hG]
      exact ⟨rfl, rfl, by show 1 ≤ 1 + sp.length; omega, by show 1 + sp.length ≤ (e.1 :: sp).length; rw [List.length_cons]; omega, fun h => by cases h⟩
    ((conv => (arg 1; reduce)); with_reducible repeat' (first | exact Tr.yes_h | refine Tr.and_h ?_ ?_ | refine Tr.imp_h fun _ => ?_ | refine Tr.all_h fun _ => ?_ | refine Tr.lf_h ?_))
    all_goals first | (first | first | (show Region.lexB _ _ = true; kernel_rfl) | (show planned _ _ = true; kernel_rfl) | exact rfl | exact True.intro | (first | exact key3 | exact zeroB | exact zeroR | exact zeroS | exact ⟨key3, zeroB⟩ | exact ⟨key3, zeroR⟩ | exact ⟨key3, zeroS⟩) | ((try dsimp only [imp, C0, cG, cInt, cPl, cSlot, cPg, gwCodec] at *); (try refine inR64 ?_ ?_) <;> (try simp only [List.length_set, List.length_append, List.length_take, List.length_drop]) <;> omega)) | (rw [hm]; rfl) | (simp; done)
  · exact ⟨rfl, rfl, h.old⟩
  · rename_i b1 b2 b3 y hy hd
    refine Ends.one ((true, y.2) : Sq Int) ⟨_, (hy.1.done hd).map fun e => e.1, hy.2⟩ ?_
    ((conv => (arg 1; reduce)); with_reducible repeat' (first | exact Tr.yes_h | refine Tr.and_h ?_ ?_ | refine Tr.imp_h fun _ => ?_ | refine Tr.all_h fun _ => ?_ | refine Tr.lf_h ?_))
    all_goals (first | first | (show Region.lexB _ _ = true; kernel_rfl) | (show planned _ _ = true; kernel_rfl) | exact rfl | exact True.intro | (first | exact key3 | exact zeroB | exact zeroR | exact zeroS | exact ⟨key3, zeroB⟩ | exact ⟨key3, zeroR⟩ | exact ⟨key3, zeroS⟩) | ((try dsimp only [imp, C0, cG, cInt, cPl, cSlot, cPg, gwCodec] at *); (try refine inR64 ?_ ?_) <;> (try simp only [List.length_set, List.length_append, List.length_take, List.length_drop]) <;> omega))
  · rename_i b1 b2 b3 y hy e he
    exact ⟨rfl, rfl, entryE (c := C0 3) (d := C0 4) he.1⟩
  · rename_i b1 b2 b3 y hy e he b4
    obtain ⟨v, b', q', l', n', c'⟩ := y
    obtain ⟨hv, g1, g2, g3, g4, g5⟩ := hy
    have g2 : (v.map fun e => e.1).length = n' := g2
    have g3 : n' ≤ c' := g3
    have g4 : c' ≤ l'.length := g4
    have g6 : v.length ≤ M.length := VisE.len (c := C0 3) (d := C0 4) hv
    have g2 : v.length = n' := by rw [← g2, List.length_map]
    rw [by3]
    exact ⟨g3, by show 0 + c' ≤ l'.length; omega, Nat.le_refl 1, by show (n' + 1) * 8 ≤ _; omega⟩
  · rename_i b1 b2 b3 y hy e he b4 b5 b6 sp cap h1 h2
    obtain ⟨v, b', q', l', n', c'⟩ := y
    obtain ⟨hv, hG⟩ := hy
    obtain ⟨k1, k2⟩ := hv.add h he
    have hm := matE (v := bnsE (c := C0 3) (d := C0 4) v) h he.1
    change List Int at sp
    refine Stands.next (Stands.one ((v ++ [e], (b5, b6, l'.take n' ++ [e.1] ++ sp, n' + 1, cap)) : MpB × Nat × Nat × List Int × Nat × Nat) ⟨⟨k1, ?_⟩, k2, ?_⟩)
    · show Gth ((v ++ [e]).map fun e => e.1) _
      rw [List.map_append]
      exact hG.snoc h1 h2
    ((conv => (arg 1; reduce)); with_reducible repeat' (first | exact Tr.yes_h | refine Tr.and_h ?_ ?_ | refine Tr.imp_h fun _ => ?_ | refine Tr.all_h fun _ => ?_ | refine Tr.lf_h ?_))
    all_goals first | (first | first | (show Region.lexB _ _ = true; kernel_rfl) | (show planned _ _ = true; kernel_rfl) | exact rfl | exact True.intro | (first | exact key3 | exact zeroB | exact zeroR | exact zeroS | exact ⟨key3, zeroB⟩ | exact ⟨key3, zeroR⟩ | exact ⟨key3, zeroS⟩) | ((try dsimp only [imp, C0, cG, cInt, cPl, cSlot, cPg, gwCodec] at *); (try refine inR64 ?_ ?_) <;> (try simp only [List.length_set, List.length_append, List.length_take, List.length_drop]) <;> omega)) | (rw [hm]; rfl) | (simp; done)
noncomputable def fcAppB : Fc Tryd.prog C0 where
  tg := .fn 66
  X := Nat × Nat × Nat × MpB × Nat
  args := fun (bx, qx, bm, M, clk) => [.nils, .fn (.func 58) [] [.ptr 0 0 0]]
  mem := fun (bx, qx, bm, M, clk) => mpB bx qx bm M clk
  pre := fun (bx, qx, bm, M, clk) => Births (c := C0 3) (d := C0 4) M clk ∧ M.length < 1000000000
  alts := fun (bx, qx, bm, M, clk) => [⟨Sq Int, fun y => KsB M y, fun y => .sl 2 0 y.2.2.2.2.1 y.2.2.2.2.2, fun y => moB bx qx bm M clk y⟩]
  mat vs m := match vs with
    | [.nils, .fn (.func 58) _ [.ptr p _ _]] => match nth m p with
      | ⟨bx, qx, _, _, _, .one [.mp w]⟩ => match nth m w with
        | ⟨bm, _, _, _, _, .mp 3 4 M clk⟩ => some ((bx, qx, bm, M, clk), [p, w])
        | _ => none
      | _ => none
    | _ => none
  ok := fun (bx, qx, bm, M, clk) h => appB_ok bx qx bm M clk h.1 h.2
set_option maxHeartbeats 4000000 in
theorem collB_ok (bx qx bm : Nat) (M : MpB) (clk : Nat) (h : Births (c := C0 3) (d := C0 4) M clk) (hl : M.length < 1000000000) :
    Does (C := C0) Tryd.prog (.fn 55) (mpB bx qx bm M clk) [.fn (.func 58) [] [.ptr 0 0 0]]
      [⟨Sq Int, fun y => KsB M y, fun y => .sl 2 0 y.2.2.2.2.1 y.2.2.2.2.2, fun y => moB bx qx bm M clk y⟩] := by
  refine loc_fn (P := Tryd.prog) (E := ⟨[fcAppB], [], 5, [], [], []⟩) (L := []) mix Tryd.func55 rfl (by kernel_rfl) (by kernel_rfl) rfl rfl ?_
  ((conv => (arg 1; reduce)); with_reducible repeat' (first | exact Tr.yes_h | refine Tr.and_h ?_ ?_ | refine Tr.imp_h fun _ => ?_ | refine Tr.all_h fun _ => ?_ | refine Tr.lf_h ?_))
  all_goals try (first | first | (show Region.lexB _ _ = true; kernel_rfl) | (show planned _ _ = true; kernel_rfl) | exact rfl | exact True.intro | (first | exact key3 | exact zeroB | exact zeroR | exact zeroS | exact ⟨key3, zeroB⟩ | exact ⟨key3, zeroR⟩ | exact ⟨key3, zeroS⟩) | ((try dsimp only [imp, C0, cG, cInt, cPl, cSlot, cPg, gwCodec] at *); (try refine inR64 ?_ ?_) <;> (try simp only [List.length_set, List.length_append, List.length_take, List.length_drop]) <;> omega))
  · exact ⟨h, hl⟩
  · rename_i y hy
    refine Ends.one (y : Sq Int) hy ?_
    ((conv => (arg 1; reduce)); with_reducible repeat' (first | exact Tr.yes_h | refine Tr.and_h ?_ ?_ | refine Tr.imp_h fun _ => ?_ | refine Tr.all_h fun _ => ?_ | refine Tr.lf_h ?_))
    all_goals (first | first | (show Region.lexB _ _ = true; kernel_rfl) | (show planned _ _ = true; kernel_rfl) | exact rfl | exact True.intro | (first | exact key3 | exact zeroB | exact zeroR | exact zeroS | exact ⟨key3, zeroB⟩ | exact ⟨key3, zeroR⟩ | exact ⟨key3, zeroS⟩) | ((try dsimp only [imp, C0, cG, cInt, cPl, cSlot, cPg, gwCodec] at *); (try refine inR64 ?_ ?_) <;> (try simp only [List.length_set, List.length_append, List.length_take, List.length_drop]) <;> omega))
noncomputable def fcCollB : Fc Tryd.prog C0 where
  tg := .fn 55
  X := Nat × Nat × Nat × MpB × Nat
  args := fun (bx, qx, bm, M, clk) => [.fn (.func 58) [] [.ptr 0 0 0]]
  mem := fun (bx, qx, bm, M, clk) => mpB bx qx bm M clk
  pre := fun (bx, qx, bm, M, clk) => Births (c := C0 3) (d := C0 4) M clk ∧ M.length < 1000000000
  alts := fun (bx, qx, bm, M, clk) => [⟨Sq Int, fun y => KsB M y, fun y => .sl 2 0 y.2.2.2.2.1 y.2.2.2.2.2, fun y => moB bx qx bm M clk y⟩]
  mat vs m := match vs with
    | [.fn (.func 58) _ [.ptr p _ _]] => match nth m p with
      | ⟨bx, qx, _, _, _, .one [.mp w]⟩ => match nth m w with
        | ⟨bm, _, _, _, _, .mp 3 4 M clk⟩ => some ((bx, qx, bm, M, clk), [p, w])
        | _ => none
      | _ => none
    | _ => none
  ok := fun (bx, qx, bm, M, clk) h => collB_ok bx qx bm M clk h.1 h.2
abbrev MpG := List (Int × Rw Pg × Nat)
def KnG (M : MpG) (clk : Nat) : Inv' C0 := ⟨1, MpG, fun _ => [], fun v m => match m with
  | bx :: mp :: bs :: it :: _ => [bx, mp, ⟨bs.block, bs.base, bs.sz, bs.wr, bs.gl, .one [.nils]⟩, ⟨it.block, it.base, it.sz, it.wr, it.gl, .it 1 (bnsE (c := C0 3) (d := C0 33) v) clk⟩]
  | m => m, fun v => VisE (c := C0 3) (d := C0 33) M v ∧ (v.map fun e => e.1) = [], fun v => (lftE (c := C0 3) (d := C0 33) M v).length⟩
def KyG (M : MpG) (clk : Nat) : Inv' C0 := ⟨1, MpG × Nat × Nat × List Int × Nat × Nat, fun _ => [], fun y m => match m with
  | bx :: mp :: bs :: it :: _ => [bx, mp, ⟨bs.block, bs.base, bs.sz, bs.wr, bs.gl, .one [.sl 4 0 y.2.2.2.2.1 y.2.2.2.2.2]⟩, ⟨it.block, it.base, it.sz, it.wr, it.gl, .it 1 (bnsE (c := C0 3) (d := C0 33) y.1) clk⟩, ⟨y.2.1, y.2.2.1, 1, true, none, .rows 3 y.2.2.2.1⟩]
  | m => m, fun y => VisE (c := C0 3) (d := C0 33) M y.1 ∧ Gth (y.1.map fun e => e.1) (true, y.2), fun y => (lftE (c := C0 3) (d := C0 33) M y.1).length⟩
noncomputable def itG (M : MpG) (clk : Nat) : It Tryd.prog C0 := ⟨59, Tryd.f59, _, ⟨[], [], 14, [], [], []⟩, [KnG M clk, KyG M clk], Tryd.func59, rfl, (by kernel_rfl), (by kernel_rfl)⟩
def KsG (M : MpG) (y : Sq Int) : Prop := ∃ A, A.Perm (M.map fun e => e.1) ∧ Gth A y
abbrev mpG (bx qx bm : Nat) (M : MpG) (clk : Nat) : List (Ck C0) := [⟨bx, qx, 1, false, none, .one [.mp 1]⟩, ⟨bm, 0, 0, false, none, .mp 3 33 M clk⟩]
abbrev moG (bx qx bm : Nat) (M : MpG) (clk : Nat) (y : Sq Int) : List (Ck C0) := mpG bx qx bm M clk ++ [⟨y.2.1, y.2.2.1, 1, true, some y.1, .rows 3 y.2.2.2.1⟩]
set_option maxHeartbeats 4000000 in
theorem appG_ok (bx qx bm : Nat) (M : MpG) (clk : Nat) (h : Births (c := C0 3) (d := C0 33) M clk) (hl : M.length < 1000000000) :
    Does (C := C0) Tryd.prog (.fn 66) (mpG bx qx bm M clk) [.nils, .fn (.func 59) [] [.ptr 0 0 0]]
      [⟨Sq Int, fun y => KsG M y, fun y => .sl 2 0 y.2.2.2.2.1 y.2.2.2.2.2, fun y => moG bx qx bm M clk y⟩] := by
  refine loc_fnR (P := Tryd.prog) (E := ⟨[], [], 13, [], [], []⟩) (L := []) mix [itG M clk] Tryd.func66 rfl (by kernel_rfl) (by kernel_rfl) rfl rfl ?_
  ((conv => (arg 1; reduce)); with_reducible repeat' (first | exact Tr.yes_h | refine Tr.and_h ?_ ?_ | refine Tr.imp_h fun _ => ?_ | refine Tr.all_h fun _ => ?_ | refine Tr.lf_h ?_))
  all_goals try (first | first | (show Region.lexB _ _ = true; kernel_rfl) | (show planned _ _ = true; kernel_rfl) | exact rfl | exact True.intro | (first | exact key3 | exact zeroB | exact zeroR | exact zeroS | exact ⟨key3, zeroB⟩ | exact ⟨key3, zeroR⟩ | exact ⟨key3, zeroS⟩) | ((try dsimp only [imp, C0, cG, cInt, cPl, cSlot, cPg, gwCodec] at *); (try refine inR64 ?_ ?_) <;> (try simp only [List.length_set, List.length_append, List.length_take, List.length_drop]) <;> omega))
  · rename_i b1 b2 b3
    refine Stands.one ([] : MpG) ⟨⟨VisE.nil, rfl⟩, ?_⟩
    ((conv => (arg 1; reduce)); with_reducible repeat' (first | exact Tr.yes_h | refine Tr.and_h ?_ ?_ | refine Tr.imp_h fun _ => ?_ | refine Tr.all_h fun _ => ?_ | refine Tr.lf_h ?_))
    all_goals first | (first | first | (show Region.lexB _ _ = true; kernel_rfl) | (show planned _ _ = true; kernel_rfl) | exact rfl | exact True.intro | (first | exact key3 | exact zeroB | exact zeroR | exact zeroS | exact ⟨key3, zeroB⟩ | exact ⟨key3, zeroR⟩ | exact ⟨key3, zeroS⟩) | ((try dsimp only [imp, C0, cG, cInt, cPl, cSlot, cPg, gwCodec] at *); (try refine inR64 ?_ ?_) <;> (try simp only [List.length_set, List.length_append, List.length_take, List.length_drop]) <;> omega)) | (simp; done)
  · exact ⟨rfl, rfl, h.old⟩
  · rename_i b1 b2 b3 y hy hd
    change MpG at y
    obtain ⟨hv, hG⟩ := hy
    have hp : (y.map fun e => e.1).Perm (M.map fun e => e.1) := (hv.done hd).map fun e => e.1
    have hG : (y.map fun e => e.1) = [] := hG
    rw [hG] at hp
    refine Ends.one ((false, 0, 0, [], 0, 0) : Sq Int) ⟨_, hp, Gth.nil⟩ ?_
    ((conv => (arg 1; reduce)); with_reducible repeat' (first | exact Tr.yes_h | refine Tr.and_h ?_ ?_ | refine Tr.imp_h fun _ => ?_ | refine Tr.all_h fun _ => ?_ | refine Tr.lf_h ?_))
    all_goals (first | first | (show Region.lexB _ _ = true; kernel_rfl) | (show planned _ _ = true; kernel_rfl) | exact rfl | exact True.intro | (first | exact key3 | exact zeroB | exact zeroR | exact zeroS | exact ⟨key3, zeroB⟩ | exact ⟨key3, zeroR⟩ | exact ⟨key3, zeroS⟩) | ((try dsimp only [imp, C0, cG, cInt, cPl, cSlot, cPg, gwCodec] at *); (try refine inR64 ?_ ?_) <;> (try simp only [List.length_set, List.length_append, List.length_take, List.length_drop]) <;> omega))
  · rename_i b1 b2 b3 y hy e he
    exact ⟨rfl, rfl, entryE (c := C0 3) (d := C0 33) he.1⟩
  · rw [by3]
    exact ⟨Nat.le_refl 1, by decide⟩
  · rename_i b1 b2 b3 y hy e he b4 b5 sp
    change MpG at y
    obtain ⟨hv, hG⟩ := hy
    obtain ⟨k1, k2⟩ := hv.add h he
    have hm := matE (v := bnsE (c := C0 3) (d := C0 33) y) h he.1
    change List Int at sp
    refine Stands.next (Stands.one ((y ++ [e], (b5, 0, e.1 :: sp, 1, 1 + sp.length)) : MpG × Nat × Nat × List Int × Nat × Nat) ⟨⟨k1, ?_⟩, k2, ?_⟩)
    · show Gth ((y ++ [e]).map fun e => e.1) _
      rw [List.map_append, hG]
      exact ⟨rfl, rfl, by show 1 ≤ 1 + sp.length; omega, by show 1 + sp.length ≤ (e.1 :: sp).length; rw [List.length_cons]; omega, fun h => by cases h⟩
    ((conv => (arg 1; reduce)); with_reducible repeat' (first | exact Tr.yes_h | refine Tr.and_h ?_ ?_ | refine Tr.imp_h fun _ => ?_ | refine Tr.all_h fun _ => ?_ | refine Tr.lf_h ?_))
    all_goals first | (first | first | (show Region.lexB _ _ = true; kernel_rfl) | (show planned _ _ = true; kernel_rfl) | exact rfl | exact True.intro | (first | exact key3 | exact zeroB | exact zeroR | exact zeroS | exact ⟨key3, zeroB⟩ | exact ⟨key3, zeroR⟩ | exact ⟨key3, zeroS⟩) | ((try dsimp only [imp, C0, cG, cInt, cPl, cSlot, cPg, gwCodec] at *); (try refine inR64 ?_ ?_) <;> (try simp only [List.length_set, List.length_append, List.length_take, List.length_drop]) <;> omega)) | (rw [hm]; rfl) | (simp; done)
  · exact ⟨rfl, rfl, h.old⟩
  · rename_i b1 b2 b3 y hy hd
    refine Ends.one ((true, y.2) : Sq Int) ⟨_, (hy.1.done hd).map fun e => e.1, hy.2⟩ ?_
    ((conv => (arg 1; reduce)); with_reducible repeat' (first | exact Tr.yes_h | refine Tr.and_h ?_ ?_ | refine Tr.imp_h fun _ => ?_ | refine Tr.all_h fun _ => ?_ | refine Tr.lf_h ?_))
    all_goals (first | first | (show Region.lexB _ _ = true; kernel_rfl) | (show planned _ _ = true; kernel_rfl) | exact rfl | exact True.intro | (first | exact key3 | exact zeroB | exact zeroR | exact zeroS | exact ⟨key3, zeroB⟩ | exact ⟨key3, zeroR⟩ | exact ⟨key3, zeroS⟩) | ((try dsimp only [imp, C0, cG, cInt, cPl, cSlot, cPg, gwCodec] at *); (try refine inR64 ?_ ?_) <;> (try simp only [List.length_set, List.length_append, List.length_take, List.length_drop]) <;> omega))
  · rename_i b1 b2 b3 y hy e he
    exact ⟨rfl, rfl, entryE (c := C0 3) (d := C0 33) he.1⟩
  · rename_i b1 b2 b3 y hy e he b4
    obtain ⟨v, b', q', l', n', c'⟩ := y
    obtain ⟨hv, g1, g2, g3, g4, g5⟩ := hy
    have g2 : (v.map fun e => e.1).length = n' := g2
    have g3 : n' ≤ c' := g3
    have g4 : c' ≤ l'.length := g4
    have g6 : v.length ≤ M.length := VisE.len (c := C0 3) (d := C0 33) hv
    have g2 : v.length = n' := by rw [← g2, List.length_map]
    rw [by3]
    exact ⟨g3, by show 0 + c' ≤ l'.length; omega, Nat.le_refl 1, by show (n' + 1) * 8 ≤ _; omega⟩
  · rename_i b1 b2 b3 y hy e he b4 b5 b6 sp cap h1 h2
    obtain ⟨v, b', q', l', n', c'⟩ := y
    obtain ⟨hv, hG⟩ := hy
    obtain ⟨k1, k2⟩ := hv.add h he
    have hm := matE (v := bnsE (c := C0 3) (d := C0 33) v) h he.1
    change List Int at sp
    refine Stands.next (Stands.one ((v ++ [e], (b5, b6, l'.take n' ++ [e.1] ++ sp, n' + 1, cap)) : MpG × Nat × Nat × List Int × Nat × Nat) ⟨⟨k1, ?_⟩, k2, ?_⟩)
    · show Gth ((v ++ [e]).map fun e => e.1) _
      rw [List.map_append]
      exact hG.snoc h1 h2
    ((conv => (arg 1; reduce)); with_reducible repeat' (first | exact Tr.yes_h | refine Tr.and_h ?_ ?_ | refine Tr.imp_h fun _ => ?_ | refine Tr.all_h fun _ => ?_ | refine Tr.lf_h ?_))
    all_goals first | (first | first | (show Region.lexB _ _ = true; kernel_rfl) | (show planned _ _ = true; kernel_rfl) | exact rfl | exact True.intro | (first | exact key3 | exact zeroB | exact zeroR | exact zeroS | exact ⟨key3, zeroB⟩ | exact ⟨key3, zeroR⟩ | exact ⟨key3, zeroS⟩) | ((try dsimp only [imp, C0, cG, cInt, cPl, cSlot, cPg, gwCodec] at *); (try refine inR64 ?_ ?_) <;> (try simp only [List.length_set, List.length_append, List.length_take, List.length_drop]) <;> omega)) | (rw [hm]; rfl) | (simp; done)
noncomputable def fcAppG : Fc Tryd.prog C0 where
  tg := .fn 66
  X := Nat × Nat × Nat × MpG × Nat
  args := fun (bx, qx, bm, M, clk) => [.nils, .fn (.func 59) [] [.ptr 0 0 0]]
  mem := fun (bx, qx, bm, M, clk) => mpG bx qx bm M clk
  pre := fun (bx, qx, bm, M, clk) => Births (c := C0 3) (d := C0 33) M clk ∧ M.length < 1000000000
  alts := fun (bx, qx, bm, M, clk) => [⟨Sq Int, fun y => KsG M y, fun y => .sl 2 0 y.2.2.2.2.1 y.2.2.2.2.2, fun y => moG bx qx bm M clk y⟩]
  mat vs m := match vs with
    | [.nils, .fn (.func 59) _ [.ptr p _ _]] => match nth m p with
      | ⟨bx, qx, _, _, _, .one [.mp w]⟩ => match nth m w with
        | ⟨bm, _, _, _, _, .mp 3 33 M clk⟩ => some ((bx, qx, bm, M, clk), [p, w])
        | _ => none
      | _ => none
    | _ => none
  ok := fun (bx, qx, bm, M, clk) h => appG_ok bx qx bm M clk h.1 h.2
set_option maxHeartbeats 4000000 in
theorem collG_ok (bx qx bm : Nat) (M : MpG) (clk : Nat) (h : Births (c := C0 3) (d := C0 33) M clk) (hl : M.length < 1000000000) :
    Does (C := C0) Tryd.prog (.fn 55) (mpG bx qx bm M clk) [.fn (.func 59) [] [.ptr 0 0 0]]
      [⟨Sq Int, fun y => KsG M y, fun y => .sl 2 0 y.2.2.2.2.1 y.2.2.2.2.2, fun y => moG bx qx bm M clk y⟩] := by
  refine loc_fn (P := Tryd.prog) (E := ⟨[fcAppG], [], 5, [], [], []⟩) (L := []) mix Tryd.func55 rfl (by kernel_rfl) (by kernel_rfl) rfl rfl ?_
  ((conv => (arg 1; reduce)); with_reducible repeat' (first | exact Tr.yes_h | refine Tr.and_h ?_ ?_ | refine Tr.imp_h fun _ => ?_ | refine Tr.all_h fun _ => ?_ | refine Tr.lf_h ?_))
  all_goals try (first | first | (show Region.lexB _ _ = true; kernel_rfl) | (show planned _ _ = true; kernel_rfl) | exact rfl | exact True.intro | (first | exact key3 | exact zeroB | exact zeroR | exact zeroS | exact ⟨key3, zeroB⟩ | exact ⟨key3, zeroR⟩ | exact ⟨key3, zeroS⟩) | ((try dsimp only [imp, C0, cG, cInt, cPl, cSlot, cPg, gwCodec] at *); (try refine inR64 ?_ ?_) <;> (try simp only [List.length_set, List.length_append, List.length_take, List.length_drop]) <;> omega))
  · exact ⟨h, hl⟩
  · rename_i y hy
    refine Ends.one (y : Sq Int) hy ?_
    ((conv => (arg 1; reduce)); with_reducible repeat' (first | exact Tr.yes_h | refine Tr.and_h ?_ ?_ | refine Tr.imp_h fun _ => ?_ | refine Tr.all_h fun _ => ?_ | refine Tr.lf_h ?_))
    all_goals (first | first | (show Region.lexB _ _ = true; kernel_rfl) | (show planned _ _ = true; kernel_rfl) | exact rfl | exact True.intro | (first | exact key3 | exact zeroB | exact zeroR | exact zeroS | exact ⟨key3, zeroB⟩ | exact ⟨key3, zeroR⟩ | exact ⟨key3, zeroS⟩) | ((try dsimp only [imp, C0, cG, cInt, cPl, cSlot, cPg, gwCodec] at *); (try refine inR64 ?_ ?_) <;> (try simp only [List.length_set, List.length_append, List.length_take, List.length_drop]) <;> omega))
noncomputable def fcCollG : Fc Tryd.prog C0 where
  tg := .fn 55
  X := Nat × Nat × Nat × MpG × Nat
  args := fun (bx, qx, bm, M, clk) => [.fn (.func 59) [] [.ptr 0 0 0]]
  mem := fun (bx, qx, bm, M, clk) => mpG bx qx bm M clk
  pre := fun (bx, qx, bm, M, clk) => Births (c := C0 3) (d := C0 33) M clk ∧ M.length < 1000000000
  alts := fun (bx, qx, bm, M, clk) => [⟨Sq Int, fun y => KsG M y, fun y => .sl 2 0 y.2.2.2.2.1 y.2.2.2.2.2, fun y => moG bx qx bm M clk y⟩]
  mat vs m := match vs with
    | [.fn (.func 59) _ [.ptr p _ _]] => match nth m p with
      | ⟨bx, qx, _, _, _, .one [.mp w]⟩ => match nth m w with
        | ⟨bm, _, _, _, _, .mp 3 33 M clk⟩ => some ((bx, qx, bm, M, clk), [p, w])
        | _ => none
      | _ => none
    | _ => none
  ok := fun (bx, qx, bm, M, clk) h => collG_ok bx qx bm M clk h.1 h.2
abbrev MpS := List (Int × Slot × Nat)
def KnS (M : MpS) (clk : Nat) : Inv' C0 := ⟨1, MpS, fun _ => [], fun v m => match m with
  | bx :: mp :: bs :: it :: _ => [bx, mp, ⟨bs.block, bs.base, bs.sz, bs.wr, bs.gl, .one [.nils]⟩, ⟨it.block, it.base, it.sz, it.wr, it.gl, .it 1 (bnsE (c := C0 3) (d := C0 40) v) clk⟩]
  | m => m, fun v => VisE (c := C0 3) (d := C0 40) M v ∧ (v.map fun e => e.1) = [], fun v => (lftE (c := C0 3) (d := C0 40) M v).length⟩
def KyS (M : MpS) (clk : Nat) : Inv' C0 := ⟨1, MpS × Nat × Nat × List Int × Nat × Nat, fun _ => [], fun y m => match m with
  | bx :: mp :: bs :: it :: _ => [bx, mp, ⟨bs.block, bs.base, bs.sz, bs.wr, bs.gl, .one [.sl 4 0 y.2.2.2.2.1 y.2.2.2.2.2]⟩, ⟨it.block, it.base, it.sz, it.wr, it.gl, .it 1 (bnsE (c := C0 3) (d := C0 40) y.1) clk⟩, ⟨y.2.1, y.2.2.1, 1, true, none, .rows 3 y.2.2.2.1⟩]
  | m => m, fun y => VisE (c := C0 3) (d := C0 40) M y.1 ∧ Gth (y.1.map fun e => e.1) (true, y.2), fun y => (lftE (c := C0 3) (d := C0 40) M y.1).length⟩
noncomputable def itS (M : MpS) (clk : Nat) : It Tryd.prog C0 := ⟨57, Tryd.f57, _, ⟨[], [], 14, [], [], []⟩, [KnS M clk, KyS M clk], Tryd.func57, rfl, (by kernel_rfl), (by kernel_rfl)⟩
def KsS (M : MpS) (y : Sq Int) : Prop := ∃ A, A.Perm (M.map fun e => e.1) ∧ Gth A y
abbrev mpS (bx qx bm : Nat) (M : MpS) (clk : Nat) : List (Ck C0) := [⟨bx, qx, 1, false, none, .one [.mp 1]⟩, ⟨bm, 0, 0, false, none, .mp 3 40 M clk⟩]
abbrev moS (bx qx bm : Nat) (M : MpS) (clk : Nat) (y : Sq Int) : List (Ck C0) := mpS bx qx bm M clk ++ [⟨y.2.1, y.2.2.1, 1, true, some y.1, .rows 3 y.2.2.2.1⟩]
set_option maxHeartbeats 4000000 in
theorem appS_ok (bx qx bm : Nat) (M : MpS) (clk : Nat) (h : Births (c := C0 3) (d := C0 40) M clk) (hl : M.length < 1000000000) :
    Does (C := C0) Tryd.prog (.fn 66) (mpS bx qx bm M clk) [.nils, .fn (.func 57) [] [.ptr 0 0 0]]
      [⟨Sq Int, fun y => KsS M y, fun y => .sl 2 0 y.2.2.2.2.1 y.2.2.2.2.2, fun y => moS bx qx bm M clk y⟩] := by
  refine loc_fnR (P := Tryd.prog) (E := ⟨[], [], 13, [], [], []⟩) (L := []) mix [itS M clk] Tryd.func66 rfl (by kernel_rfl) (by kernel_rfl) rfl rfl ?_
  ((conv => (arg 1; reduce)); with_reducible repeat' (first | exact Tr.yes_h | refine Tr.and_h ?_ ?_ | refine Tr.imp_h fun _ => ?_ | refine Tr.all_h fun _ => ?_ | refine Tr.lf_h ?_))
  all_goals try (first | first | (show Region.lexB _ _ = true; kernel_rfl) | (show planned _ _ = true; kernel_rfl) | exact rfl | exact True.intro | (first | exact key3 | exact zeroB | exact zeroR | exact zeroS | exact ⟨key3, zeroB⟩ | exact ⟨key3, zeroR⟩ | exact ⟨key3, zeroS⟩) | ((try dsimp only [imp, C0, cG, cInt, cPl, cSlot, cPg, gwCodec] at *); (try refine inR64 ?_ ?_) <;> (try simp only [List.length_set, List.length_append, List.length_take, List.length_drop]) <;> omega))
  · rename_i b1 b2 b3
    refine Stands.one ([] : MpS) ⟨⟨VisE.nil, rfl⟩, ?_⟩
    ((conv => (arg 1; reduce)); with_reducible repeat' (first | exact Tr.yes_h | refine Tr.and_h ?_ ?_ | refine Tr.imp_h fun _ => ?_ | refine Tr.all_h fun _ => ?_ | refine Tr.lf_h ?_))
    all_goals first | (first | first | (show Region.lexB _ _ = true; kernel_rfl) | (show planned _ _ = true; kernel_rfl) | exact rfl | exact True.intro | (first | exact key3 | exact zeroB | exact zeroR | exact zeroS | exact ⟨key3, zeroB⟩ | exact ⟨key3, zeroR⟩ | exact ⟨key3, zeroS⟩) | ((try dsimp only [imp, C0, cG, cInt, cPl, cSlot, cPg, gwCodec] at *); (try refine inR64 ?_ ?_) <;> (try simp only [List.length_set, List.length_append, List.length_take, List.length_drop]) <;> omega)) | (simp; done)
  · exact ⟨rfl, rfl, h.old⟩
  · rename_i b1 b2 b3 y hy hd
    change MpS at y
    obtain ⟨hv, hG⟩ := hy
    have hp : (y.map fun e => e.1).Perm (M.map fun e => e.1) := (hv.done hd).map fun e => e.1
    have hG : (y.map fun e => e.1) = [] := hG
    rw [hG] at hp
    refine Ends.one ((false, 0, 0, [], 0, 0) : Sq Int) ⟨_, hp, Gth.nil⟩ ?_
    ((conv => (arg 1; reduce)); with_reducible repeat' (first | exact Tr.yes_h | refine Tr.and_h ?_ ?_ | refine Tr.imp_h fun _ => ?_ | refine Tr.all_h fun _ => ?_ | refine Tr.lf_h ?_))
    all_goals (first | first | (show Region.lexB _ _ = true; kernel_rfl) | (show planned _ _ = true; kernel_rfl) | exact rfl | exact True.intro | (first | exact key3 | exact zeroB | exact zeroR | exact zeroS | exact ⟨key3, zeroB⟩ | exact ⟨key3, zeroR⟩ | exact ⟨key3, zeroS⟩) | ((try dsimp only [imp, C0, cG, cInt, cPl, cSlot, cPg, gwCodec] at *); (try refine inR64 ?_ ?_) <;> (try simp only [List.length_set, List.length_append, List.length_take, List.length_drop]) <;> omega))
  · rename_i b1 b2 b3 y hy e he
    exact ⟨rfl, rfl, entryE (c := C0 3) (d := C0 40) he.1⟩
  · rw [by3]
    exact ⟨Nat.le_refl 1, by decide⟩
  · rename_i b1 b2 b3 y hy e he b4 b5 sp
    change MpS at y
    obtain ⟨hv, hG⟩ := hy
    obtain ⟨k1, k2⟩ := hv.add h he
    have hm := matE (v := bnsE (c := C0 3) (d := C0 40) y) h he.1
    change List Int at sp
    refine Stands.next (Stands.one ((y ++ [e], (b5, 0, e.1 :: sp, 1, 1 + sp.length)) : MpS × Nat × Nat × List Int × Nat × Nat) ⟨⟨k1, ?_⟩, k2, ?_⟩)
    · show Gth ((y ++ [e]).map fun e => e.1) _
      rw [List.map_append, hG]
      exact ⟨rfl, rfl, by show 1 ≤ 1 + sp.length; omega, by show 1 + sp.length ≤ (e.1 :: sp).length; rw [List.length_cons]; omega, fun h => by cases h⟩
    ((conv => (arg 1; reduce)); with_reducible repeat' (first | exact Tr.yes_h | refine Tr.and_h ?_ ?_ | refine Tr.imp_h fun _ => ?_ | refine Tr.all_h fun _ => ?_ | refine Tr.lf_h ?_))
    all_goals first | (first | first | (show Region.lexB _ _ = true; kernel_rfl) | (show planned _ _ = true; kernel_rfl) | exact rfl | exact True.intro | (first | exact key3 | exact zeroB | exact zeroR | exact zeroS | exact ⟨key3, zeroB⟩ | exact ⟨key3, zeroR⟩ | exact ⟨key3, zeroS⟩) | ((try dsimp only [imp, C0, cG, cInt, cPl, cSlot, cPg, gwCodec] at *); (try refine inR64 ?_ ?_) <;> (try simp only [List.length_set, List.length_append, List.length_take, List.length_drop]) <;> omega)) | (rw [hm]; rfl) | (simp; done)
  · exact ⟨rfl, rfl, h.old⟩
  · rename_i b1 b2 b3 y hy hd
    refine Ends.one ((true, y.2) : Sq Int) ⟨_, (hy.1.done hd).map fun e => e.1, hy.2⟩ ?_
    ((conv => (arg 1; reduce)); with_reducible repeat' (first | exact Tr.yes_h | refine Tr.and_h ?_ ?_ | refine Tr.imp_h fun _ => ?_ | refine Tr.all_h fun _ => ?_ | refine Tr.lf_h ?_))
    all_goals (first | first | (show Region.lexB _ _ = true; kernel_rfl) | (show planned _ _ = true; kernel_rfl) | exact rfl | exact True.intro | (first | exact key3 | exact zeroB | exact zeroR | exact zeroS | exact ⟨key3, zeroB⟩ | exact ⟨key3, zeroR⟩ | exact ⟨key3, zeroS⟩) | ((try dsimp only [imp, C0, cG, cInt, cPl, cSlot, cPg, gwCodec] at *); (try refine inR64 ?_ ?_) <;> (try simp only [List.length_set, List.length_append, List.length_take, List.length_drop]) <;> omega))
  · rename_i b1 b2 b3 y hy e he
    exact ⟨rfl, rfl, entryE (c := C0 3) (d := C0 40) he.1⟩
  · rename_i b1 b2 b3 y hy e he b4
    obtain ⟨v, b', q', l', n', c'⟩ := y
    obtain ⟨hv, g1, g2, g3, g4, g5⟩ := hy
    have g2 : (v.map fun e => e.1).length = n' := g2
    have g3 : n' ≤ c' := g3
    have g4 : c' ≤ l'.length := g4
    have g6 : v.length ≤ M.length := VisE.len (c := C0 3) (d := C0 40) hv
    have g2 : v.length = n' := by rw [← g2, List.length_map]
    rw [by3]
    exact ⟨g3, by show 0 + c' ≤ l'.length; omega, Nat.le_refl 1, by show (n' + 1) * 8 ≤ _; omega⟩
  · rename_i b1 b2 b3 y hy e he b4 b5 b6 sp cap h1 h2
    obtain ⟨v, b', q', l', n', c'⟩ := y
    obtain ⟨hv, hG⟩ := hy
    obtain ⟨k1, k2⟩ := hv.add h he
    have hm := matE (v := bnsE (c := C0 3) (d := C0 40) v) h he.1
    change List Int at sp
    refine Stands.next (Stands.one ((v ++ [e], (b5, b6, l'.take n' ++ [e.1] ++ sp, n' + 1, cap)) : MpS × Nat × Nat × List Int × Nat × Nat) ⟨⟨k1, ?_⟩, k2, ?_⟩)
    · show Gth ((v ++ [e]).map fun e => e.1) _
      rw [List.map_append]
      exact hG.snoc h1 h2
    ((conv => (arg 1; reduce)); with_reducible repeat' (first | exact Tr.yes_h | refine Tr.and_h ?_ ?_ | refine Tr.imp_h fun _ => ?_ | refine Tr.all_h fun _ => ?_ | refine Tr.lf_h ?_))
    all_goals first | (first | first | (show Region.lexB _ _ = true; kernel_rfl) | (show planned _ _ = true; kernel_rfl) | exact rfl | exact True.intro | (first | exact key3 | exact zeroB | exact zeroR | exact zeroS | exact ⟨key3, zeroB⟩ | exact ⟨key3, zeroR⟩ | exact ⟨key3, zeroS⟩) | ((try dsimp only [imp, C0, cG, cInt, cPl, cSlot, cPg, gwCodec] at *); (try refine inR64 ?_ ?_) <;> (try simp only [List.length_set, List.length_append, List.length_take, List.length_drop]) <;> omega)) | (rw [hm]; rfl) | (simp; done)
noncomputable def fcAppS : Fc Tryd.prog C0 where
  tg := .fn 66
  X := Nat × Nat × Nat × MpS × Nat
  args := fun (bx, qx, bm, M, clk) => [.nils, .fn (.func 57) [] [.ptr 0 0 0]]
  mem := fun (bx, qx, bm, M, clk) => mpS bx qx bm M clk
  pre := fun (bx, qx, bm, M, clk) => Births (c := C0 3) (d := C0 40) M clk ∧ M.length < 1000000000
  alts := fun (bx, qx, bm, M, clk) => [⟨Sq Int, fun y => KsS M y, fun y => .sl 2 0 y.2.2.2.2.1 y.2.2.2.2.2, fun y => moS bx qx bm M clk y⟩]
  mat vs m := match vs with
    | [.nils, .fn (.func 57) _ [.ptr p _ _]] => match nth m p with
      | ⟨bx, qx, _, _, _, .one [.mp w]⟩ => match nth m w with
        | ⟨bm, _, _, _, _, .mp 3 40 M clk⟩ => some ((bx, qx, bm, M, clk), [p, w])
        | _ => none
      | _ => none
    | _ => none
  ok := fun (bx, qx, bm, M, clk) h => appS_ok bx qx bm M clk h.1 h.2
set_option maxHeartbeats 4000000 in
theorem collS_ok (bx qx bm : Nat) (M : MpS) (clk : Nat) (h : Births (c := C0 3) (d := C0 40) M clk) (hl : M.length < 1000000000) :
    Does (C := C0) Tryd.prog (.fn 55) (mpS bx qx bm M clk) [.fn (.func 57) [] [.ptr 0 0 0]]
      [⟨Sq Int, fun y => KsS M y, fun y => .sl 2 0 y.2.2.2.2.1 y.2.2.2.2.2, fun y => moS bx qx bm M clk y⟩] := by
  refine loc_fn (P := Tryd.prog) (E := ⟨[fcAppS], [], 5, [], [], []⟩) (L := []) mix Tryd.func55 rfl (by kernel_rfl) (by kernel_rfl) rfl rfl ?_
  ((conv => (arg 1; reduce)); with_reducible repeat' (first | exact Tr.yes_h | refine Tr.and_h ?_ ?_ | refine Tr.imp_h fun _ => ?_ | refine Tr.all_h fun _ => ?_ | refine Tr.lf_h ?_))
  all_goals try (first | first | (show Region.lexB _ _ = true; kernel_rfl) | (show planned _ _ = true; kernel_rfl) | exact rfl | exact True.intro | (first | exact key3 | exact zeroB | exact zeroR | exact zeroS | exact ⟨key3, zeroB⟩ | exact ⟨key3, zeroR⟩ | exact ⟨key3, zeroS⟩) | ((try dsimp only [imp, C0, cG, cInt, cPl, cSlot, cPg, gwCodec] at *); (try refine inR64 ?_ ?_) <;> (try simp only [List.length_set, List.length_append, List.length_take, List.length_drop]) <;> omega))
  · exact ⟨h, hl⟩
  · rename_i y hy
    refine Ends.one (y : Sq Int) hy ?_
    ((conv => (arg 1; reduce)); with_reducible repeat' (first | exact Tr.yes_h | refine Tr.and_h ?_ ?_ | refine Tr.imp_h fun _ => ?_ | refine Tr.all_h fun _ => ?_ | refine Tr.lf_h ?_))
    all_goals (first | first | (show Region.lexB _ _ = true; kernel_rfl) | (show planned _ _ = true; kernel_rfl) | exact rfl | exact True.intro | (first | exact key3 | exact zeroB | exact zeroR | exact zeroS | exact ⟨key3, zeroB⟩ | exact ⟨key3, zeroR⟩ | exact ⟨key3, zeroS⟩) | ((try dsimp only [imp, C0, cG, cInt, cPl, cSlot, cPg, gwCodec] at *); (try refine inR64 ?_ ?_) <;> (try simp only [List.length_set, List.length_append, List.length_take, List.length_drop]) <;> omega))
noncomputable def fcCollS : Fc Tryd.prog C0 where
  tg := .fn 55
  X := Nat × Nat × Nat × MpS × Nat
  args := fun (bx, qx, bm, M, clk) => [.fn (.func 57) [] [.ptr 0 0 0]]
  mem := fun (bx, qx, bm, M, clk) => mpS bx qx bm M clk
  pre := fun (bx, qx, bm, M, clk) => Births (c := C0 3) (d := C0 40) M clk ∧ M.length < 1000000000
  alts := fun (bx, qx, bm, M, clk) => [⟨Sq Int, fun y => KsS M y, fun y => .sl 2 0 y.2.2.2.2.1 y.2.2.2.2.2, fun y => moS bx qx bm M clk y⟩]
  mat vs m := match vs with
    | [.fn (.func 57) _ [.ptr p _ _]] => match nth m p with
      | ⟨bx, qx, _, _, _, .one [.mp w]⟩ => match nth m w with
        | ⟨bm, _, _, _, _, .mp 3 40 M clk⟩ => some ((bx, qx, bm, M, clk), [p, w])
        | _ => none
      | _ => none
    | _ => none
  ok := fun (bx, qx, bm, M, clk) h => collS_ok bx qx bm M clk h.1 h.2
end Go.Vx
set_option maxRecDepth 100000
namespace Go.Vx
open Go Go.Proofs
variable [Gl]
section
variable {d : Codec}
theorem mput_keys (k : Int) (x : d.α) (clk : Nat) : ∀ (M : List (Ent' (C0 3) d)), (mputGo (C0 3) d k x clk M).map (fun e => (e.1 : Int)) = if k ∈ M.map (fun e => (e.1 : Int)) then M.map (fun e => (e.1 : Int)) else M.map (fun e => (e.1 : Int)) ++ [k]
  | [] => rfl
  | e :: r => by
    simp only [mputGo]
    have hb : (C0 3).beq k e.1 = decide (k = (e.1 : Int)) := rfl
    rw [hb]
    by_cases h : k = (e.1 : Int)
    · rw [decide_eq_true h]
      simp only [List.map_cons]
      rw [if_pos (by rw [← h]; exact List.mem_cons_self ..), h]
    · rw [decide_eq_false h]
      simp only [List.map_cons]
      rw [mput_keys k x clk r]
      by_cases h2 : k ∈ r.map (fun e => (e.1 : Int))
      · rw [if_pos h2, if_pos (List.mem_cons_of_mem _ h2)]
      · rw [if_neg h2, if_neg (by rw [List.mem_cons]; rintro (h3 | h3); exact h h3; exact h2 h3)]
        rfl
theorem mput_ent {k : Int} {x : d.α} {clk : Nat} : ∀ {M : List (Ent' (C0 3) d)}, (M.map (fun e => (e.1 : Int))).Nodup → ∀ {e : Ent' (C0 3) d}, e ∈ mputGo (C0 3) d k x clk M → ((e.1 : Int) = k ∧ e.2.1 = x) ∨ ((e.1 : Int) ≠ k ∧ e ∈ M)
  | [], _, e, h => by
    rw [List.mem_singleton.1 h]; exact .inl ⟨rfl, rfl⟩
  | y :: r, hn, e, h => by
    simp only [List.map_cons, List.nodup_cons] at hn
    simp only [mputGo] at h
    have hb : (C0 3).beq k y.1 = decide (k = (y.1 : Int)) := rfl
    rw [hb] at h
    by_cases hk : k = (y.1 : Int)
    · rw [decide_eq_true hk] at h
      rcases List.mem_cons.1 h with rfl | h
      · exact .inl ⟨rfl, rfl⟩
      · exact .inr ⟨fun e' => hn.1 (by rw [← hk, ← e']; exact List.mem_map.2 ⟨e, h, rfl⟩), List.mem_cons_of_mem _ h⟩
    · rw [decide_eq_false hk] at h
      rcases List.mem_cons.1 h with rfl | h
      · exact .inr ⟨fun e' => hk e'.symm, List.mem_cons_self ..⟩
      · rcases mput_ent hn.2 h with h | ⟨h1, h2⟩
        · exact .inl h
        · exact .inr ⟨h1, List.mem_cons_of_mem _ h2⟩
theorem mhas_keys (M : List (Ent' (C0 3) d)) (k : Int) : mhas (C0 3) d M k = decide (k ∈ M.map (fun e => (e.1 : Int))) := by
  rw [mhas_any]
  induction M with
  | nil => rfl
  | cons e r ih =>
    simp only [List.any_cons, ih]
    have hb : (C0 3).beq k e.1 = decide (k = (e.1 : Int)) := rfl
    rw [hb]
    simp only [List.map_cons, List.mem_cons, Bool.decide_or]
theorem mput_born {k : Int} {x : d.α} {clk : Nat} {M : List (Ent' (C0 3) d)} (h : Births M clk) : Births (mput (C0 3) d M k x clk) (mclk (C0 3) d M k clk) := by
  cases hh : mhas (C0 3) d M k with
  | false =>
    rw [mput_new hh, mclk_new hh]
    exact h.add k x
  | true =>
    have e1 : mclk (C0 3) d M k clk = clk := by unfold mclk; rw [hh]; rfl
    rw [e1]
    have key : ∀ (M : List (Ent' (C0 3) d)), mhas (C0 3) d M k = true → (mputGo (C0 3) d k x clk M).map (·.2.2) = M.map (·.2.2) := by
      intro M
      induction M with
      | nil => intro h; cases h
      | cons e r ih =>
        intro hm
        rw [mhas_any, List.any_cons] at hm
        simp only [mputGo]
        cases hb : (C0 3).beq k e.1 with
        | true => rfl
        | false =>
          rw [hb, Bool.false_or, ← mhas_any] at hm
          simp only [List.map_cons, ih hm]
    have e2 := key M hh
    refine ⟨by unfold mput; rw [e2]; exact h.nd, fun e he => ?_⟩
    have : e.2.2 ∈ (mput (C0 3) d M k x clk).map (·.2.2) := List.mem_map.2 ⟨e, he, rfl⟩
    unfold mput at this
    rw [e2] at this
    obtain ⟨e', he', h'⟩ := List.mem_map.1 this
    rw [← h']; exact h.old e' he'
theorem mget_ent {M : List (Ent' (C0 3) d)} {k : Int} (h : k ∈ M.map (fun e => (e.1 : Int))) : ∃ e ∈ M, (e.1 : Int) = k ∧ mget (C0 3) d M k = e.2.1 := by
  rw [mget_find]
  induction M with
  | nil => cases h
  | cons e r ih =>
    simp only [List.find?_cons]
    have hb : (C0 3).beq k e.1 = decide (k = (e.1 : Int)) := rfl
    rw [hb]
    by_cases hk : k = (e.1 : Int)
    · rw [decide_eq_true hk]
      exact ⟨e, List.mem_cons_self .., hk.symm, rfl⟩
    · rw [decide_eq_false hk]
      rcases List.mem_cons.1 h with h | h
      · exact absurd h hk
      · obtain ⟨e', h1, h2⟩ := ih h
        exact ⟨e', List.mem_cons_of_mem _ h1, h2⟩
theorem mget_no {M : List (Ent' (C0 3) d)} {k : Int} (h : k ∉ M.map (fun e => (e.1 : Int))) : mget (C0 3) d M k = d.dflt := by
  have := mhas_keys M k
  rw [decide_eq_false h] at this
  unfold mhas at this
  unfold mget
  cases hm : mfix (C0 3) d k M 0 with
  | none => rfl
  | some p => rw [hm] at this; cases this
structure MKeys (M : List (Ent' (C0 3) d)) (clk : Nat) (S : List Int) : Prop where
  born : Births M clk
  nd : (M.map (fun e => (e.1 : Int))).Nodup
  mem : ∀ k, k ∈ M.map (fun e => (e.1 : Int)) ↔ k ∈ S
theorem MKeys.nil : MKeys ([] : List (Ent' (C0 3) d)) 0 [] := ⟨Births.nil 0, List.nodup_nil, fun _ => Iff.rfl⟩
theorem MKeys.put {M : List (Ent' (C0 3) d)} {clk : Nat} {S : List Int} (h : MKeys M clk S) (k : Int) (x : d.α) : MKeys (mput (C0 3) d M k x clk) (mclk (C0 3) d M k clk) (S ++ [k]) := by
  have e : (mput (C0 3) d M k x clk).map (fun e => (e.1 : Int)) = _ := mput_keys k x clk M
  refine ⟨mput_born h.born, ?_, fun j => ?_⟩
  · rw [e]
    split
    · exact h.nd
    · rename_i hk
      rw [List.nodup_append]
      exact ⟨h.nd, by simp, fun a ha b hb e' => hk (by rw [List.mem_singleton] at hb; rw [← hb, ← e']; exact ha)⟩
  · rw [e]
    split
    · rename_i hk
      rw [h.mem, List.mem_append, List.mem_singleton]
      refine ⟨.inl, fun hj => hj.elim id fun hj => ?_⟩
      rw [hj]; exact (h.mem k).1 hk
    · rw [List.mem_append, List.mem_append, h.mem]
theorem MKeys.len {M : List (Ent' (C0 3) d)} {clk : Nat} {S : List Int} (h : MKeys M clk S) : M.length ≤ S.length := by
  have : ∀ (A B : List Int), A.Nodup → (∀ x ∈ A, x ∈ B) → A.length ≤ B.length := by
    intro A
    induction A with
    | nil => intro B _ _; exact Nat.zero_le _
    | cons a r ih =>
      intro B hn hs
      rw [List.nodup_cons] at hn
      have hb := hs a (by simp)
      have := ih (B.erase a) hn.2 fun x hx => (List.mem_erase_of_ne (fun e => hn.1 (by rw [← e]; exact hx))).2 (hs x (by simp [hx]))
      rw [List.length_erase_of_mem hb] at this
      have := List.length_pos_of_mem hb
      simp only [List.length_cons]; omega
  have := this _ S h.nd fun k hk => (h.mem k).1 hk
  rwa [List.length_map] at this
end
structure MSet (M : MpB) (clk : Nat) (S : List Int) : Prop where
  keys : MKeys (d := C0 4) M clk S
  val : ∀ e ∈ M, e.2.1 = true
theorem MSet.nil : MSet [] 0 [] := ⟨MKeys.nil, fun e he => by cases he⟩
theorem MSet.put {M : MpB} {clk : Nat} {S : List Int} (h : MSet M clk S) (k : Int) : MSet (mput (C0 3) (C0 4) M k true clk) (mclk (C0 3) (C0 4) M k clk) (S ++ [k]) := by
  refine ⟨h.keys.put k true, fun e he => ?_⟩
  rcases mput_ent h.keys.nd he with ⟨_, h2⟩ | ⟨_, h2⟩
  · exact h2
  · exact h.val e h2
theorem MSet.get {M : MpB} {clk : Nat} {S : List Int} (h : MSet M clk S) (k : Int) : mgetB M k = decide (k ∈ S) := by
  by_cases hk : k ∈ S
  · rw [decide_eq_true hk]
    obtain ⟨e, h1, _, h3⟩ := mget_ent (d := C0 4) ((h.keys.mem k).2 hk)
    show mget (C0 3) (C0 4) M k = true
    rw [h3]; exact h.val e h1
  · rw [decide_eq_false hk]
    exact mget_no (d := C0 4) fun hm => hk ((h.keys.mem k).1 hm)
abbrev Rise (A : List Int) : Prop := A.Pairwise (· < ·)
theorem rise_one : ∀ {A B : List Int}, Rise A → Rise B → (∀ k, k ∈ A ↔ k ∈ B) → A = B
  | [], [], _, _, _ => rfl
  | [], b :: B, _, _, h => by have := (h b).2 (by simp); cases this
  | a :: A, [], _, _, h => by have := (h a).1 (by simp); cases this
  | a :: A, b :: B, hA, hB, h => by
    unfold Rise at hA hB
    rw [List.pairwise_cons] at hA hB
    have e : a = b := by
      rcases List.mem_cons.1 ((h a).1 (by simp)) with h1 | h1
      · exact h1
      · rcases List.mem_cons.1 ((h b).2 (by simp)) with h2 | h2
        · exact h2.symm
        · have := hB.1 a h1
          have := hA.1 b h2
          omega
    subst e
    rw [rise_one hA.2 hB.2 fun k => ?_]
    have := h k
    simp only [List.mem_cons] at this
    refine ⟨fun hk => ?_, fun hk => ?_⟩
    · rcases this.1 (.inr hk) with h1 | h1
      · have := hA.1 k hk; omega
      · exact h1
    · rcases this.2 (.inr hk) with h1 | h1
      · have := hB.1 k hk; omega
      · exact h1
def upTo (n : Nat) : List Int := (List.range n).map Int.ofNat
theorem mem_upTo {n : Nat} {k : Int} : k ∈ upTo n ↔ 0 ≤ k ∧ k < (n : Int) := by
  unfold upTo
  rw [List.mem_map]
  constructor
  · rintro ⟨a, h1, rfl⟩
    have := List.mem_range.1 h1
    exact ⟨Int.natCast_nonneg a, by show (a : Int) < n; omega⟩
  · rintro ⟨h1, h2⟩
    exact ⟨k.toNat, List.mem_range.2 (by omega), Int.toNat_of_nonneg h1⟩
theorem rise_upTo (n : Nat) : Rise (upTo n) := by
  unfold upTo
  rw [Rise, List.pairwise_map]
  exact (List.pairwise_lt_range (n := n)).imp fun h => Int.ofNat_lt.2 h
theorem Rise.filter {A : List Int} (h : Rise A) (f : Int → Bool) : Rise (A.filter f) := List.Pairwise.filter f h
end Go.Vx
set_option maxRecDepth 100000
namespace Go.Proofs
open Go.Shelf
def Tryd.sortInts_ren : Go.Shelf.Ren := ⟨fun | 5 => 56 | 7 => 67 | 8 => 64 | 10 => 86 | 11 => 87 | 12 => 88 | 13 => 89 | 14 => 90 | 15 => 91 | 16 => 92 | 17 => 93 | 18 => 94 | 19 => 76 | 20 => 77 | 30 => 103 | 31 => 96 | 32 => 97 | 33 => 104 | 34 => 105 | 35 => 51 | 40 => 108 | n => n, fun | 0 => 0 | 3 => 3 | 4 => 4 | 5 => 5 | 9 => 9 | 22 => 25 | 23 => 25 | 25 => 3 | 32 => 101 | 35 => 106 | 36 => 107 | 41 => 84 | 44 => 113 | 46 => 115 | 53 => 127 | 57 => 131 | 63 => 137 | 64 => 138 | n => n, fun | n => n⟩
theorem Tryd.sortInts : Go.Proofs.SlLaysM.n5 Tryd.prog Tryd.sortInts_ren := {
  mixed := by kernel_rfl
  f5 := ⟨Tryd.f56.name, by decide, Tryd.func56.trans (congrArg some (by kernel_rfl))⟩
  f7 := ⟨Tryd.f67.name, by decide, Tryd.func67.trans (congrArg some (by kernel_rfl))⟩
  f8 := Tryd.func64.trans (congrArg some (by kernel_rfl))
  f10 := ⟨Tryd.f86.name, by decide, Tryd.func86.trans (congrArg some (by kernel_rfl))⟩
  f11 := ⟨Tryd.f87.name, by decide, Tryd.func87.trans (congrArg some (by kernel_rfl))⟩
  f12 := ⟨Tryd.f88.name, by decide, Tryd.func88.trans (congrArg some (by kernel_rfl))⟩
  f13 := ⟨Tryd.f89.name, by decide, Tryd.func89.trans (congrArg some (by kernel_rfl))⟩
  f14 := ⟨Tryd.f90.name, by decide, Tryd.func90.trans (congrArg some (by kernel_rfl))⟩
  f15 := ⟨Tryd.f91.name, by decide, Tryd.func91.trans (congrArg some (by kernel_rfl))⟩
  f16 := ⟨Tryd.f92.name, by decide, Tryd.func92.trans (congrArg some (by kernel_rfl))⟩
  f17 := ⟨Tryd.f93.name, by decide, Tryd.func93.trans (congrArg some (by kernel_rfl))⟩
  f18 := ⟨Tryd.f94.name, by decide, Tryd.func94.trans (congrArg some (by kernel_rfl))⟩
  f19 := Tryd.func76.trans (congrArg some (by kernel_rfl))
  f20 := Tryd.func77.trans (congrArg some (by kernel_rfl))
  f30 := ⟨Tryd.f103.name, by decide, Tryd.func103.trans (congrArg some (by kernel_rfl))⟩
  f31 := Tryd.func96.trans (congrArg some (by kernel_rfl))
  f32 := Tryd.func97.trans (congrArg some (by kernel_rfl))
  f33 := ⟨Tryd.f104.name, by decide, Tryd.func104.trans (congrArg some (by kernel_rfl))⟩
  f34 := ⟨Tryd.f105.name, by decide, Tryd.func105.trans (congrArg some (by kernel_rfl))⟩
  f35 := ⟨Tryd.f51.name, by decide, Tryd.func51.trans (congrArg some (by kernel_rfl))⟩
  f40 := ⟨Tryd.f108.name, by decide, Tryd.func108.trans (congrArg some (by kernel_rfl))⟩
  t0 := Tryd.underlying0
  a0 := Tryd.isAgg0
  z0 := Tryd.sizeOf0
  v0 := Tryd.zeroValue0
  t3 := Tryd.underlying3
  a3 := Tryd.isAgg3
  z3 := Tryd.sizeOf3
  v3 := Tryd.zeroValue3
  t4 := Tryd.underlying4
  a4 := Tryd.isAgg4
  z4 := Tryd.sizeOf4
  v4 := Tryd.zeroValue4
  t5 := Tryd.underlying5
  a5 := Tryd.isAgg5
  z5 := Tryd.sizeOf5
  v5 := Tryd.zeroValue5
  t9 := Tryd.underlying9
  a9 := Tryd.isAgg9
  z9 := Tryd.sizeOf9
  v9 := Tryd.zeroValue9
  t22 := Tryd.underlying25
  a22 := Tryd.isAgg25
  z22 := Tryd.sizeOf25
  v22 := Tryd.zeroValue25
  t23 := Tryd.underlying25
  a23 := Tryd.isAgg25
  z23 := Tryd.sizeOf25
  v23 := Tryd.zeroValue25
  t25 := Tryd.underlying3
  a25 := Tryd.isAgg3
  z25 := Tryd.sizeOf3
  v25 := Tryd.zeroValue3
  t32 := Tryd.underlying101
  a32 := Tryd.isAgg101
  z32 := Tryd.sizeOf101
  v32 := Tryd.zeroValue101
  t35 := Tryd.underlying106
  a35 := Tryd.isAgg106
  z35 := Tryd.sizeOf106
  v35 := Tryd.zeroValue106
  t36 := Tryd.underlying107
  a36 := Tryd.isAgg107
  z36 := Tryd.sizeOf107
  v36 := Tryd.zeroValue107
  t41 := Tryd.underlying84
  a41 := Tryd.isAgg84
  z41 := Tryd.sizeOf84
  v41 := Tryd.zeroValue84
  t44 := Tryd.underlying113
  a44 := Tryd.isAgg113
  z44 := Tryd.sizeOf113
  v44 := Tryd.zeroValue113
  t46 := Tryd.underlying115
  a46 := Tryd.isAgg115
  z46 := Tryd.sizeOf115
  v46 := Tryd.zeroValue115
  t53 := Tryd.underlying127
  a53 := Tryd.isAgg127
  z53 := Tryd.sizeOf127
  v53 := Tryd.zeroValue127
  t57 := Tryd.underlying131
  a57 := Tryd.isAgg131
  z57 := Tryd.sizeOf131
  v57 := Tryd.zeroValue131
  t63 := Tryd.underlying137
  a63 := Tryd.isAgg137
  z63 := Tryd.sizeOf137
  v63 := Tryd.zeroValue137
  t64 := Tryd.underlying138
  a64 := Tryd.isAgg138
  z64 := Tryd.sizeOf138
  v64 := Tryd.zeroValue138
}
end Go.Proofs
namespace Go.Vx
open Go Go.Proofs Go.Shelf Go.Sort
variable [Gl]
@[irreducible] def srt (l : List Int) : List Int := l.mergeSort fun x y => decide (x ≤ y)
theorem srt_perm (l : List Int) : (srt l).Perm l := by unfold srt; exact List.mergeSort_perm _ _
theorem srt_len (l : List Int) : (srt l).length = l.length := (srt_perm l).length_eq
theorem srt_nil : srt [] = [] := by unfold srt; simp
theorem srt_le (l : List Int) : (srt l).Pairwise (· ≤ ·) := by
  unfold srt
  have := List.pairwise_mergeSort (le := fun x y : Int => decide (x ≤ y)) (fun a b c h1 h2 => by simp at *; omega) (fun a b => by simp; omega) l
  exact this.imp fun h => by simpa using h
theorem sortOn_ok (b q : Nat) (l : List Int) (n c : Nat) (hn : n ≤ l.length) (hbig : n < 4611686018427387904) :
    Does (C := C0) Tryd.prog (.fn 56) [⟨b, q, 1, true, some true, .rows 3 l⟩] [.sl 0 0 n c]
      [⟨Unit, fun _ => True, fun _ => .tup [], fun _ => [⟨b, q, 1, true, some true, .rows 3 (srt (l.take n) ++ l.drop n)⟩]⟩] := by
  intro w hm
  have hN : (l.take n).length = n := tk_len hn
  have hrow := hm.ok _ (List.mem_singleton.2 rfl) rfl
  simp only [Ck.ok] at hrow
  obtain ⟨_, hrow⟩ := hrow
  have hblk : b < w.heap.size := hm.lt _ (List.mem_singleton.2 rfl) rfl
  have hfr : ∀ a : Addr, a.block = b → w.frozen? a = false := hm.wrok _ (List.mem_singleton.2 rfl) rfl rfl
  have hcell : ∀ i, i < l.length → w.cell? ⟨b, q + i, none⟩ = some (.int .i64 (l.getD i 0)) := by
    intro i hi
    have := hrow i hi 0 Nat.zero_lt_one
    have e : (Ck.ad ({ block := b, base := q, sz := 1, wr := true, gl := some true, cells := .rows 3 l } : Ck C0)).at i 0 = ⟨b, q + i, none⟩ := by simp [Ck.ad, Ad.at]
    rw [e] at this
    rw [this]; rfl
  have hH : Go.Sort.Holds (Value.int .i64) w b q (l.take n).toArray := by
    intro j hj
    have hj : j < n := by rw [List.size_toArray, hN] at hj; exact hj
    refine ⟨?_, hfr _ rfl⟩
    rw [hcell j (by omega), getElem!_pos _ j (by simpa [hN] using hj)]
    simp [List.getD, List.getElem?_eq_getElem (show j < l.length by omega)]
  have hcon : Calls Tryd.prog 56 #[.slice (some ⟨b, q, none⟩) n c] w fun e w' => e = .returned (.tuple #[]) ∧ ∃ k os, w' = grow (putRow (Value.int .i64) (Sort.ahead w k) b q ((l.take n).mergeSort fun x y => decide (x ≤ y)).toArray) os := by
    have h0 := calls_of_every_depth fun D => AnySM.slices_Sort_int_in (P := Tryd.prog) Tryd.sortInts D b q c (l.take n) w hH hblk (by rw [hN]; exact hbig)
    rw [hN] at h0
    exact h0
  have e0 : (SV.vas (ads ([⟨b, q, 1, true, some true, .rows 3 l⟩] : List (Ck C0))) [.sl 0 0 n c]).toArray = #[.slice (some ⟨b, q, none⟩) n c] := by
    simp [SV.vas, SV.va, ads, nth, Ck.ad, Ck.on, Ad.at]
  rw [e0]
  refine ⟨_, _, run_callFunc Tryd.func56 rfl (by kernel_rfl) _ w, hcon.mono ?_⟩
  rintro e w' ⟨rfl, k, os, rfl⟩
  have hs : ((l.take n).mergeSort fun x y => decide (x ≤ y)) = srt (l.take n) := by unfold srt; rfl
  rw [hs]
  have hL : (srt (l.take n)).length = n := by rw [srt_len, hN]
  have hsz0 : (putRow (Value.int .i64) (Sort.ahead w k) b q (srt (l.take n)).toArray).heap.size = w.heap.size := by rw [Go.Sort.size_putRow]; rfl
  have hHa : Go.Sort.Holds (Value.int .i64) (Sort.ahead w k) b q (l.take n).toArray := hH
  have hin : ∀ j, j < n → (grow (putRow (Value.int .i64) (Sort.ahead w k) b q (srt (l.take n)).toArray) os).cell? ⟨b, q + j, none⟩ = some (.int .i64 ((srt (l.take n)).getD j 0)) := by
    intro j hj
    rw [cell?_grow _ _ _ (by rw [hsz0]; exact hblk)]
    have h2 := holds_putRow (Value.int .i64) (Sort.ahead w k) b q (l.take n).toArray (srt (l.take n)).toArray hHa (by simp [hL, hN])
    rw [(h2 j (by simp [hL]; exact hj)).1, getElem!_pos _ j (by simp [hL]; exact hj)]
    simp [List.getD, List.getElem?_eq_getElem (show j < (srt (l.take n)).length by omega)]
  have hother : ∀ a : Addr, a.block < w.heap.size → (a.block ≠ b ∨ a.off < q ∨ q + n ≤ a.off) → (grow (putRow (Value.int .i64) (Sort.ahead w k) b q (srt (l.take n)).toArray) os).cell? a = w.cell? a := by
    intro a ha hoff
    rw [cell?_grow _ _ _ (by rw [hsz0]; exact ha), cell?_putRow_other _ _ _ _ _ _ (by simpa [hL] using hoff)]
    rfl
  have hheap : ∀ j, j < w.heap.size → j ≠ b → (grow (putRow (Value.int .i64) (Sort.ahead w k) b q (srt (l.take n)).toArray) os).heap[j]? = w.heap[j]? := by
    intro j hj hjb
    rw [heap_grow_old _ _ (by rw [hsz0]; exact hj)]
    unfold putRow mapBlock
    simp only [Array.getElem?_modify]
    rw [if_neg (Ne.symm hjb)]
    rfl
  have hsize : w.heap.size ≤ (grow (putRow (Value.int .i64) (Sort.ahead w k) b q (srt (l.take n)).toArray) os).heap.size := by rw [size_grow, hsz0]; omega
  refine ⟨.tup [], [⟨b, q, 1, true, some true, .rows 3 (srt (l.take n) ++ l.drop n)⟩], by simp [SV.va, SV.vas], ?_, ?_, ?_⟩
  · refine ⟨rfl, ⟨rfl, Nat.le_add_right _ _⟩, rfl, hsize, ?_, ?_, ?_, ?_, ?_, ?_, ?_⟩
    · intro j hj hS
      refine hheap j hj fun hjb => hS ⟨_, List.mem_singleton.2 rfl, rfl, rfl, hjb.symm⟩
    · intro c' hc' _ _ _
      exact ⟨_, List.mem_singleton.2 rfl, rfl, rfl, by rw [List.mem_singleton.1 hc']⟩
    · intro c' hc' _
      rw [List.mem_singleton.1 hc']
      refine ⟨rfl, fun i hi f hf => ?_⟩
      have hf0 : f = 0 := by
        have : f < 1 := hf
        omega
      subst hf0
      have hlen : (srt (l.take n) ++ l.drop n).length = l.length := by rw [List.length_append, hL, List.length_drop]; omega
      have e : (Ck.ad ({ block := b, base := q, sz := 1, wr := true, gl := some true, cells := .rows 3 (srt (l.take n) ++ l.drop n) } : Ck C0)).at i 0 = ⟨b, q + i, none⟩ := by simp [Ck.ad, Ad.at]
      rw [e]
      show _ = some (Value.int .i64 ((srt (l.take n) ++ l.drop n).getD i 0))
      by_cases hi' : i < n
      · rw [hin i hi']
        congr 2
        rw [List.getD_eq_getElem?_getD, List.getD_eq_getElem?_getD, List.getElem?_append_left (by omega)]
      · rw [hother _ hblk (.inr (.inr (by show q + n ≤ q + i; omega))), hcell i (by omega)]
        congr 2
        rw [List.getD_eq_getElem?_getD, List.getD_eq_getElem?_getD, List.getElem?_append_right (by omega), hL, List.getElem?_drop, show n + (i - n) = i by omega]
    · intro c' hc' _ _ a ha
      rw [List.mem_singleton.1 hc'] at ha
      rw [frozen?_grow _ _ _ (by rw [hsz0, ha]; exact hblk), frozen?_putRow]
      exact hfr a ha
    · intro i j hi hj hij
      simp at hi hj; omega
    · intro c' hc' _
      rw [List.mem_singleton.1 hc']
      exact Nat.lt_of_lt_of_le hblk hsize
    · refine hm.more.mono hm.inS ?_ ?_ (Nat.le_refl _) hsize ?_
      · intro j hj hno
        exact hheap j hj fun hjb => hno _ (List.mem_singleton.2 rfl) rfl rfl hjb.symm
      · intro c' hc' hl'
        rw [List.mem_singleton.1 hc']
        exact .inl ⟨_, List.mem_singleton.2 rfl, rfl, rfl, id⟩
      · intro c' hc'
        rw [List.mem_singleton.1 hc']
        exact CsIn.rows (RowsOf.flat rfl _)
  · refine ⟨Nat.le_refl _, ?_, ?_⟩
    · intro k hk
      have : k = 0 := by simp at hk; omega
      subst this
      exact ⟨rfl, rfl, rfl, rfl, rfl⟩
    · intro k h0 h2
      simp at h0 h2; omega
  · exact Ends.one () trivial ⟨rfl, rfl⟩
theorem sortOff_ok (b q : Nat) (l : List Int) : Does (C := C0) Tryd.prog (.fn 56) [⟨b, q, 1, true, some false, .rows 3 l⟩] [.sl 0 0 0 0]
      [⟨Unit, fun _ => True, fun _ => .tup [], fun _ => [⟨b, q, 1, true, some false, .rows 3 l⟩]⟩] := by
  intro w hm
  have hcon : Calls Tryd.prog 56 #[.slice none 0 0] w fun e w' => e = .returned (.tuple #[]) ∧ w' = w := calls_of_every_depth fun D => AnySM.slices_Sort_int_none_in (P := Tryd.prog) Tryd.sortInts D none 0 w
  have e0 : (SV.vas (ads ([⟨b, q, 1, true, some false, .rows 3 l⟩] : List (Ck C0))) [.sl 0 0 0 0]).toArray = #[.slice none 0 0] := by
    simp [SV.vas, SV.va, ads, nth, Ck.ad, Ck.on, Ad.at]
  rw [e0]
  refine ⟨_, _, run_callFunc Tryd.func56 rfl (by kernel_rfl) _ w, hcon.mono ?_⟩
  rintro e w' ⟨rfl, rfl⟩
  refine ⟨.tup [], _, by simp [SV.va, SV.vas], hm, ⟨Nat.le_refl _, fun k hk => ?_, fun k h0 h2 => ?_⟩, Ends.one () trivial ⟨rfl, rfl⟩⟩
  · exact ⟨rfl, rfl, rfl, rfl, rfl⟩
  · simp at h0 h2; omega
theorem sort_ok (o : Bool) (b q : Nat) (l : List Int) (n c : Nat) (hn : n ≤ l.length) (hbig : n < 4611686018427387904) (ho : o = false → n = 0 ∧ c = 0) :
    Does (C := C0) Tryd.prog (.fn 56) [⟨b, q, 1, true, some o, .rows 3 l⟩] [.sl 0 0 n c]
      [⟨Unit, fun _ => True, fun _ => .tup [], fun _ => [⟨b, q, 1, true, some o, .rows 3 (srt (l.take n) ++ l.drop n)⟩]⟩] := by
  cases o with
  | true => exact sortOn_ok b q l n c hn hbig
  | false =>
    obtain ⟨rfl, rfl⟩ := ho rfl
    have e : srt (l.take 0) ++ l.drop 0 = l := by rw [List.take_zero, srt_nil]; simp
    rw [e]
    exact sortOff_ok b q l
noncomputable def fcSort : Fc Tryd.prog C0 where
  tg := .fn 56
  X := Bool × Nat × Nat × List Int × Nat × Nat
  args := fun (o, b, q, l, n, c) => [.sl 0 0 n c]
  mem := fun (o, b, q, l, n, c) => [⟨b, q, 1, true, some o, .rows 3 l⟩]
  pre := fun (o, b, q, l, n, c) => n ≤ l.length ∧ n < 4611686018427387904 ∧ (o = false → n = 0 ∧ c = 0)
  alts := fun (o, b, q, l, n, c) => [⟨Unit, fun _ => True, fun _ => .tup [], fun _ => [⟨b, q, 1, true, some o, .rows 3 (srt (l.take n) ++ l.drop n)⟩]⟩]
  mat vs m := match vs with
    | [.sl a 0 n c] => match nth m a with
      | ⟨b, q, _, _, g, .rows 3 l⟩ => some ((onOf g, b, q, l, n, c), [a])
      | _ => none
    | _ => none
  ok := fun (o, b, q, l, n, c) h => sort_ok o b q l n c h.1 h.2.1 h.2.2
end Go.Vx
set_option maxRecDepth 100000
namespace Go.Vx
open Go Go.Proofs
variable [Gl]
theorem rise_srt {A : List Int} (h : A.Nodup) : Rise (srt A) := by
  have h1 := srt_le A
  have h2 : (srt A).Nodup := (srt_perm A).nodup_iff.2 h
  rw [List.Nodup] at h2
  exact (h1.and h2).imp fun ⟨a, b⟩ => by omega
theorem Gth.sorted {A : List Int} {o : Bool} {b q : Nat} {l : List Int} {n c : Nat} (h : Gth A (o, b, q, l, n, c)) : Gth (srt A) (o, b, q, srt (l.take n) ++ l.drop n, n, c) := by
  obtain ⟨e1, e2, e3, e4, e5⟩ := h
  have e1 : l.take n = A := e1
  have e2 : A.length = n := e2
  have e4 : c ≤ l.length := e4
  have e3 : n ≤ c := e3
  refine ⟨?_, by rw [srt_len]; exact e2, e3, ?_, e5⟩
  · show (srt (l.take n) ++ l.drop n).take n = srt A
    rw [e1, List.take_append_of_le_length (by rw [srt_len]; omega), List.take_of_length_le (by rw [srt_len]; omega)]
  · show c ≤ (srt (l.take n) ++ l.drop n).length
    rw [List.length_append, srt_len, e1, List.length_drop]; omega
def SdB (S : List Int) (y : Sq Int) : Prop := ∃ A, Rise A ∧ (∀ k, k ∈ A ↔ k ∈ S) ∧ Gth A y
theorem SdB.of {M : MpB} {clk : Nat} {S : List Int} (h : MKeys (d := C0 4) M clk S) {o : Bool} {b q : Nat} {l : List Int} {n c : Nat} (hy : KsB M (o, b, q, l, n, c)) : SdB S (o, b, q, srt (l.take n) ++ l.drop n, n, c) := by
  obtain ⟨A, hp, hG⟩ := hy
  refine ⟨srt A, rise_srt (hp.nodup_iff.2 h.nd), fun k => ?_, hG.sorted⟩
  rw [(srt_perm A).mem_iff, hp.mem_iff]
  exact h.mem k
set_option maxHeartbeats 4000000 in
theorem sortedB_ok (bx qx bm : Nat) (M : MpB) (clk : Nat) (h : MKeys (d := C0 4) M clk (M.map fun e => e.1)) (hl : M.length < 1000000000) :
    Does (C := C0) Tryd.prog (.fn 35) (mpB bx qx bm M clk) [.fn (.func 58) [] [.ptr 0 0 0]]
      [⟨Sq Int, fun y => SdB (M.map fun e => e.1) y, fun y => .sl 2 0 y.2.2.2.2.1 y.2.2.2.2.2, fun y => moB bx qx bm M clk y⟩] := by
  refine loc_fn (P := Tryd.prog) (E := ⟨[fcCollB, fcSort], [], 9, [], [], []⟩) (L := []) mix Tryd.func35 rfl (by kernel_rfl) (by kernel_rfl) rfl rfl ?_
  ((conv => (arg 1; reduce)); with_reducible repeat' (first | exact Tr.yes_h | refine Tr.and_h ?_ ?_ | refine Tr.imp_h fun _ => ?_ | refine Tr.all_h fun _ => ?_ | refine Tr.lf_h ?_))
  all_goals try (first | first | (show Region.lexB _ _ = true; kernel_rfl) | (show planned _ _ = true; kernel_rfl) | exact rfl | exact True.intro | (first | exact key3 | exact zeroB | exact zeroR | exact zeroS | exact ⟨key3, zeroB⟩ | exact ⟨key3, zeroR⟩ | exact ⟨key3, zeroS⟩) | ((try dsimp only [imp, C0, cG, cInt, cPl, cSlot, cPg, gwCodec] at *); (try refine inR64 ?_ ?_) <;> (try simp only [List.length_set, List.length_append, List.length_take, List.length_drop]) <;> omega))
  · exact ⟨h.born, hl⟩
  · rename_i y hy
    obtain ⟨o, b, q, l, n, c⟩ := y
    obtain ⟨A, hp, e1, e2, e3, e4, e5⟩ := hy
    have e2 : A.length = n := e2
    have e3 : n ≤ c := e3
    have e4 : c ≤ l.length := e4
    have hA : A.length = M.length := by rw [hp.length_eq, List.length_map]
    exact ⟨by show n ≤ l.length; omega, by show n < 4611686018427387904; omega, e5⟩
  · rename_i y hy u hu
    obtain ⟨o, b, q, l, n, c⟩ := y
    refine Ends.one ((o, b, q, srt (l.take n) ++ l.drop n, n, c) : Sq Int) (SdB.of h hy) ?_
    ((conv => (arg 1; reduce)); with_reducible repeat' (first | exact Tr.yes_h | refine Tr.and_h ?_ ?_ | refine Tr.imp_h fun _ => ?_ | refine Tr.all_h fun _ => ?_ | refine Tr.lf_h ?_))
    all_goals (first | first | (show Region.lexB _ _ = true; kernel_rfl) | (show planned _ _ = true; kernel_rfl) | exact rfl | exact True.intro | (first | exact key3 | exact zeroB | exact zeroR | exact zeroS | exact ⟨key3, zeroB⟩ | exact ⟨key3, zeroR⟩ | exact ⟨key3, zeroS⟩) | ((try dsimp only [imp, C0, cG, cInt, cPl, cSlot, cPg, gwCodec] at *); (try refine inR64 ?_ ?_) <;> (try simp only [List.length_set, List.length_append, List.length_take, List.length_drop]) <;> omega))
noncomputable def fcSortedB : Fc Tryd.prog C0 where
  tg := .fn 35
  X := Nat × Nat × Nat × MpB × Nat
  args := fun (bx, qx, bm, M, clk) => [.fn (.func 58) [] [.ptr 0 0 0]]
  mem := fun (bx, qx, bm, M, clk) => mpB bx qx bm M clk
  pre := fun (bx, qx, bm, M, clk) => MKeys (d := C0 4) M clk (M.map fun e => e.1) ∧ M.length < 1000000000
  alts := fun (bx, qx, bm, M, clk) => [⟨Sq Int, fun y => SdB (M.map fun e => e.1) y, fun y => .sl 2 0 y.2.2.2.2.1 y.2.2.2.2.2, fun y => moB bx qx bm M clk y⟩]
  mat vs m := match vs with
    | [.fn (.func 58) _ [.ptr p _ _]] => match nth m p with
      | ⟨bx, qx, _, _, _, .one [.mp w]⟩ => match nth m w with
        | ⟨bm, _, _, _, _, .mp 3 4 M clk⟩ => some ((bx, qx, bm, M, clk), [p, w])
        | _ => none
      | _ => none
    | _ => none
  ok := fun (bx, qx, bm, M, clk) h => sortedB_ok bx qx bm M clk h.1 h.2
theorem keysB_ok (bm : Nat) (M : MpB) (clk : Nat) : Does (C := C0) Tryd.prog (.fn 40) [⟨bm, 0, 0, false, none, .mp 3 4 M clk⟩] [.mp 0]
      [⟨Nat × Nat, fun _ => True, fun _ => .fn (.func 58) [] [.ptr 1 0 0], fun y => [⟨bm, 0, 0, false, none, .mp 3 4 M clk⟩, ⟨y.1, y.2, 1, true, none, .one [.mp 0]⟩]⟩] := by
  refine loc_fn (P := Tryd.prog) (E := ⟨[], [], 4, [], [], []⟩) (L := []) mix Tryd.func40 rfl (by kernel_rfl) (by kernel_rfl) rfl rfl ?_
  ((conv => (arg 1; reduce)); with_reducible repeat' (first | exact Tr.yes_h | refine Tr.and_h ?_ ?_ | refine Tr.imp_h fun _ => ?_ | refine Tr.all_h fun _ => ?_ | refine Tr.lf_h ?_))
  all_goals try (first | first | (show Region.lexB _ _ = true; kernel_rfl) | (show planned _ _ = true; kernel_rfl) | exact rfl | exact True.intro | (first | exact key3 | exact zeroB | exact zeroR | exact zeroS | exact ⟨key3, zeroB⟩ | exact ⟨key3, zeroR⟩ | exact ⟨key3, zeroS⟩) | ((try dsimp only [imp, C0, cG, cInt, cPl, cSlot, cPg, gwCodec] at *); (try refine inR64 ?_ ?_) <;> (try simp only [List.length_set, List.length_append, List.length_take, List.length_drop]) <;> omega))
  rename_i b1
  refine Ends.one ((b1, 0) : Nat × Nat) trivial ?_
  ((conv => (arg 1; reduce)); with_reducible repeat' (first | exact Tr.yes_h | refine Tr.and_h ?_ ?_ | refine Tr.imp_h fun _ => ?_ | refine Tr.all_h fun _ => ?_ | refine Tr.lf_h ?_))
  all_goals (first | first | (show Region.lexB _ _ = true; kernel_rfl) | (show planned _ _ = true; kernel_rfl) | exact rfl | exact True.intro | (first | exact key3 | exact zeroB | exact zeroR | exact zeroS | exact ⟨key3, zeroB⟩ | exact ⟨key3, zeroR⟩ | exact ⟨key3, zeroS⟩) | ((try dsimp only [imp, C0, cG, cInt, cPl, cSlot, cPg, gwCodec] at *); (try refine inR64 ?_ ?_) <;> (try simp only [List.length_set, List.length_append, List.length_take, List.length_drop]) <;> omega))
noncomputable def fcKeysB : Fc Tryd.prog C0 where
  tg := .fn 40
  X := Nat × MpB × Nat
  args := fun (bm, M, clk) => [.mp 0]
  mem := fun (bm, M, clk) => [⟨bm, 0, 0, false, none, .mp 3 4 M clk⟩]
  pre _ := True
  alts := fun (bm, M, clk) => [⟨Nat × Nat, fun _ => True, fun _ => .fn (.func 58) [] [.ptr 1 0 0], fun y => [⟨bm, 0, 0, false, none, .mp 3 4 M clk⟩, ⟨y.1, y.2, 1, true, none, .one [.mp 0]⟩]⟩]
  mat vs m := match vs with
    | [.mp w] => match nth m w with
      | ⟨bm, _, _, _, _, .mp 3 4 M clk⟩ => some ((bm, M, clk), [w])
      | _ => none
    | _ => none
  ok := fun (bm, M, clk) _ => keysB_ok bm M clk
def SdG (S : List Int) (y : Sq Int) : Prop := ∃ A, Rise A ∧ (∀ k, k ∈ A ↔ k ∈ S) ∧ Gth A y
theorem SdG.of {M : MpG} {clk : Nat} {S : List Int} (h : MKeys (d := C0 33) M clk S) {o : Bool} {b q : Nat} {l : List Int} {n c : Nat} (hy : KsG M (o, b, q, l, n, c)) : SdG S (o, b, q, srt (l.take n) ++ l.drop n, n, c) := by
  obtain ⟨A, hp, hG⟩ := hy
  refine ⟨srt A, rise_srt (hp.nodup_iff.2 h.nd), fun k => ?_, hG.sorted⟩
  rw [(srt_perm A).mem_iff, hp.mem_iff]
  exact h.mem k
set_option maxHeartbeats 4000000 in
theorem sortedG_ok (bx qx bm : Nat) (M : MpG) (clk : Nat) (h : MKeys (d := C0 33) M clk (M.map fun e => e.1)) (hl : M.length < 1000000000) :
    Does (C := C0) Tryd.prog (.fn 35) (mpG bx qx bm M clk) [.fn (.func 59) [] [.ptr 0 0 0]]
      [⟨Sq Int, fun y => SdG (M.map fun e => e.1) y, fun y => .sl 2 0 y.2.2.2.2.1 y.2.2.2.2.2, fun y => moG bx qx bm M clk y⟩] := by
  refine loc_fn (P := Tryd.prog) (E := ⟨[fcCollG, fcSort], [], 9, [], [], []⟩) (L := []) mix Tryd.func35 rfl (by kernel_rfl) (by kernel_rfl) rfl rfl ?_
  ((conv => (arg 1; reduce)); with_reducible repeat' (first | exact Tr.yes_h | refine Tr.and_h ?_ ?_ | refine Tr.imp_h fun _ => ?_ | refine Tr.all_h fun _ => ?_ | refine Tr.lf_h ?_))
  all_goals try (first | first | (show Region.lexB _ _ = true; kernel_rfl) | (show planned _ _ = true; kernel_rfl) | exact rfl | exact True.intro | (first | exact key3 | exact zeroB | exact zeroR | exact zeroS | exact ⟨key3, zeroB⟩ | exact ⟨key3, zeroR⟩ | exact ⟨key3, zeroS⟩) | ((try dsimp only [imp, C0, cG, cInt, cPl, cSlot, cPg, gwCodec] at *); (try refine inR64 ?_ ?_) <;> (try simp only [List.length_set, List.length_append, List.length_take, List.length_drop]) <;> omega))
  · exact ⟨h.born, hl⟩
  · rename_i y hy
    obtain ⟨o, b, q, l, n, c⟩ := y
    obtain ⟨A, hp, e1, e2, e3, e4, e5⟩ := hy
    have e2 : A.length = n := e2
    have e3 : n ≤ c := e3
    have e4 : c ≤ l.length := e4
    have hA : A.length = M.length := by rw [hp.length_eq, List.length_map]
    exact ⟨by show n ≤ l.length; omega, by show n < 4611686018427387904; omega, e5⟩
  · rename_i y hy u hu
    obtain ⟨o, b, q, l, n, c⟩ := y
    refine Ends.one ((o, b, q, srt (l.take n) ++ l.drop n, n, c) : Sq Int) (SdG.of h hy) ?_
    ((conv => (arg 1; reduce)); with_reducible repeat' (first | exact Tr.yes_h | refine Tr.and_h ?_ ?_ | refine Tr.imp_h fun _ => ?_ | refine Tr.all_h fun _ => ?_ | refine Tr.lf_h ?_))
    all_goals (first | first | (show Region.lexB _ _ = true; kernel_rfl) | (show planned _ _ = true; kernel_rfl) | exact rfl | exact True.intro | (first | exact key3 | exact zeroB | exact zeroR | exact zeroS | exact ⟨key3, zeroB⟩ | exact ⟨key3, zeroR⟩ | exact ⟨key3, zeroS⟩) | ((try dsimp only [imp, C0, cG, cInt, cPl, cSlot, cPg, gwCodec] at *); (try refine inR64 ?_ ?_) <;> (try simp only [List.length_set, List.length_append, List.length_take, List.length_drop]) <;> omega))
noncomputable def fcSortedG : Fc Tryd.prog C0 where
  tg := .fn 35
  X := Nat × Nat × Nat × MpG × Nat
  args := fun (bx, qx, bm, M, clk) => [.fn (.func 59) [] [.ptr 0 0 0]]
  mem := fun (bx, qx, bm, M, clk) => mpG bx qx bm M clk
  pre := fun (bx, qx, bm, M, clk) => MKeys (d := C0 33) M clk (M.map fun e => e.1) ∧ M.length < 1000000000
  alts := fun (bx, qx, bm, M, clk) => [⟨Sq Int, fun y => SdG (M.map fun e => e.1) y, fun y => .sl 2 0 y.2.2.2.2.1 y.2.2.2.2.2, fun y => moG bx qx bm M clk y⟩]
  mat vs m := match vs with
    | [.fn (.func 59) _ [.ptr p _ _]] => match nth m p with
      | ⟨bx, qx, _, _, _, .one [.mp w]⟩ => match nth m w with
        | ⟨bm, _, _, _, _, .mp 3 33 M clk⟩ => some ((bx, qx, bm, M, clk), [p, w])
        | _ => none
      | _ => none
    | _ => none
  ok := fun (bx, qx, bm, M, clk) h => sortedG_ok bx qx bm M clk h.1 h.2
theorem keysG_ok (bm : Nat) (M : MpG) (clk : Nat) : Does (C := C0) Tryd.prog (.fn 44) [⟨bm, 0, 0, false, none, .mp 3 33 M clk⟩] [.mp 0]
      [⟨Nat × Nat, fun _ => True, fun _ => .fn (.func 59) [] [.ptr 1 0 0], fun y => [⟨bm, 0, 0, false, none, .mp 3 33 M clk⟩, ⟨y.1, y.2, 1, true, none, .one [.mp 0]⟩]⟩] := by
  refine loc_fn (P := Tryd.prog) (E := ⟨[], [], 4, [], [], []⟩) (L := []) mix Tryd.func44 rfl (by kernel_rfl) (by kernel_rfl) rfl rfl ?_
  ((conv => (arg 1; reduce)); with_reducible repeat' (first | exact Tr.yes_h | refine Tr.and_h ?_ ?_ | refine Tr.imp_h fun _ => ?_ | refine Tr.all_h fun _ => ?_ | refine Tr.lf_h ?_))
  all_goals try (first | first | (show Region.lexB _ _ = true; kernel_rfl) | (show planned _ _ = true; kernel_rfl) | exact rfl | exact True.intro | (first | exact key3 | exact zeroB | exact zeroR | exact zeroS | exact ⟨key3, zeroB⟩ | exact ⟨key3, zeroR⟩ | exact ⟨key3, zeroS⟩) | ((try dsimp only [imp, C0, cG, cInt, cPl, cSlot, cPg, gwCodec] at *); (try refine inR64 ?_ ?_) <;> (try simp only [List.length_set, List.length_append, List.length_take, List.length_drop]) <;> omega))
  rename_i b1
  refine Ends.one ((b1, 0) : Nat × Nat) trivial ?_
  ((conv => (arg 1; reduce)); with_reducible repeat' (first | exact Tr.yes_h | refine Tr.and_h ?_ ?_ | refine Tr.imp_h fun _ => ?_ | refine Tr.all_h fun _ => ?_ | refine Tr.lf_h ?_))
  all_goals (first | first | (show Region.lexB _ _ = true; kernel_rfl) | (show planned _ _ = true; kernel_rfl) | exact rfl | exact True.intro | (first | exact key3 | exact zeroB | exact zeroR | exact zeroS | exact ⟨key3, zeroB⟩ | exact ⟨key3, zeroR⟩ | exact ⟨key3, zeroS⟩) | ((try dsimp only [imp, C0, cG, cInt, cPl, cSlot, cPg, gwCodec] at *); (try refine inR64 ?_ ?_) <;> (try simp only [List.length_set, List.length_append, List.length_take, List.length_drop]) <;> omega))
noncomputable def fcKeysG : Fc Tryd.prog C0 where
  tg := .fn 44
  X := Nat × MpG × Nat
  args := fun (bm, M, clk) => [.mp 0]
  mem := fun (bm, M, clk) => [⟨bm, 0, 0, false, none, .mp 3 33 M clk⟩]
  pre _ := True
  alts := fun (bm, M, clk) => [⟨Nat × Nat, fun _ => True, fun _ => .fn (.func 59) [] [.ptr 1 0 0], fun y => [⟨bm, 0, 0, false, none, .mp 3 33 M clk⟩, ⟨y.1, y.2, 1, true, none, .one [.mp 0]⟩]⟩]
  mat vs m := match vs with
    | [.mp w] => match nth m w with
      | ⟨bm, _, _, _, _, .mp 3 33 M clk⟩ => some ((bm, M, clk), [w])
      | _ => none
    | _ => none
  ok := fun (bm, M, clk) _ => keysG_ok bm M clk
def SdS (S : List Int) (y : Sq Int) : Prop := ∃ A, Rise A ∧ (∀ k, k ∈ A ↔ k ∈ S) ∧ Gth A y
theorem SdS.of {M : MpS} {clk : Nat} {S : List Int} (h : MKeys (d := C0 40) M clk S) {o : Bool} {b q : Nat} {l : List Int} {n c : Nat} (hy : KsS M (o, b, q, l, n, c)) : SdS S (o, b, q, srt (l.take n) ++ l.drop n, n, c) := by
  obtain ⟨A, hp, hG⟩ := hy
  refine ⟨srt A, rise_srt (hp.nodup_iff.2 h.nd), fun k => ?_, hG.sorted⟩
  rw [(srt_perm A).mem_iff, hp.mem_iff]
  exact h.mem k
set_option maxHeartbeats 4000000 in
theorem sortedS_ok (bx qx bm : Nat) (M : MpS) (clk : Nat) (h : MKeys (d := C0 40) M clk (M.map fun e => e.1)) (hl : M.length < 1000000000) :
    Does (C := C0) Tryd.prog (.fn 35) (mpS bx qx bm M clk) [.fn (.func 57) [] [.ptr 0 0 0]]
      [⟨Sq Int, fun y => SdS (M.map fun e => e.1) y, fun y => .sl 2 0 y.2.2.2.2.1 y.2.2.2.2.2, fun y => moS bx qx bm M clk y⟩] := by
  refine loc_fn (P := Tryd.prog) (E := ⟨[fcCollS, fcSort], [], 9, [], [], []⟩) (L := []) mix Tryd.func35 rfl (by kernel_rfl) (by kernel_rfl) rfl rfl ?_
  ((conv => (arg 1; reduce)); with_reducible repeat' (first | exact Tr.yes_h | refine Tr.and_h ?_ ?_ | refine Tr.imp_h fun _ => ?_ | refine Tr.all_h fun _ => ?_ | refine Tr.lf_h ?_))
  all_goals try (first | first | (show Region.lexB _ _ = true; kernel_rfl) | (show planned _ _ = true; kernel_rfl) | exact rfl | exact True.intro | (first | exact key3 | exact zeroB | exact zeroR | exact zeroS | exact ⟨key3, zeroB⟩ | exact ⟨key3, zeroR⟩ | exact ⟨key3, zeroS⟩) | ((try dsimp only [imp, C0, cG, cInt, cPl, cSlot, cPg, gwCodec] at *); (try refine inR64 ?_ ?_) <;> (try simp only [List.length_set, List.length_append, List.length_take, List.length_drop]) <;> omega))
  · exact ⟨h.born, hl⟩
  · rename_i y hy
    obtain ⟨o, b, q, l, n, c⟩ := y
    obtain ⟨A, hp, e1, e2, e3, e4, e5⟩ := hy
    have e2 : A.length = n := e2
    have e3 : n ≤ c := e3
    have e4 : c ≤ l.length := e4
    have hA : A.length = M.length := by rw [hp.length_eq, List.length_map]
    exact ⟨by show n ≤ l.length; omega, by show n < 4611686018427387904; omega, e5⟩
  · rename_i y hy u hu
    obtain ⟨o, b, q, l, n, c⟩ := y
    refine Ends.one ((o, b, q, srt (l.take n) ++ l.drop n, n, c) : Sq Int) (SdS.of h hy) ?_
    ((conv => (arg 1; reduce)); with_reducible repeat' (first | exact Tr.yes_h | refine Tr.and_h ?_ ?_ | refine Tr.imp_h fun _ => ?_ | refine Tr.all_h fun _ => ?_ | refine Tr.lf_h ?_))
    all_goals (first | first | (show Region.lexB _ _ = true; kernel_rfl) | (show planned _ _ = true; kernel_rfl) | exact rfl | exact True.intro | (first | exact key3 | exact zeroB | exact zeroR | exact zeroS | exact ⟨key3, zeroB⟩ | exact ⟨key3, zeroR⟩ | exact ⟨key3, zeroS⟩) | ((try dsimp only [imp, C0, cG, cInt, cPl, cSlot, cPg, gwCodec] at *); (try refine inR64 ?_ ?_) <;> (try simp only [List.length_set, List.length_append, List.length_take, List.length_drop]) <;> omega))
noncomputable def fcSortedS : Fc Tryd.prog C0 where
  tg := .fn 35
  X := Nat × Nat × Nat × MpS × Nat
  args := fun (bx, qx, bm, M, clk) => [.fn (.func 57) [] [.ptr 0 0 0]]
  mem := fun (bx, qx, bm, M, clk) => mpS bx qx bm M clk
  pre := fun (bx, qx, bm, M, clk) => MKeys (d := C0 40) M clk (M.map fun e => e.1) ∧ M.length < 1000000000
  alts := fun (bx, qx, bm, M, clk) => [⟨Sq Int, fun y => SdS (M.map fun e => e.1) y, fun y => .sl 2 0 y.2.2.2.2.1 y.2.2.2.2.2, fun y => moS bx qx bm M clk y⟩]
  mat vs m := match vs with
    | [.fn (.func 57) _ [.ptr p _ _]] => match nth m p with
      | ⟨bx, qx, _, _, _, .one [.mp w]⟩ => match nth m w with
        | ⟨bm, _, _, _, _, .mp 3 40 M clk⟩ => some ((bx, qx, bm, M, clk), [p, w])
        | _ => none
      | _ => none
    | _ => none
  ok := fun (bx, qx, bm, M, clk) h => sortedS_ok bx qx bm M clk h.1 h.2
theorem keysS_ok (bm : Nat) (M : MpS) (clk : Nat) : Does (C := C0) Tryd.prog (.fn 36) [⟨bm, 0, 0, false, none, .mp 3 40 M clk⟩] [.mp 0]
      [⟨Nat × Nat, fun _ => True, fun _ => .fn (.func 57) [] [.ptr 1 0 0], fun y => [⟨bm, 0, 0, false, none, .mp 3 40 M clk⟩, ⟨y.1, y.2, 1, true, none, .one [.mp 0]⟩]⟩] := by
  refine loc_fn (P := Tryd.prog) (E := ⟨[], [], 4, [], [], []⟩) (L := []) mix Tryd.func36 rfl (by kernel_rfl) (by kernel_rfl) rfl rfl ?_
  ((conv => (arg 1; reduce)); with_reducible repeat' (first | exact Tr.yes_h | refine Tr.and_h ?_ ?_ | refine Tr.imp_h fun _ => ?_ | refine Tr.all_h fun _ => ?_ | refine Tr.lf_h ?_))
  all_goals try (first | first | (show Region.lexB _ _ = true; kernel_rfl) | (show planned _ _ = true; kernel_rfl) | exact rfl | exact True.intro | (first | exact key3 | exact zeroB | exact zeroR | exact zeroS | exact ⟨key3, zeroB⟩ | exact ⟨key3, zeroR⟩ | exact ⟨key3, zeroS⟩) | ((try dsimp only [imp, C0, cG, cInt, cPl, cSlot, cPg, gwCodec] at *); (try refine inR64 ?_ ?_) <;> (try simp only [List.length_set, List.length_append, List.length_take, List.length_drop]) <;> omega))
  rename_i b1
  refine Ends.one ((b1, 0) : Nat × Nat) trivial ?_
  ((conv => (arg 1; reduce)); with_reducible repeat' (first | exact Tr.yes_h | refine Tr.and_h ?_ ?_ | refine Tr.imp_h fun _ => ?_ | refine Tr.all_h fun _ => ?_ | refine Tr.lf_h ?_))
  all_goals (first | first | (show Region.lexB _ _ = true; kernel_rfl) | (show planned _ _ = true; kernel_rfl) | exact rfl | exact True.intro | (first | exact key3 | exact zeroB | exact zeroR | exact zeroS | exact ⟨key3, zeroB⟩ | exact ⟨key3, zeroR⟩ | exact ⟨key3, zeroS⟩) | ((try dsimp only [imp, C0, cG, cInt, cPl, cSlot, cPg, gwCodec] at *); (try refine inR64 ?_ ?_) <;> (try simp only [List.length_set, List.length_append, List.length_take, List.length_drop]) <;> omega))
noncomputable def fcKeysS : Fc Tryd.prog C0 where
  tg := .fn 36
  X := Nat × MpS × Nat
  args := fun (bm, M, clk) => [.mp 0]
  mem := fun (bm, M, clk) => [⟨bm, 0, 0, false, none, .mp 3 40 M clk⟩]
  pre _ := True
  alts := fun (bm, M, clk) => [⟨Nat × Nat, fun _ => True, fun _ => .fn (.func 57) [] [.ptr 1 0 0], fun y => [⟨bm, 0, 0, false, none, .mp 3 40 M clk⟩, ⟨y.1, y.2, 1, true, none, .one [.mp 0]⟩]⟩]
  mat vs m := match vs with
    | [.mp w] => match nth m w with
      | ⟨bm, _, _, _, _, .mp 3 40 M clk⟩ => some ((bm, M, clk), [w])
      | _ => none
    | _ => none
  ok := fun (bm, M, clk) _ => keysS_ok bm M clk
end Go.Vx
namespace Go.Vx
open Go Go.Sort
variable {C : Nat → Codec}
theorem heap_grown {a b : Array Obj} (hs : a.size ≤ b.size) (hk : ∀ k, k < a.size → b[k]? = a[k]?) : b = a ++ b.extract a.size b.size := by
  apply Array.ext'
  have h1 : b.toList.take a.size = a.toList := by
    apply List.ext_getElem?
    intro k
    rw [List.getElem?_take]
    by_cases h : k < a.size
    · rw [if_pos h, Array.getElem?_toList, Array.getElem?_toList, hk k h]
    · rw [if_neg h, Array.getElem?_toList, Array.getElem?_eq_none (by omega)]
  rw [Array.toList_append, Array.toList_extract]
  rw [List.extract_eq_take_drop, List.take_of_length_le (by rw [List.length_drop, Array.length_toList]; omega)]
  conv => lhs; rw [← List.take_append_drop a.size b.toList, h1]
theorem Tells.grows {P : Program} {f : FuncId} {fn : Func} {c : Code} (hf : P.funcs[f]? = some fn) (hb : fn.body = some c) (hname : (fn.name == "runtime.NumGoroutine") = false) {mem : List (Ck C)} {args : List SV} {res : SV}
    (h : Tells P (.fn f) mem args res) (hnw : noWr mem = true) {w : World} (hm : MemOK (wrS mem) w w mem) :
    Calls P f (SV.vas (ads mem) args).toArray w fun e w' => e = .returned (res.va (ads mem)) ∧ ∃ q os, w' = grow (w.drewN q) os := by
  obtain ⟨f', vals, hr, hc⟩ := h w hm
  rw [show tgSem (.fn f) (SV.vas (ads mem) args).toArray = callFunc f (SV.vas (ads mem) args).toArray from rfl, run_callFunc hf hb hname] at hr
  simp only [Result.ok.injEq, Next.enter.injEq, and_true] at hr
  obtain ⟨rfl, rfl⟩ := hr
  refine hc.mono ?_
  rintro e w' ⟨r, m', rfl, hm', _, rfl, rfl⟩
  refine ⟨rfl, w'.drawn - w.drawn, w'.heap.extract w.heap.size w'.heap.size, ?_⟩
  have hk : ∀ k, k < w.heap.size → w'.heap[k]? = w.heap[k]? := fun k hk => hm'.keep k hk fun ⟨c, hc, hw, _⟩ => by
    rw [noWr_ok hnw c hc] at hw; cases hw
  have h1 := heap_grown hm'.size hk
  have h2 := hm'.os
  have h3 := hm'.tape
  have h4 := hm'.output
  obtain ⟨hp, tp, dr, os, out⟩ := w
  obtain ⟨hp', tp', dr', os', out'⟩ := w'
  simp only at h1 h2 h3 h4
  obtain ⟨h3, h5⟩ := h3
  subst h2 h3 h4
  unfold grow World.drewN
  simp only [World.mk.injEq, true_and, and_true]
  exact ⟨h1, by show dr' = dr + (dr' - dr); omega⟩
end Go.Vx
namespace Go.Vx
open Go Go.Proofs Go.Shelf
variable {C : Nat → Codec}
def encC (c : Codec) (x : c.α) : List Value := (c.enc x).map (SV.va noAd)
theorem encC_len (c : Codec) (x : c.α) : (encC c x).length = c.sz := by simp [encC, c.len]
theorem pm_get {α : Type} {p : α → Prop} [Inhabited (Subtype p)] {l : List α} (h : ∀ x ∈ l, p x) {i : Nat} (hi : i < l.length) (d : α) : ((l.pmap (fun x hx => (⟨x, hx⟩ : Subtype p)) h).toArray[i]!).1 = l.getD i d := by
  rw [getElem!_pos _ i (by simpa using hi)]
  simp [List.getD, hi]
theorem perm_val {α : Type} {p : α → Prop} : ∀ {a b : List (Subtype p)}, a.Perm b → (a.map (·.1)).Perm (b.map (·.1)) := fun h => h.map _
theorem pm_val {α : Type} {p : α → Prop} {l : List α} (h : ∀ x ∈ l, p x) : (l.pmap (fun x hx => (⟨x, hx⟩ : Subtype p)) h).map (·.1) = l := by
  rw [List.map_pmap]; simp
end Go.Vx
set_option maxRecDepth 100000
namespace Go.Proofs
open Go.Shelf
def Tryd.sortFI_ren : Go.Shelf.Ren := ⟨fun | 6 => 49 | 14 => 63 | 15 => 64 | 20 => 68 | 21 => 69 | 22 => 70 | 23 => 71 | 24 => 72 | 25 => 73 | 26 => 74 | 27 => 75 | 28 => 76 | 29 => 77 | 46 => 95 | 47 => 96 | 48 => 97 | 49 => 98 | 50 => 99 | 57 => 106 | n => n, fun | 0 => 0 | 3 => 3 | 4 => 4 | 5 => 5 | 9 => 9 | 22 => 25 | 25 => 70 | 39 => 101 | 45 => 106 | 46 => 107 | 50 => 84 | 53 => 113 | 55 => 115 | 66 => 127 | 70 => 131 | 76 => 137 | 77 => 138 | 24 => 3 | n => n, fun | n => n⟩
theorem Tryd.sortFI : Go.Proofs.SlLaysF.n6 Tryd.prog Tryd.sortFI_ren := {
  mixed := by kernel_rfl
  f6 := ⟨Tryd.f49.name, by decide, Tryd.func49.trans (congrArg some (by kernel_rfl))⟩
  f14 := ⟨Tryd.f63.name, by decide, Tryd.func63.trans (congrArg some (by kernel_rfl))⟩
  f15 := Tryd.func64.trans (congrArg some (by kernel_rfl))
  f20 := ⟨Tryd.f68.name, by decide, Tryd.func68.trans (congrArg some (by kernel_rfl))⟩
  f21 := ⟨Tryd.f69.name, by decide, Tryd.func69.trans (congrArg some (by kernel_rfl))⟩
  f22 := ⟨Tryd.f70.name, by decide, Tryd.func70.trans (congrArg some (by kernel_rfl))⟩
  f23 := ⟨Tryd.f71.name, by decide, Tryd.func71.trans (congrArg some (by kernel_rfl))⟩
  f24 := ⟨Tryd.f72.name, by decide, Tryd.func72.trans (congrArg some (by kernel_rfl))⟩
  f25 := ⟨Tryd.f73.name, by decide, Tryd.func73.trans (congrArg some (by kernel_rfl))⟩
  f26 := ⟨Tryd.f74.name, by decide, Tryd.func74.trans (congrArg some (by kernel_rfl))⟩
  f27 := ⟨Tryd.f75.name, by decide, Tryd.func75.trans (congrArg some (by kernel_rfl))⟩
  f28 := Tryd.func76.trans (congrArg some (by kernel_rfl))
  f29 := Tryd.func77.trans (congrArg some (by kernel_rfl))
  f46 := ⟨Tryd.f95.name, by decide, Tryd.func95.trans (congrArg some (by kernel_rfl))⟩
  f47 := Tryd.func96.trans (congrArg some (by kernel_rfl))
  f48 := Tryd.func97.trans (congrArg some (by kernel_rfl))
  f49 := ⟨Tryd.f98.name, by decide, Tryd.func98.trans (congrArg some (by kernel_rfl))⟩
  f50 := ⟨Tryd.f99.name, by decide, Tryd.func99.trans (congrArg some (by kernel_rfl))⟩
  f57 := ⟨Tryd.f106.name, by decide, Tryd.func106.trans (congrArg some (by kernel_rfl))⟩
  t0 := Tryd.underlying0
  a0 := Tryd.isAgg0
  z0 := Tryd.sizeOf0
  v0 := Tryd.zeroValue0
  t3 := Tryd.underlying3
  a3 := Tryd.isAgg3
  z3 := Tryd.sizeOf3
  v3 := Tryd.zeroValue3
  t4 := Tryd.underlying4
  a4 := Tryd.isAgg4
  z4 := Tryd.sizeOf4
  v4 := Tryd.zeroValue4
  t5 := Tryd.underlying5
  a5 := Tryd.isAgg5
  z5 := Tryd.sizeOf5
  v5 := Tryd.zeroValue5
  t9 := Tryd.underlying9
  a9 := Tryd.isAgg9
  z9 := Tryd.sizeOf9
  v9 := Tryd.zeroValue9
  t22 := Tryd.underlying25
  a22 := Tryd.isAgg25
  z22 := Tryd.sizeOf25
  v22 := Tryd.zeroValue25
  t25 := Tryd.underlying70
  a25 := Tryd.isAgg70
  z25 := Tryd.sizeOf70
  v25 := Tryd.zeroValue70
  t39 := Tryd.underlying101
  a39 := Tryd.isAgg101
  z39 := Tryd.sizeOf101
  v39 := Tryd.zeroValue101
  t45 := Tryd.underlying106
  a45 := Tryd.isAgg106
  z45 := Tryd.sizeOf106
  v45 := Tryd.zeroValue106
  t46 := Tryd.underlying107
  a46 := Tryd.isAgg107
  z46 := Tryd.sizeOf107
  v46 := Tryd.zeroValue107
  t50 := Tryd.underlying84
  a50 := Tryd.isAgg84
  z50 := Tryd.sizeOf84
  v50 := Tryd.zeroValue84
  t53 := Tryd.underlying113
  a53 := Tryd.isAgg113
  z53 := Tryd.sizeOf113
  v53 := Tryd.zeroValue113
  t55 := Tryd.underlying115
  a55 := Tryd.isAgg115
  z55 := Tryd.sizeOf115
  v55 := Tryd.zeroValue115
  t66 := Tryd.underlying127
  a66 := Tryd.isAgg127
  z66 := Tryd.sizeOf127
  v66 := Tryd.zeroValue127
  t70 := Tryd.underlying131
  a70 := Tryd.isAgg131
  z70 := Tryd.sizeOf131
  v70 := Tryd.zeroValue131
  t76 := Tryd.underlying137
  a76 := Tryd.isAgg137
  z76 := Tryd.sizeOf137
  v76 := Tryd.zeroValue137
  t77 := Tryd.underlying138
  a77 := Tryd.isAgg138
  z77 := Tryd.sizeOf138
  v77 := Tryd.zeroValue138
  a24 := Tryd.isAgg3
  z24 := Tryd.sizeOf3
}
def Tryd.sortFI0_ren : Go.Shelf.Ren := ⟨fun | 6 => 49 | 14 => 63 | 15 => 64 | 20 => 68 | 21 => 69 | 22 => 70 | 23 => 71 | 24 => 72 | 25 => 73 | 26 => 74 | 27 => 75 | 28 => 76 | 29 => 77 | 46 => 95 | 47 => 96 | 48 => 97 | 49 => 98 | 50 => 99 | 57 => 106 | n => n, fun | 0 => 0 | 3 => 3 | 4 => 4 | 5 => 5 | 9 => 9 | 22 => 25 | 25 => 70 | 39 => 101 | 45 => 106 | 46 => 107 | 50 => 84 | 53 => 113 | 55 => 115 | 66 => 127 | 70 => 131 | 76 => 137 | 77 => 138 | 24 => 3 | n => n, fun | n => n⟩
theorem Tryd.sortFI0 : Go.Proofs.SlLaysF0.n6 Tryd.prog Tryd.sortFI0_ren := {
  mixed := by kernel_rfl
  f6 := ⟨Tryd.f49.name, by decide, Tryd.func49.trans (congrArg some (by kernel_rfl))⟩
  f14 := ⟨Tryd.f63.name, by decide, Tryd.func63.trans (congrArg some (by kernel_rfl))⟩
  f15 := Tryd.func64.trans (congrArg some (by kernel_rfl))
  f20 := ⟨Tryd.f68.name, by decide, Tryd.func68.trans (congrArg some (by kernel_rfl))⟩
  f21 := ⟨Tryd.f69.name, by decide, Tryd.func69.trans (congrArg some (by kernel_rfl))⟩
  f22 := ⟨Tryd.f70.name, by decide, Tryd.func70.trans (congrArg some (by kernel_rfl))⟩
  f23 := ⟨Tryd.f71.name, by decide, Tryd.func71.trans (congrArg some (by kernel_rfl))⟩
  f24 := ⟨Tryd.f72.name, by decide, Tryd.func72.trans (congrArg some (by kernel_rfl))⟩
  f25 := ⟨Tryd.f73.name, by decide, Tryd.func73.trans (congrArg some (by kernel_rfl))⟩
  f26 := ⟨Tryd.f74.name, by decide, Tryd.func74.trans (congrArg some (by kernel_rfl))⟩
  f27 := ⟨Tryd.f75.name, by decide, Tryd.func75.trans (congrArg some (by kernel_rfl))⟩
  f28 := Tryd.func76.trans (congrArg some (by kernel_rfl))
  f29 := Tryd.func77.trans (congrArg some (by kernel_rfl))
  f46 := ⟨Tryd.f95.name, by decide, Tryd.func95.trans (congrArg some (by kernel_rfl))⟩
  f47 := Tryd.func96.trans (congrArg some (by kernel_rfl))
  f48 := Tryd.func97.trans (congrArg some (by kernel_rfl))
  f49 := ⟨Tryd.f98.name, by decide, Tryd.func98.trans (congrArg some (by kernel_rfl))⟩
  f50 := ⟨Tryd.f99.name, by decide, Tryd.func99.trans (congrArg some (by kernel_rfl))⟩
  f57 := ⟨Tryd.f106.name, by decide, Tryd.func106.trans (congrArg some (by kernel_rfl))⟩
  t0 := Tryd.underlying0
  a0 := Tryd.isAgg0
  z0 := Tryd.sizeOf0
  v0 := Tryd.zeroValue0
  t3 := Tryd.underlying3
  a3 := Tryd.isAgg3
  z3 := Tryd.sizeOf3
  v3 := Tryd.zeroValue3
  t4 := Tryd.underlying4
  a4 := Tryd.isAgg4
  z4 := Tryd.sizeOf4
  v4 := Tryd.zeroValue4
  t5 := Tryd.underlying5
  a5 := Tryd.isAgg5
  z5 := Tryd.sizeOf5
  v5 := Tryd.zeroValue5
  t9 := Tryd.underlying9
  a9 := Tryd.isAgg9
  z9 := Tryd.sizeOf9
  v9 := Tryd.zeroValue9
  t22 := Tryd.underlying25
  a22 := Tryd.isAgg25
  z22 := Tryd.sizeOf25
  v22 := Tryd.zeroValue25
  t25 := Tryd.underlying70
  a25 := Tryd.isAgg70
  z25 := Tryd.sizeOf70
  v25 := Tryd.zeroValue70
  t39 := Tryd.underlying101
  a39 := Tryd.isAgg101
  z39 := Tryd.sizeOf101
  v39 := Tryd.zeroValue101
  t45 := Tryd.underlying106
  a45 := Tryd.isAgg106
  z45 := Tryd.sizeOf106
  v45 := Tryd.zeroValue106
  t46 := Tryd.underlying107
  a46 := Tryd.isAgg107
  z46 := Tryd.sizeOf107
  v46 := Tryd.zeroValue107
  t50 := Tryd.underlying84
  a50 := Tryd.isAgg84
  z50 := Tryd.sizeOf84
  v50 := Tryd.zeroValue84
  t53 := Tryd.underlying113
  a53 := Tryd.isAgg113
  z53 := Tryd.sizeOf113
  v53 := Tryd.zeroValue113
  t55 := Tryd.underlying115
  a55 := Tryd.isAgg115
  z55 := Tryd.sizeOf115
  v55 := Tryd.zeroValue115
  t66 := Tryd.underlying127
  a66 := Tryd.isAgg127
  z66 := Tryd.sizeOf127
  v66 := Tryd.zeroValue127
  t70 := Tryd.underlying131
  a70 := Tryd.isAgg131
  z70 := Tryd.sizeOf131
  v70 := Tryd.zeroValue131
  t76 := Tryd.underlying137
  a76 := Tryd.isAgg137
  z76 := Tryd.sizeOf137
  v76 := Tryd.zeroValue137
  t77 := Tryd.underlying138
  a77 := Tryd.isAgg138
  z77 := Tryd.sizeOf138
  v77 := Tryd.zeroValue138
}
def Tryd.sortFP_ren : Go.Shelf.Ren := ⟨fun | 6 => 53 | 14 => 65 | 15 => 64 | 20 => 78 | 21 => 79 | 22 => 80 | 23 => 81 | 24 => 82 | 25 => 83 | 26 => 84 | 27 => 85 | 28 => 76 | 29 => 77 | 46 => 100 | 47 => 96 | 48 => 97 | 49 => 101 | 50 => 102 | 57 => 107 | n => n, fun | 0 => 0 | 3 => 3 | 4 => 4 | 5 => 5 | 9 => 9 | 22 => 26 | 25 => 68 | 39 => 101 | 45 => 106 | 46 => 107 | 50 => 84 | 53 => 113 | 55 => 115 | 66 => 127 | 70 => 131 | 76 => 137 | 77 => 138 | 24 => 36 | n => n, fun | n => n⟩
theorem Tryd.sortFP : Go.Proofs.SlLaysF0.n6 Tryd.prog Tryd.sortFP_ren := {
  mixed := by kernel_rfl
  f6 := ⟨Tryd.f53.name, by decide, Tryd.func53.trans (congrArg some (by kernel_rfl))⟩
  f14 := ⟨Tryd.f65.name, by decide, Tryd.func65.trans (congrArg some (by kernel_rfl))⟩
  f15 := Tryd.func64.trans (congrArg some (by kernel_rfl))
  f20 := ⟨Tryd.f78.name, by decide, Tryd.func78.trans (congrArg some (by kernel_rfl))⟩
  f21 := ⟨Tryd.f79.name, by decide, Tryd.func79.trans (congrArg some (by kernel_rfl))⟩
  f22 := ⟨Tryd.f80.name, by decide, Tryd.func80.trans (congrArg some (by kernel_rfl))⟩
  f23 := ⟨Tryd.f81.name, by decide, Tryd.func81.trans (congrArg some (by kernel_rfl))⟩
  f24 := ⟨Tryd.f82.name, by decide, Tryd.func82.trans (congrArg some (by kernel_rfl))⟩
  f25 := ⟨Tryd.f83.name, by decide, Tryd.func83.trans (congrArg some (by kernel_rfl))⟩
  f26 := ⟨Tryd.f84.name, by decide, Tryd.func84.trans (congrArg some (by kernel_rfl))⟩
  f27 := ⟨Tryd.f85.name, by decide, Tryd.func85.trans (congrArg some (by kernel_rfl))⟩
  f28 := Tryd.func76.trans (congrArg some (by kernel_rfl))
  f29 := Tryd.func77.trans (congrArg some (by kernel_rfl))
  f46 := ⟨Tryd.f100.name, by decide, Tryd.func100.trans (congrArg some (by kernel_rfl))⟩
  f47 := Tryd.func96.trans (congrArg some (by kernel_rfl))
  f48 := Tryd.func97.trans (congrArg some (by kernel_rfl))
  f49 := ⟨Tryd.f101.name, by decide, Tryd.func101.trans (congrArg some (by kernel_rfl))⟩
  f50 := ⟨Tryd.f102.name, by decide, Tryd.func102.trans (congrArg some (by kernel_rfl))⟩
  f57 := ⟨Tryd.f107.name, by decide, Tryd.func107.trans (congrArg some (by kernel_rfl))⟩
  t0 := Tryd.underlying0
  a0 := Tryd.isAgg0
  z0 := Tryd.sizeOf0
  v0 := Tryd.zeroValue0
  t3 := Tryd.underlying3
  a3 := Tryd.isAgg3
  z3 := Tryd.sizeOf3
  v3 := Tryd.zeroValue3
  t4 := Tryd.underlying4
  a4 := Tryd.isAgg4
  z4 := Tryd.sizeOf4
  v4 := Tryd.zeroValue4
  t5 := Tryd.underlying5
  a5 := Tryd.isAgg5
  z5 := Tryd.sizeOf5
  v5 := Tryd.zeroValue5
  t9 := Tryd.underlying9
  a9 := Tryd.isAgg9
  z9 := Tryd.sizeOf9
  v9 := Tryd.zeroValue9
  t22 := Tryd.underlying26
  a22 := Tryd.isAgg26
  z22 := Tryd.sizeOf26
  v22 := Tryd.zeroValue26
  t25 := Tryd.underlying68
  a25 := Tryd.isAgg68
  z25 := Tryd.sizeOf68
  v25 := Tryd.zeroValue68
  t39 := Tryd.underlying101
  a39 := Tryd.isAgg101
  z39 := Tryd.sizeOf101
  v39 := Tryd.zeroValue101
  t45 := Tryd.underlying106
  a45 := Tryd.isAgg106
  z45 := Tryd.sizeOf106
  v45 := Tryd.zeroValue106
  t46 := Tryd.underlying107
  a46 := Tryd.isAgg107
  z46 := Tryd.sizeOf107
  v46 := Tryd.zeroValue107
  t50 := Tryd.underlying84
  a50 := Tryd.isAgg84
  z50 := Tryd.sizeOf84
  v50 := Tryd.zeroValue84
  t53 := Tryd.underlying113
  a53 := Tryd.isAgg113
  z53 := Tryd.sizeOf113
  v53 := Tryd.zeroValue113
  t55 := Tryd.underlying115
  a55 := Tryd.isAgg115
  z55 := Tryd.sizeOf115
  v55 := Tryd.zeroValue115
  t66 := Tryd.underlying127
  a66 := Tryd.isAgg127
  z66 := Tryd.sizeOf127
  v66 := Tryd.zeroValue127
  t70 := Tryd.underlying131
  a70 := Tryd.isAgg131
  z70 := Tryd.sizeOf131
  v70 := Tryd.zeroValue131
  t76 := Tryd.underlying137
  a76 := Tryd.isAgg137
  z76 := Tryd.sizeOf137
  v76 := Tryd.zeroValue137
  t77 := Tryd.underlying138
  a77 := Tryd.isAgg138
  z77 := Tryd.sizeOf138
  v77 := Tryd.zeroValue138
}
end Go.Proofs
namespace Go.Vx
open Go Go.Proofs Go.Shelf Go.Sort
section
variable {C : Nat → Codec}
theorem sort_genO {P : Program} {ρ : Ren} (L : SlLaysF0.n6 P ρ) (t : Nat) (p : (C t).α → Prop) (hd : p (C t).dflt) (cf : (C t).α → (C t).α → Int) (hO : Go.Sort.SWO (ltOf fun x y : Subtype p => cf x.1 y.1)) (g : Nat) (hz : 0 < (C t).sz)
    (aE : ∀ w, (isAgg (ρ.t 24)).run P w = .ok true w) (zE : ∀ w, (Go.sizeOf (ρ.t 24)).run P w = .ok (C t).sz w) (e6 : ∀ args w, (callFunc (ρ.f 6) args).run P w = .ok (.enter (ρ.f 6) args) w) (eg : ∀ args w, (callFunc g args).run P w = .ok (.enter g args) w)
    (h1 : ∀ x, ∀ v ∈ encC (C t) x, v.oneCell' = true)
    (hcmp : ∀ x y, p x → p y → ∀ W : World, Calls P g #[.agg (encC (C t) x).toArray, .agg (encC (C t) y).toArray] W fun e w' => e = .returned (.int .i64 (cf x y)) ∧ ∃ q os', w' = Go.Sort.grow (W.drewN q) os')
    (b q : Nat) (l : List (C t).α) (n c : Nat) (hn : n ≤ l.length) (hp : ∀ s ∈ l.take n, p s) (hbig : n < 4611686018427387904) :
    Does (C := C) P (.fn (ρ.f 6)) [⟨b, q, (C t).sz, true, some true, .rows t l⟩] [.sl 0 0 n c, .fn (.func g) [] []]
      [⟨List (C t).α, fun l' => l'.Perm (l.take n) ∧ l'.Pairwise (fun x y => ¬ cf y x < 0), fun _ => .tup [], fun l' => [⟨b, q, (C t).sz, true, some true, .rows t (l' ++ l.drop n)⟩]⟩] := by
  intro w hm
  have hN : (l.take n).length = n := by rw [List.length_take]; omega
  letI : Inhabited (Subtype p) := ⟨⟨(C t).dflt, hd⟩⟩
  let d : Array (Subtype p) := ((l.take n).pmap (fun x hx => (⟨x, hx⟩ : Subtype p)) hp).toArray
  have hds : d.size = n := by simp [d, hN]
  let enc : Subtype p → List Value := fun x => encC (C t) x.1
  have hk : ∀ x, (enc x).length = (C t).sz := fun x => encC_len _ _
  have hrow := hm.ok _ (List.mem_singleton.2 rfl) rfl
  simp only [Ck.ok, true_and] at hrow
  have hblk : b < w.heap.size := hm.lt _ (List.mem_singleton.2 rfl) rfl
  have hfr : ∀ a : Addr, a.block = b → w.frozen? a = false := hm.wrok _ (List.mem_singleton.2 rfl) rfl rfl
  have hcell : ∀ (l' : List (C t).α) i f, i < l'.length → f < (C t).sz → ((((C t).enc (l'.getD i (C t).dflt)).getD f .junk).va (ads ([⟨b, q, (C t).sz, true, some true, .rows t l⟩] : List (Ck C)))) = (encC (C t) (l'.getD i (C t).dflt))[f]! := by
    intro l' i f hi hf
    have hl := (C t).len (l'.getD i (C t).dflt)
    have e := congrArg (fun L => L[f]?) ((C t).flat (l'.getD i (C t).dflt) (ads ([⟨b, q, (C t).sz, true, some true, .rows t l⟩] : List (Ck C))) noAd)
    simp only [List.getElem?_map, List.getElem?_eq_getElem (show f < ((C t).enc (l'.getD i (C t).dflt)).length by omega), Option.map_some, Option.some.injEq] at e
    rw [getElem!_pos _ f (by rw [encC_len]; exact hf)]
    simp only [encC, List.getElem_map]
    rw [← e]
    congr 1
    rw [List.getD_eq_getElem?_getD, List.getElem?_eq_getElem (show f < ((C t).enc (l'.getD i (C t).dflt)).length by omega)]
    rfl
  have hH : Go.Sort.HoldsK enc (C t).sz w b q d := by
    intro j hj
    simp only [Go.Sort.size_flatK, hds] at hj
    refine ⟨?_, hfr _ rfl⟩
    rw [Go.Sort.get_flatK _ _ _ _ (by rw [hds]; exact hj)]
    have hi : j / (C t).sz < n := Nat.div_lt_of_lt_mul (by rw [Nat.mul_comm]; exact hj)
    have hf : j % (C t).sz < (C t).sz := Nat.mod_lt _ hz
    have := hrow (j / (C t).sz) (by omega) (j % (C t).sz) hf
    rw [hcell l _ _ (by omega) hf] at this
    have e1 : (Ck.ad ({ block := b, base := q, sz := (C t).sz, wr := true, gl := some true, cells := .rows t l } : Ck C)).at (j / (C t).sz) (j % (C t).sz) = ⟨b, q + j, none⟩ := by
      simp only [Ck.ad, Ad.at, Nat.div_add_mod' j (C t).sz]
    rw [e1] at this
    rw [this]
    have e2 : (d[j / (C t).sz]!).1 = l.getD (j / (C t).sz) (C t).dflt := by
      rw [pm_get hp (by omega) (C t).dflt]
      simp [List.getD, List.getElem?_take, hi]
    show some _ = some ((encC (C t) (d[j / (C t).sz]!).1)[j % (C t).sz]!)
    rw [e2]
  have hcon := AnyQ.slices_SortFunc (P := P) (ρ := ρ) L (C t).sz aE zE enc hk (fun x => h1 x.1) (fun x y => cf x.1 y.1) hO g #[] b q c d w eg
    (fun m os dk _ x y => hcmp x.1 y.1 x.2 y.2 _) hH hblk (by rw [hds]; exact hbig)
  rw [hds] at hcon
  have e0 : (SV.vas (ads ([⟨b, q, (C t).sz, true, some true, .rows t l⟩] : List (Ck C))) [.sl 0 0 n c, .fn (.func g) [] []]).toArray = #[.slice (some ⟨b, q, none⟩) n c, .func (.func g) #[] #[]] := by
    simp [SV.vas, SV.va, ads, nth, Ck.ad, Ck.on, Ad.at]
  rw [e0]
  refine ⟨_, _, e6 _ w, hcon.mono ?_⟩
  rintro e w' ⟨rfl, d', k, os, hperm, hsort, rfl⟩
  obtain ⟨hs', _, hperm⟩ := hperm
  have hs' : d'.size = n := hs'.trans hds
  have hperm : d'.toList.Perm d.toList := by
    have ea : d'.extract 0 n = d' := by rw [← hs']; simp
    have eb : d.extract 0 n = d := by rw [← hds]; simp
    rw [ea, eb] at hperm
    exact hperm
  have hL : (d'.toList.map (·.1)).length = n := by simp [hs']
  have hH' := holdsK_sortWorldK_c enc (C t).sz w b q d d' k os hH hblk (by rw [hs', hds])
  have hsz0 : (Go.Sort.putRowK enc (C t).sz (Go.Sort.ahead w k) b q d').heap.size = w.heap.size := by
    unfold Go.Sort.putRowK; rw [Go.Sort.size_putRow]; rfl
  have hother : ∀ a : Addr, a.block < w.heap.size → (a.block ≠ b ∨ a.off < q ∨ q + n * (C t).sz ≤ a.off) → (sortWorldK enc (C t).sz w b q k d' os).cell? a = w.cell? a := by
    intro a ha hoff
    unfold sortWorldK
    rw [Go.Sort.cell?_grow _ _ _ (by rw [hsz0]; exact ha)]
    unfold Go.Sort.putRowK
    rw [Go.Sort.cell?_putRow_other]
    · rfl
    · rw [Go.Sort.size_flatK, hs']; exact hoff
  have hheap : ∀ j, j < w.heap.size → j ≠ b → (sortWorldK enc (C t).sz w b q k d' os).heap[j]? = w.heap[j]? := by
    intro j hj hjb
    unfold sortWorldK
    rw [Go.Sort.heap_grow_old _ _ (by rw [hsz0]; exact hj)]
    unfold Go.Sort.putRowK Go.Sort.putRow Go.Sort.mapBlock
    simp only [Array.getElem?_modify]
    rw [if_neg (Ne.symm hjb)]
    rfl
  refine ⟨.tup [], [⟨b, q, (C t).sz, true, some true, .rows t (d'.toList.map (·.1) ++ l.drop n)⟩], by simp [SV.va, SV.vas], ?_, ?_, ?_⟩
  · refine ⟨rfl, ⟨rfl, Nat.le_add_right _ _⟩, rfl, ?_, ?_, ?_, ?_, ?_, ?_, ?_, ?_⟩
    · exact size_sortWorldK_c enc (C t).sz w b q k d' os
    · intro j hj hS
      refine hheap j hj fun hjb => hS ⟨_, List.mem_singleton.2 rfl, rfl, rfl, hjb.symm⟩
    · intro c' hc' _ _ _
      exact ⟨_, List.mem_singleton.2 rfl, rfl, rfl, by rw [List.mem_singleton.1 hc']⟩
    · intro c' hc' _
      rw [List.mem_singleton.1 hc']
      simp only [Ck.ok, true_and]
      intro i hi f hf
      have hlen : (d'.toList.map (·.1) ++ l.drop n).length = l.length := by rw [List.length_append, hL, List.length_drop]; omega
      have hc2 := hcell (d'.toList.map (·.1) ++ l.drop n) i f hi hf
      have e3 : ads ([⟨b, q, (C t).sz, true, some true, .rows t (d'.toList.map (·.1) ++ l.drop n)⟩] : List (Ck C)) = ads ([⟨b, q, (C t).sz, true, some true, .rows t l⟩] : List (Ck C)) := by
        funext k; cases k <;> rfl
      rw [e3, hc2]
      by_cases hin : i < n
      · have := (hH'.cell (i := i) (c := f) (by rw [hs']; exact hin) hf).1
        have e1 : (Ck.ad ({ block := b, base := q, sz := (C t).sz, wr := true, gl := some true, cells := .rows t (d'.toList.map (·.1) ++ l.drop n) } : Ck C)).at i f = ⟨b, q + i * (C t).sz + f, none⟩ := by
          simp only [Ck.ad, Ad.at, Nat.add_assoc]
        rw [e1, this]
        have e2 : (d'.toList.map (·.1) ++ l.drop n).getD i (C t).dflt = (d'[i]!).1 := by
          rw [getElem!_pos _ i (by rw [hs']; exact hin)]
          simp [List.getD, List.getElem?_append, hs', hin]
        rw [e2]
      · have := hrow i (by omega) f hf
        rw [hcell l i f (by omega) hf] at this
        have e2 : (d'.toList.map (·.1) ++ l.drop n).getD i (C t).dflt = l.getD i (C t).dflt := by
          simp only [List.getD_eq_getElem?_getD]
          rw [List.getElem?_append_right (by rw [hL]; omega), hL, List.getElem?_drop, show n + (i - n) = i by omega]
        rw [e2, ← this]
        refine hother _ hblk (.inr (.inr ?_))
        show q + n * (C t).sz ≤ q + (i * (C t).sz + f)
        have := Nat.mul_le_mul_right (C t).sz (show n ≤ i by omega)
        omega
    · intro c' hc' _ _ a ha
      rw [List.mem_singleton.1 hc'] at ha
      unfold sortWorldK
      rw [Go.Sort.frozen?_grow _ _ _ (by rw [hsz0, ha]; exact hblk)]
      unfold Go.Sort.putRowK
      rw [Go.Sort.frozen?_putRow]
      exact hfr a ha
    · intro i j hi hj hij
      simp at hi hj; omega
    · intro c' hc' _
      rw [List.mem_singleton.1 hc']
      exact Nat.lt_of_lt_of_le hblk (size_sortWorldK_c enc (C t).sz w b q k d' os)
    · refine hm.more.mono hm.inS ?_ ?_ (Nat.le_refl _) (size_sortWorldK_c enc (C t).sz w b q k d' os) ?_
      · intro j hj hno
        exact hheap j hj fun hjb => hno _ (List.mem_singleton.2 rfl) rfl rfl hjb.symm
      · intro c' hc' hl'
        rw [List.mem_singleton.1 hc']
        exact .inl ⟨_, List.mem_singleton.2 rfl, rfl, rfl, id⟩
      · intro c' hc'
        rw [List.mem_singleton.1 hc']
        refine CsIn.rows (RowsOf.of (List.mem_singleton.2 rfl) rfl (fun _ h => h) fun x hx => ?_)
        rcases List.mem_append.1 hx with hx | hx
        · have hpv := perm_val hperm
          have e2 : d.toList.map (·.1) = l.take n := by
            show ((l.take n).pmap (fun x hx => (⟨x, hx⟩ : Subtype p)) hp).map (·.1) = l.take n
            exact pm_val hp
          rw [e2] at hpv
          exact List.mem_of_mem_take (hpv.mem_iff.1 hx)
        · exact List.mem_of_mem_drop hx
  · refine ⟨Nat.le_refl _, ?_, ?_⟩
    · intro k hk
      have : k = 0 := by simp at hk; omega
      subst this
      exact ⟨rfl, rfl, rfl, rfl, rfl⟩
    · intro k h0 h2
      simp at h0 h2; omega
  · refine Ends.one (d'.toList.map (·.1)) ⟨?_, ?_⟩ ⟨rfl, rfl⟩
    · have := perm_val hperm
      have e2 : d.toList.map (·.1) = l.take n := by
        show ((l.take n).pmap (fun x hx => (⟨x, hx⟩ : Subtype p)) hp).map (·.1) = l.take n
        exact pm_val hp
      rw [e2] at this
      exact this
    · rw [List.pairwise_iff_getElem]
      intro i j hi hj hij
      simp only [List.length_map, Array.length_toList, hs'] at hi hj
      have := hsort i j (Nat.zero_le _) hij hj
      rw [getElem!_pos _ i (by rw [hs']; exact hi), getElem!_pos _ j (by rw [hs']; exact hj)] at this
      unfold ltOf at this
      simpa using this
end
abbrev C9 : Nat → Codec := fun t => match t with
  | 36 => cPl
  | t => cInt .i64
section
variable {C : Nat → Codec}
theorem gv9 (g : Nat) : (C9 g).gv = none := by unfold C9; split <;> rfl
theorem gp9 (g : Nat) : (C9 g).gpins = [] := by unfold C9; split <;> rfl
theorem mem9 (w : World) : MemOK (C := C9) (wrS ([] : List (Ck C9))) w w [] := memRo rfl (fun _ h => by cases h) (fun _ h => by cases h) (More.bare gv9 gp9 fun _ h => by cases h)
end
section
variable [Gl]
theorem isNaN_ok9 (n : Int) : Tells (C := C9) Tryd.prog (.fn 51) [] [.int .i64 n] (.bool .f) := by
  refine loc_pc (C := C9) (P := Tryd.prog) (E := ⟨[], [], 6, [], [], []⟩) (L := []) mix Tryd.func51 rfl (by kernel_rfl) (by kernel_rfl) rfl rfl ?_
  ((conv => (arg 1; reduce)); with_reducible repeat' (first | exact Tr.yes_h | refine Tr.and_h ?_ ?_ | refine Tr.imp_h fun _ => ?_ | refine Tr.all_h fun _ => ?_ | refine Tr.lf_h ?_))
  all_goals try (first | first | (show Region.lexB _ _ = true; kernel_rfl) | (show planned _ _ = true; kernel_rfl) | exact rfl | exact True.intro | (first | exact key3 | exact zeroB | exact zeroR | exact zeroS | exact ⟨key3, zeroB⟩ | exact ⟨key3, zeroR⟩ | exact ⟨key3, zeroS⟩) | ((try dsimp only [imp, C0, cG, cInt, cPl, cSlot, cPg, gwCodec] at *); (try refine inR64 ?_ ?_) <;> (try simp only [List.length_set, List.length_append, List.length_take, List.length_drop]) <;> omega))
  all_goals simp [SB.val]
def pcNaN9 : Pc Tryd.prog C9 where
  tg := .fn 51
  X := Int
  args x := [.int .i64 x]
  mem _ := []
  pre _ := True
  res x := .bool .f
  mat vs _ := match vs with
    | [.int _ a] => some (a, [])
    | _ => none
  ok x _ := isNaN_ok9 x
theorem compare_ok9 (a b : Int) : Tells (C := C9) Tryd.prog (.fn 31) [] [.int .i64 a, .int .i64 b] (.int .i64 (cmpI a b)) := by
  refine loc_pc (C := C9) (P := Tryd.prog) (E := ⟨[], [pcNaN9], 20, [], [], []⟩) (L := []) mix Tryd.func31 rfl (by kernel_rfl) (by kernel_rfl) rfl rfl ?_
  ((conv => (arg 1; reduce)); with_reducible repeat' (first | exact Tr.yes_h | refine Tr.and_h ?_ ?_ | refine Tr.imp_h fun _ => ?_ | refine Tr.all_h fun _ => ?_ | refine Tr.lf_h ?_))
  all_goals try (first | first | (show Region.lexB _ _ = true; kernel_rfl) | (show planned _ _ = true; kernel_rfl) | exact rfl | exact True.intro | (first | exact key3 | exact zeroB | exact zeroR | exact zeroS | exact ⟨key3, zeroB⟩ | exact ⟨key3, zeroR⟩ | exact ⟨key3, zeroS⟩) | ((try dsimp only [imp, C0, cG, cInt, cPl, cSlot, cPg, gwCodec] at *); (try refine inR64 ?_ ?_) <;> (try simp only [List.length_set, List.length_append, List.length_take, List.length_drop]) <;> omega))
  · rename_i h1
    exact (cmpI_lt (of_decide_eq_true h1)).symm
  · rename_i h1 h2
    exact (cmpI_gt (of_decide_eq_true h2)).symm
  · rename_i h1 h2
    exact (cmpI_eq (of_decide_eq_false h1) (of_decide_eq_false h2)).symm
def pcCompare9 : Pc Tryd.prog C9 where
  tg := .fn 31
  X := Int × Int
  args x := [.int .i64 x.1, .int .i64 x.2]
  mem _ := []
  pre _ := True
  res x := .int .i64 (cmpI x.1 x.2)
  mat vs _ := match vs with
    | [.int _ a, .int _ b] => some ((a, b), [])
    | _ => none
  ok x _ := compare_ok9 x.1 x.2
def Or19 (A : List Int) : Inv' C9 := ⟨3, Nat, fun i => [(8, .int .i64 (i : Int))], fun _ m => m, fun i => i ≤ A.length ∧ ∀ x ∈ A.take i, x = 0, fun i => A.length - i⟩
theorem or_ok9 (b q : Nat) (l : List Int) (n c : Nat) (h : n ≤ l.length) (hn : n < 4611686018427387904) :
    Tells (C := C9) Tryd.prog (.fn 37) [⟨b, q, 1, false, none, .rows 3 l⟩] [.sl 0 0 n c] (.int .i64 (orL (l.take n))) := by
  have hL := tk_len h
  refine loc_pc (C := C9) (P := Tryd.prog) (E := ⟨[], [], 18, [], [], []⟩) (L := [Or19 (l.take n)]) mix Tryd.func37 rfl (by kernel_rfl) (by kernel_rfl) rfl rfl ?_
  ((conv => (arg 1; reduce)); with_reducible repeat' (first | exact Tr.yes_h | refine Tr.and_h ?_ ?_ | refine Tr.imp_h fun _ => ?_ | refine Tr.all_h fun _ => ?_ | refine Tr.lf_h ?_))
  all_goals try (first | (first | first | (show Region.lexB _ _ = true; kernel_rfl) | (show planned _ _ = true; kernel_rfl) | exact rfl | exact True.intro | (first | exact key3 | exact zeroB | exact zeroR | exact zeroS | exact ⟨key3, zeroB⟩ | exact ⟨key3, zeroR⟩ | exact ⟨key3, zeroS⟩) | ((try dsimp only [imp, C0, cG, cInt, cPl, cSlot, cPg, gwCodec] at *); (try refine inR64 ?_ ?_) <;> (try simp only [List.length_set, List.length_append, List.length_take, List.length_drop]) <;> omega)) | ((try dsimp only [imp, C0, cG, cInt, cPl, cSlot, cPg, gwCodec, Or19] at *); (try simp only [decide_eq_true_eq, decide_eq_false_iff_not, Bool.and_eq_true, Bool.or_eq_true, Bool.or_eq_false_iff, Bool.and_eq_false_iff, Bool.not_eq_true', Bool.not_eq_false', SB.val, List.length_append, List.length_cons, List.length_nil, List.length_take, List.length_drop] at *); (first | omega | exact inR64 (by omega) (by omega) | (refine inR64 ?_ ?_ <;> omega))))
  · refine Stands.one (0 : Nat) ⟨⟨Nat.zero_le _, by simp⟩, ?_⟩
    ((conv => (arg 1; reduce)); with_reducible repeat' (first | exact Tr.yes_h | refine Tr.and_h ?_ ?_ | refine Tr.imp_h fun _ => ?_ | refine Tr.all_h fun _ => ?_ | refine Tr.lf_h ?_))
    all_goals (first | first | (show Region.lexB _ _ = true; kernel_rfl) | (show planned _ _ = true; kernel_rfl) | exact rfl | exact True.intro | (first | exact key3 | exact zeroB | exact zeroR | exact zeroS | exact ⟨key3, zeroB⟩ | exact ⟨key3, zeroR⟩ | exact ⟨key3, zeroS⟩) | ((try dsimp only [imp, C0, cG, cInt, cPl, cSlot, cPg, gwCodec] at *); (try refine inR64 ?_ ?_) <;> (try simp only [List.length_set, List.length_append, List.length_take, List.length_drop]) <;> omega))
  · rename_i v hv h1 h2
    change Nat at v
    obtain ⟨e1, e2⟩ := hv
    have h1 : v < n := by have := of_decide_eq_true h1; omega
    have h2 : l.getD v 0 ≠ 0 := of_decide_eq_true h2
    rw [orL_at (i := v) (by rw [hL]; exact h1) e2 (by rw [tk_get h1]; exact h2), tk_get h1]
    rfl
  · rename_i v hv h1 h2
    change Nat at v
    obtain ⟨e1, e2⟩ := hv
    have h1 : v < n := by have := of_decide_eq_true h1; omega
    have h2 : ¬ l.getD v 0 ≠ 0 := of_decide_eq_false h2
    refine Stands.one (v + 1 : Nat) ⟨⟨by rw [hL]; exact h1, fun x hx => ?_⟩, ?_, ?_⟩
    · rw [take_snoc (d := 0) (by rw [hL]; exact h1), tk_get h1] at hx
      rcases List.mem_append.1 hx with hx | hx
      · exact e2 x hx
      · rw [List.mem_singleton.1 hx]; omega
    · show (l.take n).length - (v + 1) < (l.take n).length - v
      rw [hL]; omega
    ((conv => (arg 1; reduce)); with_reducible repeat' (first | exact Tr.yes_h | refine Tr.and_h ?_ ?_ | refine Tr.imp_h fun _ => ?_ | refine Tr.all_h fun _ => ?_ | refine Tr.lf_h ?_))
    all_goals (first | first | (show Region.lexB _ _ = true; kernel_rfl) | (show planned _ _ = true; kernel_rfl) | exact rfl | exact True.intro | (first | exact key3 | exact zeroB | exact zeroR | exact zeroS | exact ⟨key3, zeroB⟩ | exact ⟨key3, zeroR⟩ | exact ⟨key3, zeroS⟩) | ((try dsimp only [imp, C0, cG, cInt, cPl, cSlot, cPg, gwCodec] at *); (try refine inR64 ?_ ?_) <;> (try simp only [List.length_set, List.length_append, List.length_take, List.length_drop]) <;> omega))
  · rename_i v hv h1
    change Nat at v
    obtain ⟨e1, e2⟩ := hv
    have h1 : ¬ v < n := by have := of_decide_eq_false h1; omega
    rw [List.take_of_length_le (by rw [hL]; omega)] at e2
    exact (orL_no e2).symm
def pcOr9 : Pc Tryd.prog C9 where
  tg := .fn 37
  X := Nat × Nat × List Int × Nat × Nat
  args := fun (b, q, l, n, c) => [.sl 0 0 n c]
  mem := fun (b, q, l, n, c) => [⟨b, q, 1, false, none, .rows 3 l⟩]
  pre := fun (b, q, l, n, c) => n ≤ l.length ∧ n < 4611686018427387904
  res := fun (b, q, l, n, c) => .int .i64 (orL (l.take n))
  mat vs m := match vs with
    | [.sl a 0 n c] => match nth m a with
      | ⟨b, q, _, _, _, .rows 3 l⟩ => some ((b, q, l, n, c), [a])
      | _ => none
    | _ => none
  ok := fun (b, q, l, n, c) h => or_ok9 b q l n c h.1 h.2
theorem places_ok9 (a b : Pl) : Tells (C := C9) Tryd.prog (.fn 25) [] [.agg (plE a), .agg (plE b)] (.int .i64 (plc a b)) := by
  refine loc_pc (C := C9) (P := Tryd.prog) (E := ⟨[], [pcCompare9, pcOr9], 17, [(1, [1000002, 1000003], [.p 0, .p 1, .p 2, .p 3, .p 5, .p 6, .p 7, .p 8, .q 4, .q 9, .e 10, .q 11, .p 12])], [], []⟩) (L := []) mix Tryd.func25 rfl (by kernel_rfl) (by kernel_rfl) rfl rfl ?_
  ((conv => (arg 1; reduce)); with_reducible repeat' (first | exact Tr.yes_h | refine Tr.and_h ?_ ?_ | refine Tr.imp_h fun _ => ?_ | refine Tr.all_h fun _ => ?_ | refine Tr.lf_h ?_))
  all_goals try (first | first | (show Region.lexB _ _ = true; kernel_rfl) | (show planned _ _ = true; kernel_rfl) | exact rfl | exact True.intro | (first | exact key3 | exact zeroB | exact zeroR | exact zeroS | exact ⟨key3, zeroB⟩ | exact ⟨key3, zeroR⟩ | exact ⟨key3, zeroS⟩) | ((try dsimp only [imp, C0, cG, cInt, cPl, cSlot, cPg, gwCodec] at *); (try refine inR64 ?_ ?_) <;> (try simp only [List.length_set, List.length_append, List.length_take, List.length_drop]) <;> omega))
  · exact ⟨Nat.le_refl _, by omega⟩
  · unfold plc
    rfl
theorem cmpI_lays (x y : Int) (W : World) : Calls Tryd.prog 31 (#[Value.int .i64 x, Value.int .i64 y] ++ #[]) W fun e w' => e = .returned (.int .i64 (cmpI x y)) ∧ ∃ q os', w' = grow (W.drewN q) os' :=
  Tells.grows Tryd.func31 rfl (by kernel_rfl) (compare_ok9 x y) rfl (mem9 W)
theorem plc_lays (x y : Pl) (W : World) : Calls Tryd.prog 25 #[.agg #[.int .i64 x.1, .int .i64 x.2], .agg #[.int .i64 y.1, .int .i64 y.2]] W fun e w' => e = .returned (.int .i64 (plc x y)) ∧ ∃ q os', w' = grow (W.drewN q) os' :=
  Tells.grows Tryd.func25 rfl (by kernel_rfl) (places_ok9 x y) rfl (mem9 W)
theorem cmpI_neg {a b : Int} : cmpI a b < 0 ↔ a < b := by unfold cmpI; repeat' split <;> omega
theorem swoI : SWO (ltOf cmpI) where
  irrefl x := by simp only [ltOf, cmpI_neg, decide_eq_false_iff_not]; omega
  trans x y z h1 h2 := by simp only [ltOf, cmpI_neg, decide_eq_true_eq] at *; omega
  ntrans x y z h1 h2 := by simp only [ltOf, cmpI_neg, decide_eq_false_iff_not] at *; omega
theorem totI (x y : Int) (h1 : ltOf cmpI x y = false) (h2 : ltOf cmpI y x = false) : x = y := by
  simp only [ltOf, cmpI_neg, decide_eq_false_iff_not] at *; omega
theorem leI : (fun x y : Int => !(ltOf cmpI) y x) = fun x y => decide (x ≤ y) := by
  funext x y
  simp only [ltOf, cmpI_neg]
  by_cases h : y < x
  · rw [decide_eq_true h, decide_eq_false (by omega)]; rfl
  · rw [decide_eq_false h, decide_eq_true (by omega)]; rfl
theorem sortFIOn_ok (b q : Nat) (l : List Int) (n c : Nat) (hn : n ≤ l.length) (hbig : n < 4611686018427387904) :
    Does (C := C0) Tryd.prog (.fn 49) [⟨b, q, 1, true, some true, .rows 3 l⟩] [.sl 0 0 n c, .fn (.func 31) [] []]
      [⟨Unit, fun _ => True, fun _ => .tup [], fun _ => [⟨b, q, 1, true, some true, .rows 3 (srt (l.take n) ++ l.drop n)⟩]⟩] := by
  intro w hm
  have hN : (l.take n).length = n := tk_len hn
  have hrow := hm.ok _ (List.mem_singleton.2 rfl) rfl
  simp only [Ck.ok] at hrow
  obtain ⟨_, hrow⟩ := hrow
  have hblk : b < w.heap.size := hm.lt _ (List.mem_singleton.2 rfl) rfl
  have hfr : ∀ a : Addr, a.block = b → w.frozen? a = false := hm.wrok _ (List.mem_singleton.2 rfl) rfl rfl
  have hcell : ∀ i, i < l.length → w.cell? ⟨b, q + i, none⟩ = some (.int .i64 (l.getD i 0)) := by
    intro i hi
    have := hrow i hi 0 Nat.zero_lt_one
    have e : (Ck.ad ({ block := b, base := q, sz := 1, wr := true, gl := some true, cells := .rows 3 l } : Ck C0)).at i 0 = ⟨b, q + i, none⟩ := by simp [Ck.ad, Ad.at]
    rw [e] at this
    rw [this]; rfl
  have hH : Go.Sort.Holds (Value.int .i64) w b q (l.take n).toArray := by
    intro j hj
    have hj : j < n := by rw [List.size_toArray, hN] at hj; exact hj
    refine ⟨?_, hfr _ rfl⟩
    rw [hcell j (by omega), getElem!_pos _ j (by simpa [hN] using hj)]
    simp [List.getD, List.getElem?_eq_getElem (show j < l.length by omega)]
  have hcon : Calls Tryd.prog 49 #[.slice (some ⟨b, q, none⟩) n c, .func (.func 31) #[] #[]] w fun e w' => e = .returned (.tuple #[]) ∧ ∃ k os, w' = grow (putRow (Value.int .i64) (Sort.ahead w k) b q ((l.take n).mergeSort fun x y => decide (x ≤ y)).toArray) os := by
    have h0 := Any.slices_SortFunc_total (P := Tryd.prog) Tryd.sortFI (fun x : Int => Value.int .i64 x) (fun _ => rfl) cmpI swoI 31 #[] b q c (l.take n).toArray w (enters_of Tryd.func31 (by kernel_rfl) rfl)
      (fun m os dk _ x y => cmpI_lays x y _) hH hblk (by rw [List.size_toArray, hN]; exact hbig) totI
    rw [List.size_toArray] at h0
    rw [hN] at h0
    refine h0.mono ?_
    rintro e w' ⟨he, k, os, hw⟩
    refine ⟨he, k, os, ?_⟩
    rw [hw, leI]
    rfl
  have e0 : (SV.vas (ads ([⟨b, q, 1, true, some true, .rows 3 l⟩] : List (Ck C0))) [.sl 0 0 n c, .fn (.func 31) [] []]).toArray = #[.slice (some ⟨b, q, none⟩) n c, .func (.func 31) #[] #[]] := by
    simp [SV.vas, SV.va, ads, nth, Ck.ad, Ck.on, Ad.at]
  rw [e0]
  refine ⟨_, _, run_callFunc Tryd.func49 rfl (by kernel_rfl) _ w, hcon.mono ?_⟩
  rintro e w' ⟨rfl, k, os, rfl⟩
  have hs : ((l.take n).mergeSort fun x y => decide (x ≤ y)) = srt (l.take n) := by unfold srt; rfl
  rw [hs]
  have hL : (srt (l.take n)).length = n := by rw [srt_len, hN]
  have hsz0 : (putRow (Value.int .i64) (Sort.ahead w k) b q (srt (l.take n)).toArray).heap.size = w.heap.size := by rw [Go.Sort.size_putRow]; rfl
  have hHa : Go.Sort.Holds (Value.int .i64) (Sort.ahead w k) b q (l.take n).toArray := hH
  have hin : ∀ j, j < n → (grow (putRow (Value.int .i64) (Sort.ahead w k) b q (srt (l.take n)).toArray) os).cell? ⟨b, q + j, none⟩ = some (.int .i64 ((srt (l.take n)).getD j 0)) := by
    intro j hj
    rw [cell?_grow _ _ _ (by rw [hsz0]; exact hblk)]
    have h2 := holds_putRow (Value.int .i64) (Sort.ahead w k) b q (l.take n).toArray (srt (l.take n)).toArray hHa (by simp [hL, hN])
    rw [(h2 j (by simp [hL]; exact hj)).1, getElem!_pos _ j (by simp [hL]; exact hj)]
    simp [List.getD, List.getElem?_eq_getElem (show j < (srt (l.take n)).length by omega)]
  have hother : ∀ a : Addr, a.block < w.heap.size → (a.block ≠ b ∨ a.off < q ∨ q + n ≤ a.off) → (grow (putRow (Value.int .i64) (Sort.ahead w k) b q (srt (l.take n)).toArray) os).cell? a = w.cell? a := by
    intro a ha hoff
    rw [cell?_grow _ _ _ (by rw [hsz0]; exact ha), cell?_putRow_other _ _ _ _ _ _ (by simpa [hL] using hoff)]
    rfl
  have hheap : ∀ j, j < w.heap.size → j ≠ b → (grow (putRow (Value.int .i64) (Sort.ahead w k) b q (srt (l.take n)).toArray) os).heap[j]? = w.heap[j]? := by
    intro j hj hjb
    rw [heap_grow_old _ _ (by rw [hsz0]; exact hj)]
    unfold putRow mapBlock
    simp only [Array.getElem?_modify]
    rw [if_neg (Ne.symm hjb)]
    rfl
  have hsize : w.heap.size ≤ (grow (putRow (Value.int .i64) (Sort.ahead w k) b q (srt (l.take n)).toArray) os).heap.size := by rw [size_grow, hsz0]; omega
  refine ⟨.tup [], [⟨b, q, 1, true, some true, .rows 3 (srt (l.take n) ++ l.drop n)⟩], by simp [SV.va, SV.vas], ?_, ?_, ?_⟩
  · refine ⟨rfl, ⟨rfl, Nat.le_add_right _ _⟩, rfl, hsize, ?_, ?_, ?_, ?_, ?_, ?_, ?_⟩
    · intro j hj hS
      refine hheap j hj fun hjb => hS ⟨_, List.mem_singleton.2 rfl, rfl, rfl, hjb.symm⟩
    · intro c' hc' _ _ _
      exact ⟨_, List.mem_singleton.2 rfl, rfl, rfl, by rw [List.mem_singleton.1 hc']⟩
    · intro c' hc' _
      rw [List.mem_singleton.1 hc']
      refine ⟨rfl, fun i hi f hf => ?_⟩
      have hf0 : f = 0 := by
        have : f < 1 := hf
        omega
      subst hf0
      have hlen : (srt (l.take n) ++ l.drop n).length = l.length := by rw [List.length_append, hL, List.length_drop]; omega
      have e : (Ck.ad ({ block := b, base := q, sz := 1, wr := true, gl := some true, cells := .rows 3 (srt (l.take n) ++ l.drop n) } : Ck C0)).at i 0 = ⟨b, q + i, none⟩ := by simp [Ck.ad, Ad.at]
      rw [e]
      show _ = some (Value.int .i64 ((srt (l.take n) ++ l.drop n).getD i 0))
      by_cases hi' : i < n
      · rw [hin i hi']
        congr 2
        rw [List.getD_eq_getElem?_getD, List.getD_eq_getElem?_getD, List.getElem?_append_left (by omega)]
      · rw [hother _ hblk (.inr (.inr (by show q + n ≤ q + i; omega))), hcell i (by omega)]
        congr 2
        rw [List.getD_eq_getElem?_getD, List.getD_eq_getElem?_getD, List.getElem?_append_right (by omega), hL, List.getElem?_drop, show n + (i - n) = i by omega]
    · intro c' hc' _ _ a ha
      rw [List.mem_singleton.1 hc'] at ha
      rw [frozen?_grow _ _ _ (by rw [hsz0, ha]; exact hblk), frozen?_putRow]
      exact hfr a ha
    · intro i j hi hj hij
      simp at hi hj; omega
    · intro c' hc' _
      rw [List.mem_singleton.1 hc']
      exact Nat.lt_of_lt_of_le hblk hsize
    · refine hm.more.mono hm.inS ?_ ?_ (Nat.le_refl _) hsize ?_
      · intro j hj hno
        exact hheap j hj fun hjb => hno _ (List.mem_singleton.2 rfl) rfl rfl hjb.symm
      · intro c' hc' hl'
        rw [List.mem_singleton.1 hc']
        exact .inl ⟨_, List.mem_singleton.2 rfl, rfl, rfl, id⟩
      · intro c' hc'
        rw [List.mem_singleton.1 hc']
        exact CsIn.rows (RowsOf.flat rfl _)
  · refine ⟨Nat.le_refl _, ?_, ?_⟩
    · intro k hk
      have : k = 0 := by simp at hk; omega
      subst this
      exact ⟨rfl, rfl, rfl, rfl, rfl⟩
    · intro k h0 h2
      simp at h0 h2; omega
  · exact Ends.one () trivial ⟨rfl, rfl⟩
theorem sortFIOff_ok (b q : Nat) (l : List Int) (c : Nat) : Does (C := C0) Tryd.prog (.fn 49) [⟨b, q, 1, true, some false, .rows 3 l⟩] [.sl 0 0 0 c, .fn (.func 31) [] []]
      [⟨Unit, fun _ => True, fun _ => .tup [], fun _ => [⟨b, q, 1, true, some false, .rows 3 l⟩]⟩] := by
  intro w hm
  have hcon : Calls Tryd.prog 49 #[.slice none 0 c, .func (.func 31) #[] #[]] w fun e w' => e = .returned (.tuple #[]) ∧ w' = w := AnyF.slices_SortFunc_none (P := Tryd.prog) Tryd.sortFI0 none c _ w
  have e0 : (SV.vas (ads ([⟨b, q, 1, true, some false, .rows 3 l⟩] : List (Ck C0))) [.sl 0 0 0 c, .fn (.func 31) [] []]).toArray = #[.slice none 0 c, .func (.func 31) #[] #[]] := by
    simp [SV.vas, SV.va, ads, nth, Ck.ad, Ck.on, Ad.at]
  rw [e0]
  refine ⟨_, _, run_callFunc Tryd.func49 rfl (by kernel_rfl) _ w, hcon.mono ?_⟩
  rintro e w' ⟨rfl, rfl⟩
  refine ⟨.tup [], _, by simp [SV.va, SV.vas], hm, ⟨Nat.le_refl _, fun k hk => ?_, fun k h0 h2 => ?_⟩, Ends.one () trivial ⟨rfl, rfl⟩⟩
  · exact ⟨rfl, rfl, rfl, rfl, rfl⟩
  · simp at h0 h2; omega
theorem sortFI_ok (o : Bool) (b q : Nat) (l : List Int) (n c : Nat) (hn : n ≤ l.length) (hbig : n < 4611686018427387904) (ho : o = false → n = 0) :
    Does (C := C0) Tryd.prog (.fn 49) [⟨b, q, 1, true, some o, .rows 3 l⟩] [.sl 0 0 n c, .fn (.func 31) [] []]
      [⟨Unit, fun _ => True, fun _ => .tup [], fun _ => [⟨b, q, 1, true, some o, .rows 3 (srt (l.take n) ++ l.drop n)⟩]⟩] := by
  cases o with
  | true => exact sortFIOn_ok b q l n c hn hbig
  | false =>
    obtain rfl := ho rfl
    rw [List.take_zero, List.drop_zero, srt_nil, List.nil_append]
    exact sortFIOff_ok b q l c
noncomputable def fcSortFI : Fc Tryd.prog C0 where
  tg := .fn 49
  X := Bool × Nat × Nat × List Int × Nat × Nat
  args := fun (o, b, q, l, n, c) => [.sl 0 0 n c, .fn (.func 31) [] []]
  mem := fun (o, b, q, l, n, c) => [⟨b, q, 1, true, some o, .rows 3 l⟩]
  pre := fun (o, b, q, l, n, c) => n ≤ l.length ∧ n < 4611686018427387904 ∧ (o = false → n = 0)
  alts := fun (o, b, q, l, n, c) => [⟨Unit, fun _ => True, fun _ => .tup [], fun _ => [⟨b, q, 1, true, some o, .rows 3 (srt (l.take n) ++ l.drop n)⟩]⟩]
  mat vs m := match vs with
    | [.sl a 0 n c, .fn (.func 31) _ _] => match nth m a with
      | ⟨b, q, _, _, g, .rows 3 l⟩ => some ((onOf g, b, q, l, n, c), [a])
      | _ => none
    | _ => none
  ok := fun (o, b, q, l, n, c) h => sortFI_ok o b q l n c h.1 h.2.1 h.2.2
theorem swoPl : SWO (ltOf fun x y : Subtype (fun _ : Pl => True) => plc x.1 y.1) where
  irrefl x := by simp only [ltOf, plc_lt, plLt, decide_eq_false_iff_not]; omega
  trans x y z h1 h2 := by simp only [ltOf, plc_lt, plLt, decide_eq_true_eq] at *; omega
  ntrans x y z h1 h2 := by simp only [ltOf, plc_lt, plLt, decide_eq_false_iff_not] at *; omega
theorem cellsPl (x : Pl) : ∀ v ∈ encC (C0 36) x, v.oneCell' = true := by
  intro v hv
  have hv : v ∈ (plE x).map (SV.va noAd) := hv
  simp only [plE, List.map_cons, List.map_nil, List.mem_cons, List.not_mem_nil, or_false] at hv
  rcases hv with rfl | rfl <;> rfl
theorem sortFP_ok (o : Bool) (b q : Nat) (l : List Pl) (n c : Nat) (hn : n ≤ l.length) (hbig : n < 4611686018427387904) (ho : o = false → n = 0) :
    Does (C := C0) Tryd.prog (.fn 53) [⟨b, q, 2, true, some o, .rows 36 l⟩] [.sl 0 0 n c, .fn (.func 25) [] []]
      [⟨List Pl, fun l' => l'.length = n, fun _ => .tup [], fun l' => [⟨b, q, 2, true, some o, .rows 36 (l' ++ l.drop n)⟩]⟩] := by
  cases o with
  | true =>
    have := sort_genO (C := C0) Tryd.sortFP 36 (fun _ => True) trivial plc swoPl 25 (by show 0 < 2; omega) Tryd.isAgg36 Tryd.sizeOf36 (enters_of Tryd.func53 (by kernel_rfl) rfl) (enters_of Tryd.func25 (by kernel_rfl) rfl) cellsPl (fun x y _ _ W => plc_lays x y W) b q l n c hn (fun _ _ => trivial) hbig
    intro w hm
    obtain ⟨f, vals, h1, h2⟩ := this w hm
    refine ⟨f, vals, h1, h2.mono ?_⟩
    rintro e w' ⟨r, m', g1, g2, g3, g4⟩
    refine ⟨r, m', g1, g2, g3, ?_⟩
    obtain ⟨A, hA, y, hy, hr⟩ := g4
    rw [List.mem_singleton] at hA
    subst hA
    exact Ends.one y (by rw [hy.1.length_eq]; exact tk_len hn) hr
  | false =>
    obtain rfl := ho rfl
    intro w hm
    have hcon : Calls Tryd.prog 53 #[.slice none 0 c, .func (.func 25) #[] #[]] w fun e w' => e = .returned (.tuple #[]) ∧ w' = w := AnyF.slices_SortFunc_none (P := Tryd.prog) Tryd.sortFP none c _ w
    have e0 : (SV.vas (ads ([⟨b, q, 2, true, some false, .rows 36 l⟩] : List (Ck C0))) [.sl 0 0 0 c, .fn (.func 25) [] []]).toArray = #[.slice none 0 c, .func (.func 25) #[] #[]] := by
      simp [SV.vas, SV.va, ads, nth, Ck.ad, Ck.on, Ad.at]
    rw [e0]
    refine ⟨_, _, run_callFunc Tryd.func53 rfl (by kernel_rfl) _ w, hcon.mono ?_⟩
    rintro e w' ⟨rfl, rfl⟩
    refine ⟨.tup [], _, by simp [SV.va, SV.vas], hm, ⟨Nat.le_refl _, fun k hk => ?_, fun k h0 h2 => ?_⟩, Ends.one ([] : List Pl) rfl ⟨rfl, rfl⟩⟩
    · exact ⟨rfl, rfl, rfl, rfl, rfl⟩
    · simp at h0 h2; omega
noncomputable def fcSortFP : Fc Tryd.prog C0 where
  tg := .fn 53
  X := Bool × Nat × Nat × List Pl × Nat × Nat
  args := fun (o, b, q, l, n, c) => [.sl 0 0 n c, .fn (.func 25) [] []]
  mem := fun (o, b, q, l, n, c) => [⟨b, q, 2, true, some o, .rows 36 l⟩]
  pre := fun (o, b, q, l, n, c) => n ≤ l.length ∧ n < 4611686018427387904 ∧ (o = false → n = 0)
  alts := fun (o, b, q, l, n, c) => [⟨List Pl, fun l' => l'.length = n, fun _ => .tup [], fun l' => [⟨b, q, 2, true, some o, .rows 36 (l' ++ l.drop n)⟩]⟩]
  mat vs m := match vs with
    | [.sl a 0 n c, .fn (.func 25) _ _] => match nth m a with
      | ⟨b, q, _, _, g, .rows 36 l⟩ => some ((onOf g, b, q, l, n, c), [a])
      | _ => none
    | _ => none
  ok := fun (o, b, q, l, n, c) h => sortFP_ok o b q l n c h.1 h.2.1 h.2.2
end
end Go.Vx
