/-
  The symbolic evaluator: maps: look-ups, updates, deletions, lengths; new ones; iterators over them.
  Conditions: none.
-/
import Derived.Test.YtgbgfdmhmahonaaDoorVxM
import Derived.RangeFuncRecord
import Derived.Laws.StructEq
set_option linter.unusedVariables false
namespace Go.Vx
open Go

/-- An entry of a map. -/
abbrev Ent' (c d : Codec) := c.α × d.α × Nat
def entryOf (c d : Codec) (e : Ent' c d) : MapEntry := ⟨packV c e.1, packV d e.2.1, e.2.2⟩
/-- Where a key is found, and with what. -/
def mfix (c d : Codec) (q : c.α) : List (Ent' c d) → Nat → Option (Nat × d.α)
  | [], _ => none
  | e :: r, i => match c.beq q e.1 with
    | true => some (i, e.2.1)
    | false => mfix c d q r (i + 1)
def mhas (c d : Codec) (l : List (Ent' c d)) (q : c.α) : Bool := (mfix c d q l 0).isSome
def mget (c d : Codec) (l : List (Ent' c d)) (q : c.α) : d.α := ((mfix c d q l 0).map (·.2)).getD d.dflt
def mputGo (c d : Codec) (q : c.α) (x : d.α) (clk : Nat) : List (Ent' c d) → List (Ent' c d)
  | [] => [(q, x, clk)]
  | e :: r => match c.beq q e.1 with
    | true => (q, x, e.2.2) :: r
    | false => e :: mputGo c d q x clk r
def mput (c d : Codec) (l : List (Ent' c d)) (q : c.α) (x : d.α) (clk : Nat) : List (Ent' c d) := mputGo c d q x clk l
def mclk (c d : Codec) (l : List (Ent' c d)) (q : c.α) (clk : Nat) : Nat := if mhas c d l q then clk else clk + 1
def mdel (c d : Codec) (l : List (Ent' c d)) (q : c.α) : List (Ent' c d) := match mfix c d q l 0 with
  | some (i, _) => l.eraseIdx i
  | none => l

def mstamp (c d : Codec) (l : List (Ent' c d)) (q : c.α) (clk : Nat) : Nat := match mfix c d q l 0 with
  | some (i, _) => ((l[i]?).map (·.2.2)).getD 0
  | none => clk
def mset (c d : Codec) (s : Nat) (x : d.α) : List (Ent' c d) → List (Ent' c d)
  | [] => []
  | e :: r => match Nat.beq e.2.2 s with
    | true => (e.1, x, e.2.2) :: r
    | false => e :: mset c d s x r
def mhasS (c d : Codec) (l : List (Ent' c d)) (s : Nat) : Bool := l.any fun e => Nat.beq e.2.2 s
/-- The entry of that stamp. -/
def mat (c d : Codec) (s : Nat) : List (Ent' c d) → Ent' c d
  | [] => (c.dflt, d.dflt, 0)
  | e :: r => match Nat.beq e.2.2 s with
    | true => e
    | false => mat c d s r
def lastS (l : List Nat) : Nat := l.getLast?.getD 0

/-- A codec's keys are told apart as the model does. -/
structure KeyOK (P : Program) (t : TypeId) (c : Codec) : Prop where
  chk : ∀ (b : Bool) (x : c.α) (w : World), (Instr.checkKey b 10000 t (packV c x)).run P w = .ok () w
  find : ∀ (d : Codec) (l : List (Ent' c d)) (q : c.α) (w : World), (Instr.findKey t (packV c q) (l.map (entryOf c d))).run P w = .ok ((mfix c d q l 0).map fun p => (p.1, packV d p.2)) w
  bits : ∀ x y, c.beq x y = true → Instr.sameBits 10000 (packV c y) (packV c x) = true
/-- '==' of a codec's things. -/
structure EqOK (P : Program) (t : TypeId) (c : Codec) : Prop where
  eq : ∀ (x y : c.α) (w : World), (Op.equal t (packV c x) (packV c y)).run P w = .ok (c.beq x y) w
  guard : P.eqGuardType P.depth t = false
/-- The zero value of a type is the codec's own. -/
structure ZeroIs (P : Program) (t : TypeId) (c : Codec) : Prop where
  z : ∀ w : World, (zeroValue t).run P w = .ok (packV c c.dflt) w

/-- A value read as one of a codec's things. -/
def decV (c : Codec) (v : SV) : Option c.α := match c.agg, v with
  | true, .agg vs => match Nat.beq vs.length c.sz with
    | true => updParts c c.dflt 0 vs
    | false => none
  | true, _ => none
  | false, v => match Nat.beq c.sz 1, v.cell with
    | true, true => c.upd c.dflt 0 v
    | _, _ => none
def encV (c : Codec) (x : c.α) : SV := match c.agg with
  | true => .agg (c.enc x)
  | false => (c.enc x).getD 0 .undef

theorem encV_va (c : Codec) (x : c.α) (ad : Nat → Ad) : (encV c x).va ad = packV c x := by
  unfold encV packV
  have hf := c.flat x ad noAd
  cases c.agg with
  | true => simp only [SV.va, SV.vas_eq]; rw [hf]
  | false =>
    have := congrArg (fun l => l[0]?) hf
    simp only [List.getElem?_map] at this
    simp only [List.getD_eq_getElem?_getD]
    cases h : (c.enc x)[0]? with
    | none => rfl
    | some v => rw [h] at this; simpa using this

theorem updParts'_vas (c : Codec) (ad : Nat → Ad) : ∀ (vs : List SV) (x y : c.α) (f : Nat), updParts' c x f vs = some y → f + vs.length ≤ c.sz →
    (c.enc y).map (SV.va ad) = ((c.enc x).map (SV.va ad)).take f ++ vs.map (SV.va ad) ++ ((c.enc x).map (SV.va ad)).drop (f + vs.length)
  | [], x, y, f, h, _ => by
    simp only [updParts', Option.some.injEq] at h; subst h
    simp
  | v :: vs, x, y, f, h, hl => by
    simp only [updParts'] at h
    split at h
    · rename_i z hz
      simp only [List.length_cons] at hl
      have ih := updParts'_vas c ad vs z y (f + 1) h (by omega)
      have hu := c.upd_ok ad x f v z hz
      have hlen : ((c.enc x).map (SV.va ad)).length = c.sz := by simp [c.len]
      rw [ih, hu]
      generalize (c.enc x).map (SV.va ad) = L at hlen
      have hf : f < L.length := by omega
      have hft : (L.take f).length = f := by rw [List.length_take]; omega
      rw [List.set_eq_take_append_cons_drop, if_pos hf]
      have h1 : (L.take f ++ SV.va ad v :: L.drop (f + 1)).take (f + 1) = L.take f ++ [SV.va ad v] := by
        rw [List.take_append, hft, List.take_of_length_le (by omega), show f + 1 - f = 1 by omega]; rfl
      have h2 : (L.take f ++ SV.va ad v :: L.drop (f + 1)).drop (f + 1 + vs.length) = L.drop (f + (v :: vs).length) := by
        rw [List.drop_append, hft, List.drop_of_length_le (by omega), show f + 1 + vs.length - f = vs.length + 1 by omega]
        simp only [List.nil_append, List.drop_succ_cons, List.drop_drop, List.length_cons]
        congr 1; omega
      rw [h1, h2]
      simp
    · cases h
theorem updParts_vas (c : Codec) (ad : Nat → Ad) (vs : List SV) (x y : c.α) (h : updParts c x 0 vs = some y) (hl : vs.length ≤ c.sz) :
    (c.enc y).map (SV.va ad) = vs.map (SV.va ad) ++ ((c.enc x).map (SV.va ad)).drop vs.length := by
  simp only [updParts] at h
  split at h
  · rename_i y' hw
    simp only [Option.some.injEq] at h; subst h
    have e := c.whole_ok ad _ _ hw
    have hl' := congrArg List.length e
    simp only [List.length_map, c.len] at hl'
    rw [e, List.drop_of_length_le (by simp [c.len, hl']), List.append_nil]
  · have := updParts'_vas c ad vs x y 0 h (by omega)
    simpa using this
theorem decV_ok {c : Codec} {v : SV} {x : c.α} (h : decV c v = some x) (ad : Nat → Ad) : packV c x = v.va ad := by
  unfold decV at h
  unfold packV
  split at h
  · rename_i vs ha
    split at h
    · rename_i hl
      have hl := Nat.eq_of_beq_eq_true hl
      rw [ha]
      have := updParts_vas c ad vs _ _ h (by omega)
      rw [List.drop_of_length_le (by simp [c.len, hl])] at this
      simp only [SV.va, SV.vas_eq]
      rw [c.flat x noAd ad, this, List.append_nil]
    · cases h
  · cases h
  · rename_i ha
    split at h
    · rename_i hs hc
      have hs := Nat.eq_of_beq_eq_true hs
      rw [ha]
      have hu := c.upd_ok ad _ _ _ _ h
      have hlen := c.len c.dflt
      have e := c.flat x noAd ad
      rw [hu] at e
      have h0 := congrArg (fun l => l[0]?) e
      simp only [List.getElem?_map] at h0
      rw [List.getElem?_set_self (by simp [hlen, hs])] at h0
      cases hx : (c.enc x)[0]? with
      | none => rw [hx] at h0; cases h0
      | some u => rw [hx] at h0; simpa [List.getD_eq_getElem?_getD, hx] using h0
    · cases h

/-! The model's own steps. -/
section
variable {P : Program} {w : World} {c d : Codec}
theorem obj_toList (l : List (Ent' c d)) : (l.map fun e => (⟨packV c e.1, packV d e.2.1, e.2.2⟩ : MapEntry)) = l.map (entryOf c d) := rfl
theorem mfix_lt {q : c.α} : ∀ {l : List (Ent' c d)} {i k : Nat} {x : d.α}, mfix c d q l i = some (k, x) → i ≤ k ∧ k < i + l.length ∧ ∃ e, l[k - i]? = some e ∧ c.beq q e.1 = true ∧ e.2.1 = x
  | [], _, _, _, h => by cases h
  | e :: r, i, k, x, h => by
    simp only [mfix] at h
    split at h
    · rename_i hb
      simp only [Option.some.injEq, Prod.mk.injEq] at h
      obtain ⟨rfl, rfl⟩ := h
      exact ⟨Nat.le_refl _, by simp, e, by simp, hb, rfl⟩
    · obtain ⟨h1, h2, e', h3, h4⟩ := mfix_lt h
      refine ⟨by omega, by simp only [List.length_cons]; omega, e', ?_, h4⟩
      rw [show k - i = (k - (i + 1)) + 1 by omega]; simpa using h3

theorem run_obj {b : Nat} {es : Array MapEntry} {clk : Nat} (hb : w.heap[b]? = some (.map es clk)) : (getObj b).run P w = .ok (.map es clk) w := by simp [getObj, Sem.run, hb]
theorem run_iter {r : Nat} {mb : Option Nat} {a z : Nat} {sn : Array Nat} (hr : w.heap[r]? = some (.mapIter mb a sn z)) : (getObj r).run P w = .ok (.mapIter mb a sn z) w := by simp [getObj, Sem.run, hr]
theorem run_put {b : Nat} {es : Array MapEntry} {clk : Nat} (o' : Obj) (hb : w.heap[b]? = some (.map es clk)) : (setObj b o').run P w = .ok () (w.putObj b o') := by simp [setObj, Sem.run, hb, World.putObj]
theorem run_lookup {xt kt et : TypeId} {b : Nat} (ht : P.underlying xt = some (.map kt et)) (hk : KeyOK P kt c) (hz : ZeroIs P et d) {l : List (Ent' c d)} {clk : Nat} (hb : w.heap[b]? = some (.map (l.map (entryOf c d)).toArray clk)) (q : c.α) (ok : Bool) :
    (Instr.lookup xt (.map (some b)) (packV c q) ok).run P w = .ok (if ok then .tuple #[packV d (mget c d l q), .bool (mhas c d l q)] else packV d (mget c d l q)) w := by
  have hf := hk.find d l q w
  have hc := hk.chk (l.map (entryOf c d)).toArray.isEmpty q w
  unfold mget mhas
  cases hm : mfix c d q l 0 with
  | none =>
    rw [hm] at hf
    cases ok <;> simp_all [Instr.lookup, run_underlying' ht, run_obj hb, hz.z w]
  | some p =>
    obtain ⟨i, x⟩ := p
    rw [hm] at hf
    cases ok <;> simp_all [Instr.lookup, run_underlying' ht, run_obj hb, hz.z w]
theorem run_maplen {t : TypeId} {kt et ty : TypeId} {b : Nat} (ht : P.underlying t = some (.map kt et)) {l : List (Ent' c d)} {clk : Nat} (hb : w.heap[b]? = some (.map (l.map (entryOf c d)).toArray clk)) :
    (Builtin.len_ #[t] ty #[.map (some b)]).run P w = .ok (.int .i64 l.length) w := by
  simp [Builtin.len_, run_underlying' ht, run_obj hb, goInt]
theorem mput_some {q : c.α} {x : d.α} {clk : Nat} : ∀ {l : List (Ent' c d)} {i k : Nat} {y : d.α}, mfix c d q l i = some (k, y) →
    (l.map (entryOf c d)).modify (k - i) (fun e => { e with key := packV c q, val := packV d x }) = (mputGo c d q x clk l).map (entryOf c d)
  | [], _, _, _, h => by cases h
  | e :: r, i, k, y, h => by
    simp only [mfix] at h
    split at h
    · rename_i hb
      simp only [Option.some.injEq, Prod.mk.injEq] at h
      obtain ⟨rfl, rfl⟩ := h
      simp [mputGo, hb, entryOf]
    · rename_i hb
      obtain ⟨h1, _⟩ := mfix_lt h
      rw [show k - i = (k - (i + 1)) + 1 by omega]
      simp only [List.map_cons, List.modify_succ_cons, mputGo, hb]
      rw [mput_some h]
theorem mput_none {q : c.α} {x : d.α} {clk : Nat} : ∀ {l : List (Ent' c d)} {i : Nat}, mfix c d q l i = none → mputGo c d q x clk l = l ++ [(q, x, clk)]
  | [], _, _ => rfl
  | e :: r, i, h => by
    simp only [mfix] at h
    split at h
    · cases h
    · rename_i hb
      simp only [mputGo, hb]
      rw [mput_none h]; rfl
theorem run_mapPut {xt kt et : TypeId} {b : Nat} (ht : P.underlying xt = some (.map kt et)) (hk : KeyOK P kt c) {l : List (Ent' c d)} {clk : Nat} (hb : w.heap[b]? = some (.map (l.map (entryOf c d)).toArray clk)) (q : c.α) (x : d.α) :
    (Instr.mapUpdate xt (.map (some b)) (packV c q) (packV d x)).run P w = .ok () (w.putObj b (.map ((mput c d l q x clk).map (entryOf c d)).toArray (mclk c d l q clk))) := by
  have hf := hk.find d l q w
  have hc := hk.chk false q w
  unfold mclk mhas mput
  cases hm : mfix c d q l 0 with
  | none =>
    rw [hm] at hf
    rw [mput_none hm]
    simp_all [Instr.mapUpdate, run_underlying' ht, run_obj hb, run_put _ hb, entryOf]
  | some p =>
    obtain ⟨i, y⟩ := p
    rw [hm] at hf
    obtain ⟨_, h2, e, h3, h4, h5⟩ := mfix_lt hm
    simp only [Nat.sub_zero, Nat.zero_add] at h2 h3
    have hp := mput_some (x := x) (clk := clk) hm
    simp only [Nat.sub_zero] at hp
    have hs : (Instr.keyThatStays (packV c e.1) (packV c q)).run P w = .ok (packV c q) w := by simp [Instr.keyThatStays, hk.bits q e.1 h4]
    have ha : (l.map (entryOf c d)).toArray.modify i (fun e => { e with key := packV c q, val := packV d x }) = ((mputGo c d q x clk l).map (entryOf c d)).toArray := by
      rw [← hp]; simp
    have hg : (((l.map (entryOf c d)).toArray[i]?).map (·.key)).getD (packV c q) = packV c e.1 := by simp [h3, entryOf]
    simp only [Instr.mapUpdate]
    simp_all [run_underlying' ht, run_obj hb, run_put _ hb]
theorem eraseIdx_map' {α β : Type} (f : α → β) : ∀ (l : List α) (i : Nat), (l.map f).eraseIdx i = (l.eraseIdx i).map f
  | [], _ => rfl
  | _ :: _, 0 => rfl
  | _ :: r, i + 1 => by simp [eraseIdx_map' f r i]
theorem run_mapDel {t kt et k ty : TypeId} {b : Nat} (ht : P.underlying t = some (.map kt et)) (hk : KeyOK P kt c) {l : List (Ent' c d)} {clk : Nat} (hb : w.heap[b]? = some (.map (l.map (entryOf c d)).toArray clk)) (q : c.α) :
    (Builtin.delete_ #[t, k] ty #[.map (some b), packV c q]).run P w = .ok (.tuple #[]) (w.putObj b (.map ((mdel c d l q).map (entryOf c d)).toArray clk)) := by
  have hf := hk.find d l q w
  have hc := hk.chk (l.map (entryOf c d)).toArray.isEmpty q w
  unfold mdel
  cases hm : mfix c d q l 0 with
  | none =>
    rw [hm] at hf
    simp_all [Builtin.delete_, run_underlying' ht, run_obj hb, run_put _ hb]
  | some p =>
    obtain ⟨i, y⟩ := p
    rw [hm] at hf
    obtain ⟨_, h2, _⟩ := mfix_lt hm
    have ha : (l.map (entryOf c d)).toArray.eraseIdxIfInBounds i = ((l.eraseIdx i).map (entryOf c d)).toArray := by
      simp [Array.eraseIdxIfInBounds, show i < l.length by omega, eraseIdx_map']
    simp_all [Builtin.delete_, run_underlying' ht, run_obj hb, run_put _ hb]
theorem ment_some {q : c.α} {clk : Nat} : ∀ {l : List (Ent' c d)} {i k : Nat} {y : d.α}, mfix c d q l i = some (k, y) →
    (l.map (entryOf c d)).modify (k - i) (fun e => { e with key := packV c q }) = (mputGo c d q y clk l).map (entryOf c d)
  | [], _, _, _, h => by cases h
  | e :: r, i, k, y, h => by
    simp only [mfix] at h
    split at h
    · rename_i hb
      simp only [Option.some.injEq, Prod.mk.injEq] at h
      obtain ⟨rfl, rfl⟩ := h
      simp [mputGo, hb, entryOf]
    · rename_i hb
      obtain ⟨h1, _⟩ := mfix_lt h
      rw [show k - i = (k - (i + 1)) + 1 by omega]
      simp only [List.map_cons, List.modify_succ_cons, mputGo, hb]
      rw [ment_some h]
theorem run_mapEntry {xt kt et : TypeId} {b : Nat} (ht : P.underlying xt = some (.map kt et)) (hk : KeyOK P kt c) (hz : ZeroIs P et d) {l : List (Ent' c d)} {clk : Nat} (hb : w.heap[b]? = some (.map (l.map (entryOf c d)).toArray clk)) (q : c.α) :
    (Instr.mapEntry xt (.map (some b)) (packV c q)).run P w = .ok (.tuple #[packV d (mget c d l q), .int .i64 (mstamp c d l q clk)]) (w.putObj b (.map ((mput c d l q (mget c d l q) clk).map (entryOf c d)).toArray (mclk c d l q clk))) := by
  have hf := hk.find d l q w
  have hc := hk.chk false q w
  unfold mclk mhas mput mget mstamp
  cases hm : mfix c d q l 0 with
  | none =>
    rw [hm] at hf
    rw [mput_none hm]
    simp_all [Instr.mapEntry, run_underlying' ht, run_obj hb, run_put _ hb, entryOf, hz.z w, goInt]
  | some p =>
    obtain ⟨i, y⟩ := p
    rw [hm] at hf
    obtain ⟨_, h2, e, h3, h4, h5⟩ := mfix_lt hm
    simp only [Nat.sub_zero, Nat.zero_add] at h2 h3
    have hp := ment_some (clk := clk) hm
    simp only [Nat.sub_zero] at hp
    have hs : (Instr.keyThatStays (packV c e.1) (packV c q)).run P w = .ok (packV c q) w := by simp [Instr.keyThatStays, hk.bits q e.1 h4]
    have ha : (l.map (entryOf c d)).toArray.modify i (fun e => { e with key := packV c q }) = ((mputGo c d q y clk l).map (entryOf c d)).toArray := by
      rw [← hp]; simp
    have hg : (((l.map (entryOf c d)).toArray[i]?).map (·.key)).getD (packV c q) = packV c e.1 := by simp [h3, entryOf]
    have hg2 : (((l.map (entryOf c d)).toArray[i]?).map (·.born)).getD 0 = e.2.2 := by simp [h3, entryOf]
    simp only [Instr.mapEntry]
    simp_all [run_underlying' ht, run_obj hb, run_put _ hb, goInt]
theorem mset_find {s : Nat} {x : d.α} : ∀ {l : List (Ent' c d)}, mhasS c d l s = true → ∃ i, (l.map (entryOf c d)).findIdx? (fun e => (e.born : Int) == (s : Int)) = some i ∧ i < l.length ∧
    (l.map (entryOf c d)).modify i (fun e => { e with val := packV d x }) = (mset c d s x l).map (entryOf c d)
  | [], h => by cases h
  | e :: r, h => by
    cases hb : Nat.beq e.2.2 s with
    | true =>
      have := Nat.eq_of_beq_eq_true hb
      refine ⟨0, by simp [List.findIdx?_cons, entryOf, this], by simp, ?_⟩
      simp [mset, hb, entryOf]
    | false =>
      have hne := Nat.ne_of_beq_eq_false hb
      have h' : mhasS c d r s = true := by simpa [mhasS, hne] using h
      obtain ⟨i, h1, h2, h3⟩ := mset_find (x := x) h'
      refine ⟨i + 1, ?_, by simp; omega, ?_⟩
      · have hn : ((e.2.2 : Int) == (s : Int)) = false := by simp; omega
        have h1' := h1
        simp only [List.map_cons, List.findIdx?_cons]
        rw [show ((entryOf c d e).born : Int) = (e.2.2 : Int) from rfl, hn, h1']
        rfl
      · simp only [List.map_cons, List.modify_succ_cons, mset, hb]
        rw [h3]
theorem run_entryStore {t : TypeId} {b : Nat} {l : List (Ent' c d)} {clk : Nat} (hb : w.heap[b]? = some (.map (l.map (entryOf c d)).toArray clk)) {n : Int} (hn : 0 ≤ n) (hs : mhasS c d l n.toNat = true) (k : IntKind) (x : d.α) :
    (Instr.entryStore t (.map (some b)) (.int k n) (packV d x)).run P w = .ok () (w.putObj b (.map ((mset c d n.toNat x l).map (entryOf c d)).toArray clk)) := by
  obtain ⟨i, h1, h2, h3⟩ := mset_find (x := x) hs
  rw [Int.toNat_of_nonneg hn] at h1
  have h1' : ((l.map (entryOf c d)).toArray).findIdx? (fun e => (e.born : Int) == n) = some i := by
    rw [List.findIdx?_toArray]; exact h1
  have ha : (l.map (entryOf c d)).toArray.modify i (fun e => { e with val := packV d x }) = ((mset c d n.toNat x l).map (entryOf c d)).toArray := by
    rw [← h3]; simp
  simp only [Instr.entryStore, Sem.run_bind, run_obj hb, Result.andThen_ok, asInt, asIntOf, Sem.run_pure, h1', ha, run_put _ hb]
theorem mat_find {s : Nat} : ∀ {l : List (Ent' c d)}, mhasS c d l s = true → (l.map (entryOf c d)).find? (fun e => e.born == s) = some (entryOf c d (mat c d s l))
  | [], h => by cases h
  | e :: r, h => by
    cases hb : Nat.beq e.2.2 s with
    | true =>
      have := Nat.eq_of_beq_eq_true hb
      simp [mat, hb, entryOf, this]
    | false =>
      have hne := Nat.ne_of_beq_eq_false hb
      have h' : mhasS c d r s = true := by simpa [mhasS, hne] using h
      have hn : (e.2.2 == s) = false := by simp [hne]
      have ih := mat_find h'
      simp only [List.map_cons, mat, hb]
      simp only [List.find?_cons, entryOf, hn]
      simp only [entryOf] at ih
      exact ih
theorem run_entry {r b : Nat} {l : List (Ent' c d)} {clk : Nat} {seen : List Nat} (hr : w.heap[r]? = some (.mapIter (some b) clk seen.toArray clk)) (hb : w.heap[b]? = some (.map (l.map (entryOf c d)).toArray clk)) (hne : seen ≠ []) (hs : mhasS c d l (lastS seen) = true) :
    (Instr.entry (.pointer (some ⟨r, 0, none⟩))).run P w = .ok (.tuple #[packV c (mat c d (lastS seen) l).1, packV d (mat c d (lastS seen) l).2.1]) w := by
  have hl : seen.toArray.back? = some (lastS seen) := by
    unfold lastS
    cases h : seen.getLast? with
    | none => exact absurd (List.getLast?_eq_none_iff.1 h) hne
    | some a => simp [h]
  have hf : ((l.map (entryOf c d)).toArray).find? (fun e => e.born == lastS seen) = some (entryOf c d (mat c d (lastS seen) l)) := by
    rw [List.find?_toArray]; exact mat_find hs
  simp only [Instr.entry, Sem.run_bind, run_iter hr, Result.andThen_ok, run_obj hb, hl, hf, bne_self_eq_false, Bool.false_eq_true, if_false, Sem.run_pure, entryOf]
theorem run_makeMap (t : TypeId) : (Instr.makeMap t none).run P w = .ok (.map (some w.heap.size)) (w.alloc (.map #[] 0)) := by
  simp [Instr.makeMap, newObj, Sem.run]
theorem run_makeMap' {t kt et : TypeId} (ht : P.underlying t = some (.map kt et)) (k : IntKind) (n : Int) : (Instr.makeMap t (some (.int k n))).run P w = .ok (.map (some w.heap.size)) (w.alloc (.map #[] 0)) := by
  simp [Instr.makeMap, newObj, Sem.run, run_underlying' ht, asInt, asIntOf]
theorem run_range {xt kt et : TypeId} {b : Nat} (ht : P.underlying xt = some (.map kt et)) {es : Array MapEntry} {clk : Nat} (hb : w.heap[b]? = some (.map es clk)) :
    (Instr.range xt (.map (some b))).run P w = .ok (.pointer (some ⟨w.heap.size, 0, none⟩)) (w.alloc (.mapIter (some b) clk #[] clk)) := by
  simp [Instr.range, run_underlying' ht, run_obj hb, newObj, Sem.run]
theorem run_choose {n : Nat} (hn : 0 < n) : ∃ i k, i < n ∧ (choose (.mapNext n)).run P w = .ok i { w with drawn := w.drawn + k } := by
  by_cases h : n ≤ 1
  · exact ⟨0, 0, hn, by simp [choose, Sem.run, Question.forced, h]⟩
  · exact ⟨w.tape w.drawn (.mapNext n) % n, 1, Nat.mod_lt _ hn, by simp [choose, Sem.run, Question.forced, Question.cut, h]⟩
theorem run_putIter {r : Nat} {mb : Option Nat} {a z : Nat} {sn : Array Nat} (o' : Obj) (hr : w.heap[r]? = some (.mapIter mb a sn z)) : (setObj r o').run P w = .ok () (w.putObj r o') := by simp [setObj, Sem.run, hr, World.putObj]
/-- What is left of a map, of those that were met. -/
def leftOf (c d : Codec) (l : List (Ent' c d)) (seen : List Nat) : List (Ent' c d) := l.filter fun e => !(seen.contains e.2.2)
theorem run_next {r b : Nat} {ty : TypeId} {l : List (Ent' c d)} {clk : Nat} {seen : List Nat} (hr : w.heap[r]? = some (.mapIter (some b) clk seen.toArray clk)) (hb : w.heap[b]? = some (.map (l.map (entryOf c d)).toArray clk)) (hold : ∀ e ∈ l, e.2.2 < clk) :
    ∃ k, ((∀ e ∈ l, e.2.2 ∈ seen) ∧ (Instr.next (.pointer (some ⟨r, 0, none⟩)) false ty).run P w = .ok (.tuple #[.bool false]) { w with drawn := w.drawn + k }) ∨
      ∃ e ∈ l, e.2.2 ∉ seen ∧ (Instr.next (.pointer (some ⟨r, 0, none⟩)) false ty).run P w = .ok (.tuple #[.bool true, packV c e.1, packV d e.2.1]) (({ w with drawn := w.drawn + k } : World).putObj r (.mapIter (some b) clk (seen ++ [e.2.2]).toArray clk)) := by
  have h1 : (!seen.toArray.isEmpty && !((l.map (entryOf c d)).toArray).isEmpty && ((l.map (entryOf c d)).toArray).all fun e => decide (e.born ≥ clk)) = false := by
    cases l with
    | nil => simp
    | cons e l =>
      have := hold e (by simp)
      have hn : decide ((entryOf c d e).born ≥ clk) = false := decide_eq_false (by show ¬ (e.2.2 ≥ clk); omega)
      simp only [List.map_cons, List.all_toArray, List.all_cons, hn, Bool.false_and, Bool.and_false]
  have h2 : ((l.map (entryOf c d)).toArray).filter (fun e => !seen.toArray.contains e.born) = ((leftOf c d l seen).map (entryOf c d)).toArray := by
    apply Array.ext'
    simp only [Array.toList_filter]
    rw [List.filter_map]
    unfold leftOf
    congr 1
    apply List.filter_congr
    intro e _
    simp [entryOf]
    try exact decide_eq_decide.2 Iff.rfl
  have h3 : (((leftOf c d l seen).map (entryOf c d)).toArray).filter (fun e => decide (e.born < clk)) = ((leftOf c d l seen).map (entryOf c d)).toArray := by
    apply Array.ext'
    simp only [Array.toList_filter]
    rw [List.filter_eq_self]
    intro e he
    obtain ⟨x, hx, rfl⟩ := List.mem_map.1 he
    exact decide_eq_true (hold x (List.mem_filter.1 hx).1)
  have h4 : (((leftOf c d l seen).map (entryOf c d)).toArray).filter (fun e => decide (e.born ≥ clk)) = #[] := by
    apply Array.ext'
    simp only [Array.toList_filter]
    have : ((leftOf c d l seen).map (entryOf c d)).filter (fun e => decide (e.born ≥ clk)) = [] := by
      rw [List.filter_eq_nil_iff]
      intro e he
      obtain ⟨x, hx, rfl⟩ := List.mem_map.1 he
      have := hold x (List.mem_filter.1 hx).1
      have : ¬ ((entryOf c d x).born ≥ clk) := by show ¬ (x.2.2 ≥ clk); omega
      simpa using this
    rw [this]
  by_cases hL : leftOf c d l seen = []
  · refine ⟨0, .inl ⟨fun e he => ?_, ?_⟩⟩
    · have : e ∉ leftOf c d l seen := by rw [hL]; exact List.not_mem_nil
      unfold leftOf at this
      rw [List.mem_filter] at this
      simpa [he] using this
    · have hc : (choose (.mapNext 1)).run P w = .ok 0 w := by simp [choose, Sem.run, Question.forced]
      rw [hL] at h2 h3 h4
      simp only [List.map_nil] at h2 h3 h4
      simp only [Instr.next, Sem.run_bind, run_iter hr, Result.andThen_ok, run_obj hb, h1, h2, Bool.false_eq_true, if_false]
      simp [Question.forced]
  · have hpos : 0 < (leftOf c d l seen).length := List.length_pos_iff.2 hL
    obtain ⟨i, k, hi, hc⟩ := run_choose (P := P) (w := w) hpos
    have hmem := List.mem_filter.1 (List.getElem_mem (l := leftOf c d l seen) hi)
    refine ⟨k, .inr ⟨(leftOf c d l seen)[i], hmem.1, by simpa using hmem.2, ?_⟩⟩
    have hr' : ({ w with drawn := w.drawn + k } : World).heap[r]? = some (.mapIter (some b) clk seen.toArray clk) := hr
    have hne : ((leftOf c d l seen).map (entryOf c d)).toArray.isEmpty = false := by
      simpa using hL
    have hget : (((leftOf c d l seen).map (entryOf c d)).toArray.map some)[i]? = some (some (entryOf c d (leftOf c d l seen)[i])) := by
      simp [hi]
    have hsz : (((leftOf c d l seen).map (entryOf c d)).toArray.map some).size = (leftOf c d l seen).length := by simp
    simp only [Instr.next, Sem.run_bind, run_iter hr, Result.andThen_ok, run_obj hb, h1, h2, h3, h4, hne, Bool.false_eq_true, if_false]
    rw [show (#[] ++ Array.map some (((leftOf c d l seen).map (entryOf c d)).toArray ++ #[])) = (((leftOf c d l seen).map (entryOf c d)).toArray).map some by simp, hsz, hc]
    simp only [Result.andThen_ok, hget, Sem.run_bind, run_putIter _ hr', entryOf]
    simp
end

variable {C : Nat → Codec}
/-- What is read of maps. -/
def mapQ (P : Program) (tm : Tm) (m : List (Ck C)) (al : List (Nat × Bool)) (o : Op) : Ans :=
  match o with
  | .lookup t x k ok => match P.underlying t, ev tm m al x, ev tm m al k with
    | some (.map kt vt), some (.mp c), some kv => match (nth m c).cells with
      | .mp tk tv l _ => match Nat.beq kt tk && Nat.beq vt tv, decV (C tk) kv with
        | true, some q => some ([KeyOK P tk (C tk), ZeroIs P tv (C tv)], match ok with
          | true => .tup [encV (C tv) (mget (C tk) (C tv) l q), .bool (.tm (mhas (C tk) (C tv) l q))]
          | false => encV (C tv) (mget (C tk) (C tv) l q))
        | _, _ => none
      | _ => none
    | _, _, _ => none
  | .call c => match c.callee with
    | .builtin .len => match c.argTypes.toList, c.args.toList with
      | [t], [x] => match P.underlying t, ev tm m al x with
        | some (.map _ _), some (.mp c) => match (nth m c).cells with
          | .mp _ _ l _ => some ([], .int .i64 (l.length : Int))
          | _ => none
        | _, _ => none
      | _, _ => none
    | _ => none
  | .entry it => match ev tm m al it with
    | some (.ptr ci 0 0) => match (nth m ci).cells with
      | .it mc seen clk => match (nth m mc).cells with
        | .mp tk tv l clk' => some ([(nth m ci).base = 0 ∧ clk' = clk ∧ seen ≠ [] ∧ mhasS (C tk) (C tv) l (lastS seen) = true],
            .tup [encV (C tk) (mat (C tk) (C tv) (lastS seen) l).1, encV (C tv) (mat (C tk) (C tv) (lastS seen) l).2.1])
        | _ => none
      | _ => none
    | _ => none
  | .binOp op t x y _ => match ev tm m al x, ev tm m al y with
    | some (.agg as), some (.agg bs) => match decV (C t) (.agg as), decV (C t) (.agg bs) with
      | some a, some b => match op with
        | .eql => some ([EqOK P t (C t)], .bool (.tm ((C t).beq a b)))
        | .neq => some ([EqOK P t (C t)], .bool (.tm (!(C t).beq a b)))
        | _ => none
      | _, _ => none
    | _, _ => none
  | _ => none

def isInt : Option SV → Bool
  | some (.int _ _) => true
  | _ => false
/-- What turns maps, and their iterators. -/
def mapE (P : Program) (tm : Tm) (m : List (Ck C)) (al : List (Nat × Bool)) (o : Op) (K : SV → List (Ck C) → Tr) : Tr :=
  match o with
  | .makeMap t r => match P.underlying t, (match r with | none => true | some x => isInt (ev tm m al x)), memLt m.length m && tmLt m.length tm with
    | some (.map kt vt), true, true => .all fun b => K (.mp m.length) (m ++ [⟨b, 0, 0, true, none, .mp kt vt [] 0⟩])
    | _, _, _ => .no
  | .mapUpdate t x k v => match P.underlying t, ev tm m al x, ev tm m al k, ev tm m al v with
    | some (.map kt vt), some (.mp c), some kv, some vv => match (nth m c).cells with
      | .mp tk tv l clk => match (nth m c).wr && (Nat.beq kt tk && Nat.beq vt tv), decV (C tk) kv, decV (C tv) vv with
        | true, some q, some y => .and (.lf (KeyOK P tk (C tk))) (K .undef (setCk m c (.mp tk tv (mput (C tk) (C tv) l q y clk) (mclk (C tk) (C tv) l q clk))))
        | _, _, _ => .no
      | _ => .no
    | _, _, _, _ => .no
  | .mapEntry t x k => match P.underlying t, ev tm m al x, ev tm m al k with
    | some (.map kt vt), some (.mp c), some kv => match (nth m c).cells with
      | .mp tk tv l clk => match (nth m c).wr && (Nat.beq kt tk && Nat.beq vt tv), decV (C tk) kv with
        | true, some q => .and (.lf (KeyOK P tk (C tk) ∧ ZeroIs P tv (C tv))) (K (.tup [encV (C tv) (mget (C tk) (C tv) l q), .int .i64 (mstamp (C tk) (C tv) l q clk : Int)])
            (setCk m c (.mp tk tv (mput (C tk) (C tv) l q (mget (C tk) (C tv) l q) clk) (mclk (C tk) (C tv) l q clk))))
        | _, _ => .no
      | _ => .no
    | _, _, _ => .no
  | .entryStore _ x s v => match ev tm m al x, ev tm m al s, ev tm m al v with
    | some (.mp c), some (.int _ n), some vv => match (nth m c).cells with
      | .mp tk tv l clk => match (nth m c).wr, decV (C tv) vv with
        | true, some y => .and (.lf (0 ≤ n ∧ mhasS (C tk) (C tv) l n.toNat = true)) (K .undef (setCk m c (.mp tk tv (mset (C tk) (C tv) n.toNat y l) clk)))
        | _, _ => .no
      | _ => .no
    | _, _, _ => .no
  | .call c => match c.callee with
    | .builtin .delete => match c.argTypes.toList, c.args.toList with
      | [t, _], [x, k] => match P.underlying t, ev tm m al x, ev tm m al k with
        | some (.map kt vt), some (.mp c), some kv => match (nth m c).cells with
          | .mp tk tv l clk => match (nth m c).wr && (Nat.beq kt tk && Nat.beq vt tv), decV (C tk) kv with
            | true, some q => .and (.lf (KeyOK P tk (C tk))) (K (.tup []) (setCk m c (.mp tk tv (mdel (C tk) (C tv) l q) clk)))
            | _, _ => .no
          | _ => .no
        | _, _, _ => .no
      | _, _ => .no
    | _ => .no
  | .range t x => match P.underlying t, ev tm m al x with
    | some (.map _ _), some (.mp c) => match (nth m c).cells with
      | .mp _ _ _ clk => match memLt m.length m && tmLt m.length tm && Nat.blt c m.length with
        | true => .all fun b => K (.ptr m.length 0 0) (m ++ [⟨b, 0, 0, true, none, .it c [] clk⟩])
        | false => .no
      | _ => .no
    | _, _ => .no
  | .next it false => match ev tm m al it with
    | some (.ptr ci 0 0) => match (nth m ci).cells, (nth m ci).wr with
      | .it mc seen clk, true => match (nth m mc).cells with
        | .mp tk tv l clk' => .and (.lf ((nth m ci).base = 0 ∧ clk' = clk ∧ ∀ e ∈ l, e.2.2 < clk))
            (.and (.imp (∀ e ∈ l, e.2.2 ∈ seen) (K (.tup [.bool .f]) m))
              (.all fun e : Ent' (C tk) (C tv) => .imp (e ∈ l ∧ e.2.2 ∉ seen) (K (.tup [.bool .t, encV (C tk) e.1, encV (C tv) e.2.1]) (setCk m ci (.it mc (seen ++ [e.2.2]) clk)))))
        | _ => .no
      | _, _ => .no
    | _ => .no
  | _ => .no

theorem mp_heap {S : Sx} {w0 w : World} {m : List (Ck C)} (hm : MemOK S w0 w m) {c tk tv : Nat} {l : List (Ent' (C tk) (C tv))} {clk : Nat} (hc : (nth m c).cells = .mp tk tv l clk) :
    w.heap[(ads m c).block]? = some (.map (l.map (entryOf (C tk) (C tv))).toArray clk) := by
  have hl : (nth m c).live = true := by unfold Ck.live; rw [hc]
  have := hm.ok _ (nth_mem (lt_of_live hl))
  simp only [Ck.ok, hc] at this
  exact this

theorem mapQ_ok {P : Program} {S : Sx} {w0 w : World} {n : Nat} {tm : Tm} {m : List (Ck C)} {a : Act} (h : ActOK (ads m) n tm a) (hm : MemOK S w0 w m) {al : List (Nat × Bool)} (ha : AlOK tm al) {o : Oper} {ps : List Prop} {r : SV}
    (hl : mapQ P tm m al o.op = some (ps, r)) (hp : allOf ps) : (execOp a.eval o).run P w = .ok (.value (r.va (ads m))) w := by
  obtain ⟨dst, op, type, pos, after, guard⟩ := o
  simp only at hl
  cases op <;> simp only [mapQ] at hl <;> try contradiction
  case lookup t x k ok =>
    split at hl <;> try contradiction
    rename_i kt vt c kv ht hx hk
    split at hl <;> try contradiction
    rename_i tk tv l clk hc
    split at hl <;> try contradiction
    rename_i q hb hq
    simp only [Option.some.injEq, Prod.mk.injEq] at hl
    obtain ⟨rfl, rfl⟩ := hl
    obtain ⟨h1, h2, _⟩ := hp
    simp only [Bool.and_eq_true] at hb
    have e1 := Nat.eq_of_beq_eq_true hb.1
    have e2 := Nat.eq_of_beq_eq_true hb.2
    subst e1; subst e2
    have ex := ev_ok h hm.glob ha _ _ hx
    have ek := ev_ok h hm.glob ha _ _ hk
    have hr := run_lookup ht h1 h2 (mp_heap hm hc) q ok
    rw [← decV_ok hq (ads m)] at ek
    cases ok <;> simp [execOp, ex, ek, SV.va, SV.vas, hr, encV_va, SB.val]
  case call c =>
    obtain ⟨callee, args, argTypes⟩ := c
    simp only at hl
    split at hl <;> try contradiction
    split at hl <;> try contradiction
    rename_i t x hts hxs
    split at hl <;> try contradiction
    rename_i kt vt c ht hx
    split at hl <;> try contradiction
    rename_i tk tv l clk hc
    simp only [Option.some.injEq, Prod.mk.injEq] at hl
    obtain ⟨rfl, rfl⟩ := hl
    have ex := ev_ok h hm.glob ha _ _ hx
    have e1 : args = #[x] := by apply Array.ext'; simpa using hxs
    have e2 : argTypes = #[t] := by apply Array.ext'; simpa using hts
    subst e1; subst e2
    have hr := run_maplen (ty := type) ht (mp_heap hm hc)
    simp [execOp, resolve, invoke, builtin, ex, SV.va, hr]
  case entry it =>
    split at hl <;> try contradiction
    rename_i ci hit
    split at hl <;> try contradiction
    rename_i mc seen clk hic
    split at hl <;> try contradiction
    rename_i tk tv l clk' hmc
    simp only [Option.some.injEq, Prod.mk.injEq] at hl
    obtain ⟨rfl, rfl⟩ := hl
    obtain ⟨⟨hbase, hclk, hne, hs⟩, _⟩ := hp
    subst hclk
    have ei := ev_ok h hm.glob ha _ _ hit
    have hlv : (nth m ci).live = true := by unfold Ck.live; rw [hic]
    have hri := hm.ok _ (nth_mem (lt_of_live hlv))
    simp only [Ck.ok, hic] at hri
    have hr := run_entry (P := P) hri (mp_heap hm hmc) hne hs
    have ea : (ads m ci).at 0 0 = ⟨(nth m ci).block, 0, none⟩ := by simp [ads, Ck.ad, Ad.at, hbase]
    simp [execOp, ei, SV.va, SV.vas, ea, hr, encV_va]
  case binOp bo t x y yt =>
    split at hl <;> try contradiction
    rename_i as bs hx hy
    split at hl <;> try contradiction
    rename_i p q hp1 hq1
    have ex := ev_ok h hm.glob ha _ _ hx
    have ey := ev_ok h hm.glob ha _ _ hy
    have e1 := decV_ok hp1 (ads m)
    have e2 := decV_ok hq1 (ads m)
    have key : EqOK P t (C t) → (Op.equal t ((SV.agg as).va (ads m)) ((SV.agg bs).va (ads m))).run P w = .ok ((C t).beq p q) w := fun hk => by rw [← e1, ← e2]; exact hk.eq p q w
    cases bo <;> simp only at hl <;> try contradiction
    · simp only [Option.some.injEq, Prod.mk.injEq] at hl
      obtain ⟨rfl, rfl⟩ := hl
      obtain ⟨hk, _⟩ := hp
      have h1 := key hk
      simp only [SV.va] at h1 ex ey
      simp [execOp, ex, ey, SV.va, run_eqGuard_agg w _ t x y _ _ hk.guard, binOp, h1, SB.val]
    · simp only [Option.some.injEq, Prod.mk.injEq] at hl
      obtain ⟨rfl, rfl⟩ := hl
      obtain ⟨hk, _⟩ := hp
      have h1 := key hk
      simp only [SV.va] at h1 ex ey
      simp [execOp, ex, ey, SV.va, run_eqGuard_agg w _ t x y _ _ hk.guard, binOp, h1, SB.val]

theorem MemOK.drawn {S : Sx} {w0 w : World} {m : List (Ck C)} (h : MemOK S w0 w m) (k : Nat) : MemOK S w0 { w with drawn := w.drawn + k } m := by
  refine ⟨h.os, h.tape, h.output, h.size, h.keep, h.inS, fun c hc => ?_, h.wrok, h.apart, h.lt, h.glob, h.more.mono h.inS (fun _ _ _ => rfl) (fun c hc hl => .inl ⟨c, hc, hl, rfl⟩) h.size⟩
  exact Ck.ok_same (h.ok c hc) rfl
/-- An object of ours turns. -/
theorem MemOK.putO {S : Sx} {w0 w : World} {m : List (Ck C)} (h : MemOK S w0 w m) {c : Nat} (hw : (nth m c).wr = true) (hl : (nth m c).live = true) {o o' : Obj} (hb : w.heap[(nth m c).block]? = some o)
    (ho : ∀ (w : World) (a : Addr), w.heap[a.block]? = some o → w.frozen? a = false) (ho' : ∀ (w : World) (a : Addr), w.heap[a.block]? = some o' → w.frozen? a = false) (cs : Cells C) (hlive : ({ nth m c with cells := cs } : Ck C).live = true)
    (hok : Ck.ok (ads m) (w.putObj (nth m c).block o') { nth m c with cells := cs }) : MemOK S w0 (w.putObj (nth m c).block o') (setCk m c cs) := by
  have hlt := heap_size_of hb
  refine h.upd (w' := w.putObj (nth m c).block o') hw hl rfl rfl rfl (by simp [World.putObj]) (fun k hk => World.putObj_heap_other hk) (fun a => ?_) cs hlive hok
  by_cases e : a.block = (nth m c).block
  · rw [ho' _ a (by rw [e]; exact World.putObj_heap_same hlt), ho _ a (by rw [e]; exact hb)]
  · exact World.frozen?_of_block (World.putObj_heap_other e)
theorem fz_map {es : Array MapEntry} {k : Nat} (w : World) (a : Addr) (h : w.heap[a.block]? = some (.map es k)) : w.frozen? a = false := by simp [World.frozen?, h]
theorem fz_iter {b : Option Nat} {i k : Nat} {s : Array Nat} (w : World) (a : Addr) (h : w.heap[a.block]? = some (.mapIter b i s k)) : w.frozen? a = false := by simp [World.frozen?, h]

theorem mapE_ok {P : Program} {S : Sx} {w0 w : World} {n : Nat} {tm : Tm} {m : List (Ck C)} {a : Act} (h : ActOK (ads m) n tm a) (hm : MemOK S w0 w m) {al : List (Nat × Bool)} (ha : AlOK tm al) {o : Oper}
    {K : SV → List (Ck C) → Tr} (hl : mapE P tm m al o.op K) : Left P S w0 tm m w (execOp a.eval o) K := by
  obtain ⟨dst, op, type, pos, after, guard⟩ := o
  simp only at hl
  cases op <;> simp only [mapE] at hl <;> try (first | contradiction | exact False.elim hl)
  case makeMap t r =>
    split at hl <;> try (first | contradiction | exact False.elim hl)
    rename_i kt vt ht hr hc
    simp only [Bool.and_eq_true] at hc
    have hrun : (execOp a.eval ⟨dst, .makeMap t r, type, pos, after, guard⟩).run P w = .ok (.value (.map (some w.heap.size))) (w.alloc (.map #[] 0)) := by
      cases r with
      | none => simp [execOp, run_makeMap]
      | some x =>
        simp only at hr
        unfold isInt at hr
        split at hr
        · rename_i k i hx
          have ex := ev_ok h hm.glob ha _ _ hx
          simp [execOp, ex, SV.va, run_makeMap' ht]
        · cases hr
    have hok : Ck.ok (ads (m ++ [(⟨w.heap.size, 0, 0, true, none, .mp kt vt [] 0⟩ : Ck C)])) (w.alloc (.map #[] 0)) (⟨w.heap.size, 0, 0, true, none, .mp kt vt [] 0⟩ : Ck C) := heap_alloc_at w _
    refine ⟨_, _, _, .inl ?_, hm.newO hc.1 (.map #[] 0) fz_map 0 _ hok, hl w.heap.size, ads_append _ _, by simp, .inr hc.2⟩
    have : ads (m ++ [(⟨w.heap.size, 0, 0, true, none, .mp kt vt [] 0⟩ : Ck C)]) m.length = ⟨w.heap.size, 0, 0⟩ := ads_append_new _ _
    rw [hrun]; simp [SV.va, this]
  case mapUpdate t x k v =>
    split at hl <;> try (first | contradiction | exact False.elim hl)
    rename_i kt vt c kv vv ht hx hk hv
    split at hl <;> try (first | contradiction | exact False.elim hl)
    rename_i tk tv l clk hc
    split at hl <;> try (first | contradiction | exact False.elim hl)
    rename_i q y hb hq hy
    simp only [Bool.and_eq_true] at hb
    have e1 := Nat.eq_of_beq_eq_true hb.2.1
    have e2 := Nat.eq_of_beq_eq_true hb.2.2
    subst e1; subst e2
    obtain ⟨hK, hl⟩ := hl
    have ex := ev_ok h hm.glob ha _ _ hx
    have ek := ev_ok h hm.glob ha _ _ hk
    have ev' := ev_ok h hm.glob ha _ _ hv
    rw [← decV_ok hq (ads m)] at ek
    rw [← decV_ok hy (ads m)] at ev'
    have hlv : (nth m c).live = true := by unfold Ck.live; rw [hc]
    have hbl := mp_heap hm hc
    have hr := run_mapPut ht hK hbl q y
    have hlt := heap_size_of hbl
    refine ⟨_, _, .undef, .inr ⟨?_, rfl⟩, hm.putO hb.1 hlv hbl fz_map (o' := .map ((mput (C kt) (C vt) l q y clk).map (entryOf (C kt) (C vt))).toArray (mclk (C kt) (C vt) l q clk)) fz_map (.mp kt vt (mput (C kt) (C vt) l q y clk) (mclk (C kt) (C vt) l q clk)) rfl (by simp only [Ck.ok]; exact World.putObj_heap_same hlt), hl, fun k _ => by rw [ads_setCk], by rw [length_setCk]; exact Nat.le_refl _, .inl ⟨length_setCk .., ads_setCk ..⟩⟩
    simp [execOp, ex, ek, ev', SV.va, hr]
    rfl
  case mapEntry t x k =>
    split at hl <;> try (first | contradiction | exact False.elim hl)
    rename_i kt vt c kv ht hx hk
    split at hl <;> try (first | contradiction | exact False.elim hl)
    rename_i tk tv l clk hc
    split at hl <;> try (first | contradiction | exact False.elim hl)
    rename_i q hb hq
    simp only [Bool.and_eq_true] at hb
    have e1 := Nat.eq_of_beq_eq_true hb.2.1
    have e2 := Nat.eq_of_beq_eq_true hb.2.2
    subst e1; subst e2
    obtain ⟨⟨hK, hZ⟩, hl⟩ := hl
    have ex := ev_ok h hm.glob ha _ _ hx
    have ek := ev_ok h hm.glob ha _ _ hk
    rw [← decV_ok hq (ads m)] at ek
    have hlv : (nth m c).live = true := by unfold Ck.live; rw [hc]
    have hbl := mp_heap hm hc
    have hr := run_mapEntry ht hK hZ hbl q
    have hlt := heap_size_of hbl
    refine ⟨_, _, _, .inl ?_, hm.putO hb.1 hlv hbl fz_map (o' := .map ((mput (C kt) (C vt) l q (mget (C kt) (C vt) l q) clk).map (entryOf (C kt) (C vt))).toArray (mclk (C kt) (C vt) l q clk)) fz_map (.mp kt vt (mput (C kt) (C vt) l q (mget (C kt) (C vt) l q) clk) (mclk (C kt) (C vt) l q clk)) rfl (by simp only [Ck.ok]; exact World.putObj_heap_same hlt), hl, fun k _ => by rw [ads_setCk], by rw [length_setCk]; exact Nat.le_refl _, .inl ⟨length_setCk .., ads_setCk ..⟩⟩
    simp [execOp, ex, ek, SV.va, SV.vas, hr, encV_va]
    rfl
  case entryStore t x s v =>
    split at hl <;> try (first | contradiction | exact False.elim hl)
    rename_i c k n vv hx hs hv
    split at hl <;> try (first | contradiction | exact False.elim hl)
    rename_i tk tv l clk hc
    split at hl <;> try (first | contradiction | exact False.elim hl)
    rename_i y hw hy
    obtain ⟨⟨hn, hst⟩, hl⟩ := hl
    have ex := ev_ok h hm.glob ha _ _ hx
    have es := ev_ok h hm.glob ha _ _ hs
    have ev' := ev_ok h hm.glob ha _ _ hv
    rw [← decV_ok hy (ads m)] at ev'
    have hlv : (nth m c).live = true := by unfold Ck.live; rw [hc]
    have hbl := mp_heap hm hc
    have hr := run_entryStore (P := P) (t := t) hbl hn hst k y
    have hlt := heap_size_of hbl
    refine ⟨_, _, .undef, .inr ⟨?_, rfl⟩, hm.putO hw hlv hbl fz_map (o' := .map ((mset (C tk) (C tv) n.toNat y l).map (entryOf (C tk) (C tv))).toArray clk) fz_map (.mp tk tv (mset (C tk) (C tv) n.toNat y l) clk) rfl (by simp only [Ck.ok]; exact World.putObj_heap_same hlt), hl, fun k _ => by rw [ads_setCk], by rw [length_setCk]; exact Nat.le_refl _, .inl ⟨length_setCk .., ads_setCk ..⟩⟩
    simp [execOp, ex, es, ev', SV.va, hr]
    rfl
  case call c =>
    obtain ⟨callee, args, argTypes⟩ := c
    simp only at hl
    split at hl <;> try (first | contradiction | exact False.elim hl)
    split at hl <;> try (first | contradiction | exact False.elim hl)
    rename_i t t' x k hts hxs
    split at hl <;> try (first | contradiction | exact False.elim hl)
    rename_i kt vt c kv ht hx hk
    split at hl <;> try (first | contradiction | exact False.elim hl)
    rename_i tk tv l clk hc
    split at hl <;> try (first | contradiction | exact False.elim hl)
    rename_i q hb hq
    simp only [Bool.and_eq_true] at hb
    have e1 := Nat.eq_of_beq_eq_true hb.2.1
    have e2 := Nat.eq_of_beq_eq_true hb.2.2
    subst e1; subst e2
    obtain ⟨hK, hl⟩ := hl
    have ex := ev_ok h hm.glob ha _ _ hx
    have ek := ev_ok h hm.glob ha _ _ hk
    rw [← decV_ok hq (ads m)] at ek
    have e1 : args = #[x, k] := by apply Array.ext'; simpa using hxs
    have e2 : argTypes = #[t, t'] := by apply Array.ext'; simpa using hts
    subst e1; subst e2
    have hlv : (nth m c).live = true := by unfold Ck.live; rw [hc]
    have hbl := mp_heap hm hc
    have hr := run_mapDel (k := t') (ty := type) ht hK hbl q
    have hlt := heap_size_of hbl
    refine ⟨_, _, .tup [], .inl ?_, hm.putO hb.1 hlv hbl fz_map (o' := .map ((mdel (C kt) (C vt) l q).map (entryOf (C kt) (C vt))).toArray clk) fz_map (.mp kt vt (mdel (C kt) (C vt) l q) clk) rfl (by simp only [Ck.ok]; exact World.putObj_heap_same hlt), hl, fun k _ => by rw [ads_setCk], by rw [length_setCk]; exact Nat.le_refl _, .inl ⟨length_setCk .., ads_setCk ..⟩⟩
    simp [execOp, resolve, invoke, builtin, ex, ek, SV.va, SV.vas, hr]
    rfl
  case range t x =>
    split at hl <;> try (first | contradiction | exact False.elim hl)
    rename_i kt vt c ht hx
    split at hl <;> try (first | contradiction | exact False.elim hl)
    rename_i tk tv l clk hc
    split at hl <;> try (first | contradiction | exact False.elim hl)
    rename_i hb
    simp only [Bool.and_eq_true] at hb
    have hcl : c < m.length := by simpa using hb.2
    have ex := ev_ok h hm.glob ha _ _ hx
    have hr := run_range (P := P) ht (mp_heap hm hc)
    have hok : Ck.ok (ads (m ++ [(⟨w.heap.size, 0, 0, true, none, .it c [] clk⟩ : Ck C)])) (w.alloc (.mapIter (some (ads m c).block) clk #[] clk)) (⟨w.heap.size, 0, 0, true, none, .it c [] clk⟩ : Ck C) := by
      show (w.alloc _).heap[w.heap.size]? = some (.mapIter (some (ads (m ++ [(⟨w.heap.size, 0, 0, true, none, .it c [] clk⟩ : Ck C)]) c).block) clk #[] clk)
      rw [← ads_append m _ c hcl]; exact heap_alloc_at w _
    refine ⟨_, _, _, .inl ?_, hm.newO hb.1.1 (.mapIter (some (ads m c).block) clk #[] clk) fz_iter 0 _ hok, hl w.heap.size, ads_append _ _, by simp, .inr hb.1.2⟩
    have : ads (m ++ [(⟨w.heap.size, 0, 0, true, none, .it c [] clk⟩ : Ck C)]) m.length = ⟨w.heap.size, 0, 0⟩ := ads_append_new _ _
    simp [execOp, ex, SV.va, hr, this, Ad.at]
  case next it isS =>
    cases isS with
    | true => exact False.elim hl
    | false =>
      simp only at hl
      split at hl <;> try (first | contradiction | exact False.elim hl)
      rename_i ci hit
      split at hl <;> try (first | contradiction | exact False.elim hl)
      rename_i mc seen clk hic hiw
      split at hl <;> try (first | contradiction | exact False.elim hl)
      rename_i tk tv l clk' hmc
      obtain ⟨⟨hbase, hclk, hold⟩, hdone, hmore⟩ := hl
      subst hclk
      have ei := ev_ok h hm.glob ha _ _ hit
      have hlv : (nth m ci).live = true := by unfold Ck.live; rw [hic]
      have hri := hm.ok _ (nth_mem (lt_of_live hlv))
      simp only [Ck.ok, hic] at hri
      obtain ⟨k, hk⟩ := run_next (P := P) (ty := type) hri (mp_heap hm hmc) hold
      have ea : (ads m ci).at 0 0 = ⟨(nth m ci).block, 0, none⟩ := by simp [ads, Ck.ad, Ad.at, hbase]
      rcases hk with ⟨hall, hr⟩ | ⟨e, he, hne, hr⟩
      · refine ⟨_, m, _, .inl ?_, hm.drawn k, hdone hall, fun _ _ => rfl, Nat.le_refl _, .inl ⟨rfl, rfl⟩⟩
        simp [execOp, ei, SV.va, SV.vas, ea, hr, SB.val]
      · have hm' := hm.drawn k
        have hlt := heap_size_of hri
        refine ⟨_, _, _, .inl ?_, hm'.putO hiw hlv hri fz_iter (o' := .mapIter (some (ads m mc).block) clk' (seen ++ [e.2.2]).toArray clk') fz_iter (.it mc (seen ++ [e.2.2]) clk') rfl (by simp only [Ck.ok]; exact World.putObj_heap_same hlt), hmore e ⟨he, hne⟩, fun k _ => by rw [ads_setCk], by rw [length_setCk]; exact Nat.le_refl _, .inl ⟨length_setCk .., ads_setCk ..⟩⟩
        simp [execOp, ei, SV.va, SV.vas, ea, hr, SB.val, encV_va]
end Go.Vx
