/-
  The symbolic evaluator, seventh part: stores.
  Conditions: none.
-/
import Derived.Test.YtgbgfdmhmahonaaDoorVxF
set_option linter.unusedSimpArgs false
namespace Go.Vx
open Go
variable {C : Nat → Codec}

theorem SV.cell_one (ad : Nat → Ad) {v : SV} (h : v.cell = true) : (v.va ad).oneCell' = true := by
  cases v <;> first | rfl | cases h | skip
  rename_i x
  cases x <;> first | rfl | cases h
theorem SV.cell_junk {v : SV} (h : v.cell = true) : isJunk v = false := by cases v <;> first | rfl | cases h

def updParts' (cd : Codec) (x : cd.α) (f : Nat) : List SV → Option cd.α
  | [] => some x
  | p :: ps => match cd.upd x f p with
    | some y => updParts' cd y (f + 1) ps
    | none => none
def updParts (cd : Codec) (x : cd.α) (f : Nat) (ps : List SV) : Option cd.α := match f with
  | 0 => match cd.whole ps with
    | some y => some y
    | none => updParts' cd x 0 ps
  | f + 1 => updParts' cd x (f + 1) ps

def setCk : List (Ck C) → Nat → Cells C → List (Ck C)
  | [], _, _ => []
  | ⟨b, ba, sz, w, g, _⟩ :: r, 0, cs => ⟨b, ba, sz, w, g, cs⟩ :: r
  | x :: r, c + 1, cs => x :: setCk r c cs
theorem setCkN (c : Nat) (cs : Cells C) : setCk [] c cs = [] := rfl
theorem setCk0 (x : Ck C) (r : List (Ck C)) (cs : Cells C) : setCk (x :: r) 0 cs = { x with cells := cs } :: r := rfl
theorem setCkS (x : Ck C) (r : List (Ck C)) (c : Nat) (cs : Cells C) : setCk (x :: r) (c + 1) cs = x :: setCk r c cs := rfl

def storeSV (P : Program) (m : List (Ck C)) (t : TypeId) (c i f : Nat) (x : SV) : Option (List Prop × List (Ck C)) :=
  if (nth m c).wr && x.plain && (x.parts.all SV.cell) && (Nat.beq x.parts.length (P.cellsOf t)) && !(Nat.beq (P.cellsOf t) 0) then
    match (nth m c).cells with
    | .rows t' l => match updParts (C t') (l.getD i (C t').dflt) f x.parts with
      | some y => if f + x.parts.length ≤ (C t').sz then some ([i < l.length], setCk m c (.rows t' (l.set i y))) else none
      | none => none
    | .one vs => match i with
      | 0 => if f + x.parts.length ≤ vs.length then some ([], setCk m c (.one (setParts vs f x.parts))) else none
      | _ + 1 => none
    | .mp _ _ _ _ => none
    | .it _ _ _ => none
    | .dead => none
  else none

theorem length_setCk : ∀ (m : List (Ck C)) (c : Nat) (cs : Cells C), (setCk m c cs).length = m.length
  | [], _, _ => rfl
  | _ :: _, 0, _ => rfl
  | _ :: r, c + 1, cs => by simp [setCkN, setCk0, setCkS, length_setCk r c cs]
theorem nth_setCk : ∀ (m : List (Ck C)) (c k : Nat) (cs : Cells C), nth (setCk m c cs) k = if k = c ∧ c < m.length then { nth m c with cells := cs } else nth m k
  | [], c, k, cs => by simp [setCkN, setCk0, setCkS]
  | x :: r, 0, k, cs => by
    cases k with
    | zero => simp [setCkN, setCk0, setCkS, nth]
    | succ k => simp [setCkN, setCk0, setCkS, nth]
  | x :: r, c + 1, k, cs => by
    cases k with
    | zero => simp [setCkN, setCk0, setCkS, nth]
    | succ k => simp [setCkN, setCk0, setCkS, nth, nth_setCk r c k cs]
theorem ads_setCk (m : List (Ck C)) (c : Nat) (cs : Cells C) : ads (setCk m c cs) = ads m := by
  funext k
  simp only [ads, nth_setCk]
  split
  · rename_i h; rw [h.1]; rfl
  · rfl
theorem mem_nth {m : List (Ck C)} {x : Ck C} (h : x ∈ m) : ∃ k, k < m.length ∧ nth m k = x := by
  induction m with
  | nil => cases h
  | cons y r ih =>
    rcases List.mem_cons.1 h with h | h
    · exact ⟨0, by simp, by simp [nth, h]⟩
    · obtain ⟨k, hk, he⟩ := ih h
      exact ⟨k + 1, by simp; omega, he⟩
theorem mem_setCk {m : List (Ck C)} {c : Nat} {cs : Cells C} {x : Ck C} (h : x ∈ setCk m c cs) : (∃ k, k < m.length ∧ k ≠ c ∧ x = nth m k) ∨ (c < m.length ∧ x = { nth m c with cells := cs }) := by
  obtain ⟨k, hk, he⟩ := mem_nth h
  rw [length_setCk] at hk
  rw [nth_setCk] at he
  split at he
  · rename_i hc; exact .inr ⟨hc.2, he.symm⟩
  · rename_i hc
    exact .inl ⟨k, hk, fun e => hc ⟨e, e ▸ hk⟩, he.symm⟩

theorem Ck.ok_same {ad : Nat → Ad} {w w' : World} {c : Ck C} (h : Ck.ok ad w c) (hb : w'.heap[c.block]? = w.heap[c.block]?) : Ck.ok ad w' c := by
  have hc : ∀ i f, w'.cell? (c.ad.at i f) = w.cell? (c.ad.at i f) := fun i f => World.cell?_of_block (w := w) (a := c.ad.at i f) hb
  unfold Ck.ok at *
  split
  · rename_i h1; simp only [h1] at h; exact ⟨h.1, fun i hi f hf => by rw [hc]; exact h.2 i hi f hf⟩
  · rename_i h1
    simp only [h1] at h
    refine ⟨h.1, fun f hf => ?_⟩
    have := h.2 f hf
    revert this
    generalize ‹List SV›.getD f .junk = v
    intro this
    cases v <;> simp only [cellIs, hc] at this ⊢ <;> exact this
  · rename_i h1; simp only [h1] at h; exact hb.trans h
  · rename_i h1; simp only [h1] at h; exact hb.trans h
  · trivial

/-- One chunk's content turns. -/
theorem MemOK.upd {S : Sx} {w0 w w' : World} {m : List (Ck C)} (h : MemOK S w0 w m) {c : Nat} (hw : (nth m c).wr = true) (hl : (nth m c).live = true) (hos : w'.os = w.os) (htp : w'.tape = w.tape) (hout : w'.output = w.output)
    (hsz : w'.heap.size = w.heap.size) (hheap : ∀ k, k ≠ (nth m c).block → w'.heap[k]? = w.heap[k]?) (hfz : ∀ a, w'.frozen? a = w.frozen? a) (cs : Cells C)
    (_hlive : ({ nth m c with cells := cs } : Ck C).live = true) (hok : Ck.ok (ads m) w' { nth m c with cells := cs }) : MemOK S w0 w' (setCk m c cs) := by
  have hcl := lt_of_live hl
  have hmore : More S w0 w' (setCk m c cs) := by
    refine h.more.mono h.inS (fun k hk hno => hheap k (fun e => ?_)) (fun x hx hxl => ?_) h.size
    · exact hno _ (nth_mem hcl) hw hl e.symm
    · rcases mem_setCk hx with ⟨k, hk, _, rfl⟩ | ⟨_, rfl⟩
      · exact .inl ⟨_, nth_mem hk, hxl, rfl⟩
      · exact .inl ⟨_, nth_mem hcl, hl, rfl⟩
  refine ⟨hos.trans h.os, htp.trans h.tape, hout.trans h.output, by rw [hsz]; exact h.size, ?_, ?_, ?_, ?_, ?_, ?_, ?_, hmore⟩
  · intro k hk hno
    have hkc : k ≠ (nth m c).block := by
      rintro rfl
      exact hno (h.inS _ (nth_mem hcl) hw hk)
    rw [hheap k hkc]
    exact h.keep k hk hno
  · intro x hx hxw hxb
    rcases mem_setCk hx with ⟨k, hk, hkc, rfl⟩ | ⟨_, rfl⟩
    · exact h.inS _ (nth_mem hk) hxw hxb
    · exact h.inS (nth m c) (nth_mem hcl) hw hxb
  · intro x hx
    rw [ads_setCk]
    rcases mem_setCk hx with ⟨k, hk, hkc, rfl⟩ | ⟨_, rfl⟩
    · have hxo := h.ok _ (nth_mem hk)
      cases hxl : (nth m k).live with
      | false => unfold Ck.live at hxl; unfold Ck.ok; split at hxl <;> simp_all
      | true =>
        refine Ck.ok_same hxo (hheap _ ?_)
        exact (h.apart c k hcl hk (Ne.symm hkc) hw hl hxl).symm
    · exact hok
  · intro x hx hxw hxl a ha
    rw [hfz]
    rcases mem_setCk hx with ⟨k, hk, hkc, rfl⟩ | ⟨_, rfl⟩
    · exact h.wrok _ (nth_mem hk) hxw hxl a ha
    · exact h.wrok (nth m c) (nth_mem hcl) hw hl a ha
  · intro i j hi hj hij hiw hil hjl
    rw [length_setCk] at hi hj
    have hb : ∀ k, (nth (setCk m c cs) k).block = (nth m k).block := by
      intro k; rw [nth_setCk]; split
      · rename_i e; rw [e.1]
      · rfl
    have hwr : ∀ k, (nth (setCk m c cs) k).wr = (nth m k).wr := by
      intro k; rw [nth_setCk]; split
      · rename_i e; rw [e.1]
      · rfl
    have hlv : ∀ k, (nth (setCk m c cs) k).live = true → (nth m k).live = true := by
      intro k hk; rw [nth_setCk] at hk; split at hk
      · rename_i e; rw [e.1]; exact hl
      · exact hk
    rw [hb, hb]
    rw [hwr] at hiw
    exact h.apart i j hi hj hij hiw (hlv _ hil) (hlv _ hjl)
  · intro x hx
    rw [hsz]
    rcases mem_setCk hx with ⟨k, hk, hkc, rfl⟩ | ⟨_, rfl⟩
    · exact h.lt _ (nth_mem hk)
    · exact h.lt (nth m c) (nth_mem hcl)
  · intro x hx g hg
    rcases mem_setCk hx with ⟨k, hk, hkc, rfl⟩ | ⟨_, rfl⟩
    · exact h.glob _ (nth_mem hk) g hg
    · exact h.glob (nth m c) (nth_mem hcl) g hg

theorem heap_setCells (b : Nat) : ∀ (vs : List Value) (o : Nat) (w : World), (∀ k, k ≠ b → (w.setCells b o vs).heap[k]? = w.heap[k]?) ∧ (w.setCells b o vs).heap.size = w.heap.size ∧
    (w.setCells b o vs).os = w.os ∧ (w.setCells b o vs).tape = w.tape ∧ (w.setCells b o vs).output = w.output
  | [], _, _ => ⟨fun _ _ => rfl, rfl, rfl, rfl, rfl⟩
  | v :: r, o, w => by
    obtain ⟨h1, h2, h3, h4, h5⟩ := heap_setCells b r (o + 1) (w.setCell ⟨b, o, none⟩ v)
    refine ⟨fun k hk => ?_, ?_, h3, h4, h5⟩
    · rw [World.setCells, h1 k hk]; exact heap_setCell_other _ _ _ _ hk
    · rw [World.setCells, h2]; simp

theorem row_ne {sz i i' f f' : Nat} (h : f < sz) (h' : f' < sz) (e : i * sz + f = i' * sz + f') : i = i' ∧ f = f' := by
  have hpos : 0 < sz := by omega
  have h1 : (i * sz + f) / sz = i := by rw [Nat.mul_comm, Nat.mul_add_div hpos, Nat.div_eq_of_lt h]; rfl
  have h2 : (i' * sz + f') / sz = i' := by rw [Nat.mul_comm, Nat.mul_add_div hpos, Nat.div_eq_of_lt h']; rfl
  have : i = i' := by rw [← h1, ← h2, e]
  subst this
  exact ⟨rfl, by omega⟩

theorem updParts'_ok (cd : Codec) (ad : Nat → Ad) : ∀ (ps : List SV) (x y : cd.α) (f : Nat), updParts' cd x f ps = some y →
    ∀ j, ((cd.enc y).map (SV.va ad))[j]? = if f ≤ j ∧ j < f + ps.length ∧ j < cd.sz then (ps.map (SV.va ad))[j - f]? else ((cd.enc x).map (SV.va ad))[j]?
  | [], x, y, f, h, j => by simp [updParts'] at h; subst h; rw [if_neg (by simp; omega)]
  | p :: ps, x, y, f, h, j => by
    simp only [updParts'] at h
    split at h <;> try contradiction
    rename_i z hz
    have ih := updParts'_ok cd ad ps z y (f + 1) h j
    rw [ih, cd.upd_ok ad x f p z hz]
    by_cases h1 : f + 1 ≤ j ∧ j < f + 1 + ps.length ∧ j < cd.sz
    · rw [if_pos h1, if_pos (by simp; omega)]
      rw [show j - f = (j - (f + 1)) + 1 by omega]; simp
    · rw [if_neg h1]
      by_cases h2 : f = j ∧ j < cd.sz
      · obtain ⟨rfl, h2⟩ := h2
        rw [if_pos (by simp; omega), List.getElem?_set]
        have := cd.len x
        simp; omega
      · rw [if_neg (by simp; omega), List.getElem?_set]
        split
        · rename_i e
          subst e
          have := cd.len x
          rw [if_neg (by simp; omega), List.getElem?_eq_none (by simp; omega)]
        · rfl
theorem updParts_ok (cd : Codec) (ad : Nat → Ad) (ps : List SV) (x y : cd.α) (f : Nat) (h : updParts cd x f ps = some y) :
    ∀ j, ((cd.enc y).map (SV.va ad))[j]? = if f ≤ j ∧ j < f + ps.length ∧ j < cd.sz then (ps.map (SV.va ad))[j - f]? else ((cd.enc x).map (SV.va ad))[j]? := by
  intro j
  unfold updParts at h
  split at h
  · split at h
    · rename_i y' hw
      simp only [Option.some.injEq] at h; subst h
      have e := cd.whole_ok ad _ _ hw
      have hl := congrArg List.length e
      simp only [List.length_map, cd.len] at hl
      by_cases hj : j < cd.sz
      · rw [if_pos (by omega), e, Nat.sub_zero]
      · rw [if_neg (by omega), List.getElem?_eq_none (by simp [cd.len]; omega), List.getElem?_eq_none (by simp [cd.len]; omega)]
    · exact updParts'_ok cd ad ps x y 0 h j
  · rename_i f
    exact updParts'_ok cd ad ps x y (f + 1) h j

theorem setParts_get : ∀ (ps vs : List SV) (f j : Nat), (setParts vs f ps)[j]? = if f ≤ j ∧ j < f + ps.length ∧ j < vs.length then ps[j - f]? else vs[j]?
  | [], vs, f, j => by rw [if_neg (by simp; omega)]; rfl
  | p :: ps, vs, f, j => by
    rw [setParts, setParts_get ps _ (f + 1) j]
    by_cases h1 : f + 1 ≤ j ∧ j < f + 1 + ps.length ∧ j < vs.length
    · rw [if_pos (by simp; omega), if_pos (by simp; omega)]
      rw [show j - f = (j - (f + 1)) + 1 by omega]; simp
    · rw [if_neg (by simp; omega)]
      by_cases h2 : f = j ∧ j < vs.length
      · obtain ⟨rfl, h2⟩ := h2
        rw [if_pos (by simp; omega), List.getElem?_set]
        simp; omega
      · rw [if_neg (by simp; omega), List.getElem?_set]
        split
        · rename_i e
          subst e
          rw [if_neg (by omega), List.getElem?_eq_none (by omega)]
        · rfl
theorem length_setParts : ∀ (ps vs : List SV) (f : Nat), (setParts vs f ps).length = vs.length
  | [], _, _ => rfl
  | p :: ps, vs, f => by rw [setParts, length_setParts ps]; simp

theorem storeSV_ok {P : Program} {S : Sx} {w0 w : World} {m m' : List (Ck C)} (hm : MemOK S w0 w m) {t : TypeId} {c i f : Nat} {ps : List Prop} {x : SV} (h : storeSV P m t c i f x = some (ps, m')) (hp : allOf ps) :
    ∃ w', (storeVar t ((ads m c).at i f) (x.va (ads m))).run P w = .ok () w' ∧ MemOK S w0 w' m' ∧ ads m' = ads m ∧ m'.length = m.length := by
  unfold storeSV at h
  split at h <;> try contradiction
  rename_i hcond
  simp only [Bool.and_eq_true, List.all_eq_true, Bool.not_eq_true'] at hcond
  obtain ⟨⟨⟨⟨hwr, hpl⟩, hcell⟩, hlen⟩, hn0⟩ := hcond
  have hlen : x.parts.length = P.cellsOf t := Nat.eq_of_beq_eq_true hlen
  have hn0 : P.cellsOf t ≠ 0 := Nat.ne_of_beq_eq_false hn0
  have hcs := SV.plain_cells (ads m) hpl
  have hone : ∀ v ∈ x.parts.map (SV.va (ads m)), v.oneCell' = true := by
    intro v hv
    obtain ⟨u, hu, rfl⟩ := List.mem_map.1 hv
    exact SV.cell_one _ (hcell u hu)
  -- the store itself
  have hrun : ∀ (i' : Nat), (nth m c).live = true → (∀ j, j < x.parts.length → (w.cell? ((ads m c).at i' (f + j))).isSome = true) →
      (storeVar t ((ads m c).at i' f) (x.va (ads m))).run P w = .ok () (w.setCells (nth m c).block ((nth m c).base + (i' * (nth m c).sz + f)) (x.parts.map (SV.va (ads m)))) := by
    intro i' hlive hc
    have h2 := run_storeCells_cells (P := P) (nth m c).block ((nth m c).base + (i' * (nth m c).sz + f)) (x.parts.map (SV.va (ads m))) 0 w
      (fun j hj => by
        have := hc j (by simpa using hj)
        simpa [ads, Ck.ad, Ad.at, Nat.add_assoc] using this)
      (fun j hj => hm.wrok _ (nth_mem (lt_of_live hlive)) hwr hlive _ rfl) hone
    unfold storeVar
    simp only [Sem.run_bind, run_sizeOf0 hn0, Result.andThen_ok, ne_eq, hcs, SV.vas_eq]
    simpa [ads, Ck.ad, Ad.at, hlen] using h2
  have hread : ∀ i' f', ∀ w' : World, w' = w.setCells (nth m c).block ((nth m c).base + (i' * (nth m c).sz + f)) (x.parts.map (SV.va (ads m))) →
      (∀ j, j < x.parts.length → (w.cell? ((ads m c).at i' (f + j))).isSome = true) → f + x.parts.length ≤ (nth m c).sz → f' < (nth m c).sz → ∀ k,
      w'.cell? ((nth m c).ad.at k f') = if k = i' ∧ f ≤ f' ∧ f' < f + x.parts.length then (x.parts.map (SV.va (ads m)))[f' - f]? else w.cell? ((nth m c).ad.at k f') := by
    intro i' f' w' hw' hc hfs hf' k
    subst hw'
    split
    · rename_i hk
      obtain ⟨rfl, h1, h2⟩ := hk
      have := World.cell?_setCells_in (nth m c).block (x.parts.map (SV.va (ads m))) ((nth m c).base + (k * (nth m c).sz + f)) w
        (fun j hj => by
          have := hc j (by simpa using hj)
          simpa [ads, Ck.ad, Ad.at, Nat.add_assoc] using this) (f' - f) (by simp; omega)
      have e : (nth m c).ad.at k f' = ⟨(nth m c).block, (nth m c).base + (k * (nth m c).sz + f) + (f' - f), none⟩ := by
        simp [Ck.ad, Ad.at]; omega
      rw [e, this]
      rw [List.getElem?_eq_getElem]
    · rename_i hk
      refine World.cell?_setCells_out _ _ _ _ _ (fun _ _ => ?_)
      simp only [Ck.ad, Ad.at, List.length_map]
      by_cases hki : k = i'
      · subst hki; omega
      · rcases Nat.lt_or_ge ((nth m c).base + (k * (nth m c).sz + f')) ((nth m c).base + (i' * (nth m c).sz + f)) with h1 | h1
        · exact .inl h1
        · right
          rcases Nat.lt_or_ge ((nth m c).base + (k * (nth m c).sz + f')) ((nth m c).base + (i' * (nth m c).sz + f) + x.parts.length) with h2 | h2
          · exfalso
            have e : k * (nth m c).sz + f' = i' * (nth m c).sz + (f + (k * (nth m c).sz + f' - (i' * (nth m c).sz + f))) := by omega
            exact hki (row_ne hf' (by omega) e).1
          · exact h2
  split at h <;> try contradiction
  · rename_i t' l hcl
    split at h <;> try contradiction
    rename_i y hy
    split at h <;> try contradiction
    rename_i hfs
    simp only [Option.some.injEq, Prod.mk.injEq] at h
    obtain ⟨rfl, rfl⟩ := h
    simp only [allOf, and_true] at hp
    have hlive : (nth m c).live = true := by simp [Ck.live, hcl]
    have hok := hm.ok _ (nth_mem (lt_of_live hlive))
    simp only [Ck.ok, hcl] at hok
    obtain ⟨hsz, hok⟩ := hok
    have hc : ∀ j, j < x.parts.length → (w.cell? ((ads m c).at i (f + j))).isSome = true := by
      intro j hj
      have := hok i hp (f + j) (by omega)
      simp only [ads]; rw [this]; rfl
    obtain ⟨g1, g2, g3, g4, g5⟩ := heap_setCells (nth m c).block (x.parts.map (SV.va (ads m))) ((nth m c).base + (i * (nth m c).sz + f)) w
    refine ⟨_, hrun i hlive hc, ?_, ads_setCk _ _ _, length_setCk _ _ _⟩
    refine hm.upd hwr hlive g3 g4 g5 g2 g1 (fun a => World.frozen?_setCells _ _ _ _ _) _ rfl ?_
    simp only [Ck.ok]
    refine ⟨hsz, fun k hk f' hf' => ?_⟩
    rw [List.length_set] at hk
    have := hread i f' _ rfl hc (by omega) (by omega) k
    have e0 : ({ nth m c with cells := .rows t' (l.set i y) } : Ck C).ad = (nth m c).ad := rfl
    rw [e0, this]
    have hu := updParts_ok (C t') (ads m) x.parts _ y f hy f'
    have hg : ∀ z : (C t').α, some ((((C t').enc z).getD f' .junk).va (ads m)) = (((C t').enc z).map (SV.va (ads m)))[f']? := by
      intro z
      have := (C t').len z
      rw [List.getElem?_map, List.getElem?_eq_getElem (by omega)]
      simp [List.getD, List.getElem?_eq_getElem (show f' < ((C t').enc z).length by omega)]
    by_cases hki : k = i
    · subst hki
      have e1 : (l.set k y).getD k (C t').dflt = y := by simp [List.getD, hp]
      rw [e1, hg, hu]
      by_cases h3 : f ≤ f' ∧ f' < f + x.parts.length
      · rw [if_pos ⟨rfl, h3⟩, if_pos (by omega)]
      · rw [if_neg (fun e => h3 e.2), if_neg (by omega), hok k hk f' hf', hg]
    · have e1 : (l.set i y).getD k (C t').dflt = l.getD k (C t').dflt := by simp [List.getD, List.getElem?_set_ne (Ne.symm hki)]
      rw [e1, if_neg (fun e => hki e.1), hok k hk f' hf']
  · rename_i vs hcl
    split at h <;> try contradiction
    split at h <;> try contradiction
    rename_i hfs
    simp only [Option.some.injEq, Prod.mk.injEq] at h
    obtain ⟨rfl, rfl⟩ := h
    have hlive : (nth m c).live = true := by simp [Ck.live, hcl]
    have hok := hm.ok _ (nth_mem (lt_of_live hlive))
    simp only [Ck.ok, hcl] at hok
    obtain ⟨hsz, hok⟩ := hok
    have hcell' : ∀ j, j < vs.length → (w.cell? ((nth m c).ad.at 0 j)).isSome = true := by
      intro j hj
      have := hok j hj
      revert this
      generalize vs.getD j .junk = u
      intro this
      cases u <;> simp only [cellIs] at this <;> first | (obtain ⟨v, hv⟩ := this; simp [hv]) | simp [this]
    have hc : ∀ j, j < x.parts.length → (w.cell? ((ads m c).at 0 (f + j))).isSome = true := fun j hj => hcell' (f + j) (by omega)
    obtain ⟨g1, g2, g3, g4, g5⟩ := heap_setCells (nth m c).block (x.parts.map (SV.va (ads m))) ((nth m c).base + (0 * (nth m c).sz + f)) w
    refine ⟨_, hrun 0 hlive hc, ?_, ads_setCk _ _ _, length_setCk _ _ _⟩
    refine hm.upd hwr hlive g3 g4 g5 g2 g1 (fun a => World.frozen?_setCells _ _ _ _ _) _ rfl ?_
    simp only [Ck.ok]
    refine ⟨by rw [length_setParts]; exact hsz, fun f' hf' => ?_⟩
    rw [length_setParts] at hf'
    have := hread 0 f' _ rfl hc (by omega) (by omega) 0
    have e0 : ({ nth m c with cells := .one (setParts vs f x.parts) } : Ck C).ad = (nth m c).ad := rfl
    have hget := setParts_get x.parts vs f f'
    by_cases h3 : f ≤ f' ∧ f' < f + x.parts.length
    · rw [if_pos ⟨rfl, h3⟩] at this
      rw [if_pos (by omega)] at hget
      have hlt : f' - f < x.parts.length := by omega
      rw [List.getElem?_eq_getElem hlt] at hget
      have e1 : (setParts vs f x.parts).getD f' .junk = x.parts[f' - f] := by simp [List.getD, hget]
      have hjk := SV.cell_junk (hcell _ (List.getElem_mem hlt))
      rw [e0, e1]
      rw [List.getElem?_map, List.getElem?_eq_getElem hlt] at this
      revert hjk this
      generalize x.parts[f' - f] = u
      intro this hjk
      cases u <;> simp only [cellIs] <;> first | exact this | cases hjk
    · rw [if_neg (fun e => h3 e.2)] at this
      rw [if_neg (by omega)] at hget
      have e1 : (setParts vs f x.parts).getD f' .junk = vs.getD f' .junk := by simp [List.getD, hget]
      have hv := hok f' hf'
      rw [e0, e1]
      revert hv
      generalize vs.getD f' .junk = u
      intro hv
      cases u <;> simp only [cellIs] at hv ⊢ <;> rw [this] <;> exact hv

end Go.Vx
