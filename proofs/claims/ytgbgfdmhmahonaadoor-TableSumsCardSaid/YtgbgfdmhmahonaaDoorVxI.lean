/-
  The symbolic evaluator, ninth part: what makes memory, as operations.
  Conditions: none.
-/
import Derived.Test.YtgbgfdmhmahonaaDoorVxH
namespace Go.Vx
open Go
variable {C : Nat → Codec}

/-- An array's cells are these rows. -/
structure Flat (ad : Nat → Ad) (cd : Codec) (arr : Array Value) (l : List cd.α) : Prop where
  size : arr.size = l.length * cd.sz
  get : ∀ i, i < l.length → ∀ f, f < cd.sz → arr[i * cd.sz + f]? = some (((cd.enc (l.getD i cd.dflt)).getD f .junk).va ad)

theorem enc_flat (cd : Codec) (ad ad' : Nat → Ad) (x : cd.α) (f : Nat) (hf : f < cd.sz) : ((cd.enc x).getD f .junk).va ad = ((cd.enc x).getD f .junk).va ad' := by
  have := cd.flat x ad ad'
  have hlen := cd.len x
  have e := congrArg (fun l => l[f]?) this
  simp only [List.getElem?_map] at e
  rw [List.getElem?_eq_getElem (by omega)] at e
  simp only [Option.map_some, Option.some.injEq] at e
  simp [List.getD, List.getElem?_eq_getElem (show f < (cd.enc x).length by omega), e]
theorem Flat.ads {ad : Nat → Ad} (ad' : Nat → Ad) {cd : Codec} {arr : Array Value} {l : List cd.α} (h : Flat ad cd arr l) : Flat ad' cd arr l :=
  ⟨h.size, fun i hi f hf => by rw [h.get i hi f hf, enc_flat cd ad ad' _ f hf]⟩

theorem cell?_alloc (w : World) (arr : Array Value) (e : TypeId) (o : Nat) : (w.alloc (.cells arr e)).cell? ⟨w.heap.size, o, none⟩ = arr[o]? := by
  simp only [World.cell?, heap_alloc_at]; simp

theorem Flat.ok {ad : Nat → Ad} {t : Nat} {arr : Array Value} {l : List (C t).α} (h : Flat ad (C t) arr l) (w : World) (e : TypeId) (wr : Bool) (gl : Option Nat) :
    Ck.ok ad (w.alloc (.cells arr e)) (⟨w.heap.size, 0, (C t).sz, wr, gl, .rows t l⟩ : Ck C) := by
  refine ⟨rfl, fun i hi f hf => ?_⟩
  have := h.get i hi f hf
  simp only [Ck.ad, Ad.at, Nat.zero_add]
  rw [cell?_alloc]; exact this

theorem flat_made {ad : Nat → Ad} {cd : Codec} {z : Array Value} (hz : (cd.enc cd.dflt).map (SV.va ad) = z.toList) (hs : z.size = cd.sz) (n : Nat) :
    Flat ad cd (madeCells z (n * cd.sz)) (List.replicate n cd.dflt) := by
  refine ⟨by simp [size_madeCells], fun i hi f hf => ?_⟩
  simp only [List.length_replicate] at hi
  have hlt : i * cd.sz + f < n * cd.sz := by
    have := Nat.mul_le_mul_right cd.sz (show i + 1 ≤ n by omega)
    rw [Nat.add_mul] at this; omega
  have e1 : (i * cd.sz + f) % z.size = f := by rw [hs, Nat.mul_comm, Nat.mul_add_mod, Nat.mod_eq_of_lt hf]
  have e2 : (List.replicate n cd.dflt).getD i cd.dflt = cd.dflt := by simp [List.getD, hi]
  rw [e2]
  have e3 : z[f]? = some (((cd.enc cd.dflt).getD f .junk).va ad) := by
    have := congrArg (fun l => l[f]?) hz
    simp only [List.getElem?_map] at this
    have hl := cd.len cd.dflt
    rw [List.getElem?_eq_getElem (by omega)] at this
    simp only [Option.map_some] at this
    rw [← Array.getElem?_toList, ← this]
    simp [List.getD, List.getElem?_eq_getElem (show f < (cd.enc cd.dflt).length by omega)]
  simp only [madeCells, Array.getElem?_map, Array.getElem?_range, hlt, if_true, Option.map_some, e1]
  have e4 : f < z.size := by omega
  rw [getElem!_pos z f e4]
  rw [Array.getElem?_eq_getElem e4] at e3
  exact e3

/-- Rows, cell by cell. -/
def flatSV (cd : Codec) : List cd.α → List SV
  | [] => []
  | x :: r => cd.enc x ++ flatSV cd r
theorem flatSV_get (cd : Codec) : ∀ (l : List cd.α) (i f : Nat), i < l.length → f < cd.sz → (flatSV cd l)[i * cd.sz + f]? = some ((cd.enc (l.getD i cd.dflt)).getD f .junk)
  | [], _, _, h, _ => by simp at h
  | x :: r, 0, f, _, hf => by
    have := cd.len x
    simp only [flatSV, Nat.zero_mul, Nat.zero_add]
    rw [List.getElem?_append_left (by omega)]
    simp [List.getD, List.getElem?_eq_getElem (show f < (cd.enc x).length by omega)]
  | x :: r, i + 1, f, h, hf => by
    have := cd.len x
    simp only [flatSV]
    rw [List.getElem?_append_right (by rw [Nat.add_mul]; omega)]
    have e : (i + 1) * cd.sz + f - (cd.enc x).length = i * cd.sz + f := by rw [Nat.add_mul]; omega
    rw [e, flatSV_get cd r i f (by simpa using h) hf]
    simp [List.getD]
theorem flatSV_len (cd : Codec) : ∀ l : List cd.α, (flatSV cd l).length = l.length * cd.sz
  | [] => by simp [flatSV]
  | x :: r => by simp [flatSV, flatSV_len cd r, cd.len, Nat.add_mul]; omega
theorem flat_of {ad : Nat → Ad} {cd : Codec} {arr : Array Value} {l : List cd.α} (h : (flatSV cd l).map (SV.va ad) = arr.toList) : Flat ad cd arr l := by
  refine ⟨?_, fun i hi f hf => ?_⟩
  · have := congrArg List.length h
    simp [flatSV_len] at this
    exact this.symm
  · rw [← Array.getElem?_toList, ← h, List.getElem?_map, flatSV_get cd l i f hi hf]; rfl

/-- What allocation puts into a new variable. -/
def newCells (P : Program) (C : Nat → Codec) (e : TypeId) : Option (Nat × Cells C) :=
  match P.underlying e with
  | some (.array n e') => match P.info? e with
    | some i => match i.zero with
      | some z => if SV.isVs (flatSV (C e') (List.replicate n (C e').dflt)) z.cells.toList && !(Nat.beq (C e').sz 0) then some ((C e').sz, .rows e' (List.replicate n (C e').dflt)) else none
      | none => none
    | none => none
  | some _ => match P.info? e with
    | some i => match i.zero with
      | some z => some (z.cells.size, .one (z.cells.toList.map SV.atom))
      | none => none
    | none => none
  | none => none

theorem one_ok {ad : Nat → Ad} (w : World) (e : TypeId) (vs : List SV) (arr : Array Value) (h : (vs.map (SV.va ad)) = arr.toList) (wr : Bool) (gl : Option Nat) :
    Ck.ok ad (w.alloc (.cells arr e)) (⟨w.heap.size, 0, vs.length, wr, gl, .one vs⟩ : Ck C) := by
  refine ⟨rfl, fun f hf => ?_⟩
  have hc : (w.alloc (.cells arr e)).cell? ((⟨w.heap.size, 0, vs.length, wr, gl, .one vs⟩ : Ck C).ad.at 0 f) = some ((vs.getD f .junk).va ad) := by
    simp only [Ck.ad, Ad.at, Nat.zero_add, Nat.zero_mul]
    rw [cell?_alloc, ← Array.getElem?_toList, ← h]
    simp [List.getD, List.getElem?_eq_getElem hf]
  revert hc
  generalize vs.getD f .junk = v
  intro hc
  cases v <;> simp only [cellIs] <;> first | exact hc | exact ⟨_, hc⟩

/-- The chunk that a new variable of type e is. -/
def newCk (P : Program) (C : Nat → Codec) (e : TypeId) (b : Nat) : Option (Ck C) :=
  (newCells P C e).map fun (sz, cs) => ⟨b, 0, sz, true, none, cs⟩

theorem newCells_ok {P : Program} {e : TypeId} {sz : Nat} {cs : Cells C} (h : newCells P C e = some (sz, cs)) (w : World) (ad : Nat → Ad) :
    ∃ z, (zeroValue e).run P w = .ok z w ∧ Ck.ok ad (w.alloc (.cells z.cells e)) (⟨w.heap.size, 0, sz, true, none, cs⟩ : Ck C) := by
  unfold newCells at h
  split at h <;> try contradiction
  · rename_i n e' hu
    split at h <;> try contradiction
    rename_i i hi
    split at h <;> try contradiction
    rename_i z hz
    split at h <;> try contradiction
    rename_i hc
    simp only [Bool.and_eq_true] at hc
    simp only [Option.some.injEq, Prod.mk.injEq] at h
    obtain ⟨rfl, rfl⟩ := h
    refine ⟨z, by simp [zeroValue, typeInfo, hi, hz], ?_⟩
    exact (flat_of (SV.isVs_ok ad hc.1)).ok w e true none
  · split at h <;> try contradiction
    rename_i i hi
    split at h <;> try contradiction
    rename_i z hz
    simp only [Option.some.injEq, Prod.mk.injEq] at h
    obtain ⟨rfl, rfl⟩ := h
    refine ⟨z, by simp [zeroValue, typeInfo, hi, hz], ?_⟩
    have := one_ok (C := C) (ad := ad) w e (z.cells.toList.map SV.atom) z.cells (by simp [List.map_map, Function.comp_def, SV.va_atom]) true none
    simpa using this

/-- Slices: the rows that a literal fills. -/
def fillRows (cd : Codec) (l : List cd.α) : List (Nat × SV) → Option (List cd.α)
  | [] => some l
  | (i, v) :: r => if v.plain && Nat.beq v.parts.length cd.sz && Nat.blt i l.length then
      match updParts cd (l.getD i cd.dflt) 0 v.parts with
      | some y => fillRows cd (l.set i y) r
      | none => none
    else none

theorem foldl_get : ∀ (ps : List Value) (off k : Nat) (cs : Array Value) (j : Nat), ((ps.zipIdx k).foldl (fun (cs : Array Value) (c, j) => cs.setIfInBounds (off + j) c) cs)[j]? =
    if off + k ≤ j ∧ j < off + k + ps.length ∧ j < cs.size then ps[j - (off + k)]? else cs[j]?
  | [], off, k, cs, j => by rw [if_neg (by simp; omega)]; rfl
  | p :: ps, off, k, cs, j => by
    simp only [List.zipIdx_cons, List.foldl_cons]
    rw [foldl_get ps off (k + 1)]
    simp only [Array.size_setIfInBounds]
    by_cases h1 : off + (k + 1) ≤ j ∧ j < off + (k + 1) + ps.length ∧ j < cs.size
    · rw [if_pos h1, if_pos (by simp; omega), show j - (off + k) = (j - (off + (k + 1))) + 1 by omega]; simp
    · rw [if_neg h1]
      by_cases h2 : off + k = j ∧ j < cs.size
      · obtain ⟨rfl, h2⟩ := h2
        rw [if_pos (by simp; omega)]; simp [h2]
      · rw [if_neg (by simp; omega), Array.getElem?_setIfInBounds]
        split
        · rename_i e; subst e
          rw [if_neg (by omega), Array.getElem?_eq_none (by omega)]
        · rfl

theorem size_foldl : ∀ (ps : List (Value × Nat)) (off : Nat) (cs : Array Value), (ps.foldl (fun (cs : Array Value) (c, j) => cs.setIfInBounds (off + j) c) cs).size = cs.size
  | [], _, _ => rfl
  | (c, j) :: ps, off, cs => by simp only [List.foldl_cons]; rw [size_foldl ps]; simp

theorem fillRows_ok {ad : Nat → Ad} {cd : Codec} (hn : cd.sz ≠ 0) : ∀ (qs : List (Nat × SV)) (l out : List cd.α) (arr : Array Value), fillRows cd l qs = some out → Flat ad cd arr l →
    ∃ arr', Instr.fill (fun i => some (i * cd.sz, cd.sz)) arr (qs.map fun p => (p.1, p.2.va ad)) = some arr' ∧ Flat ad cd arr' out
  | [], l, out, arr, h, hf => by simp [fillRows] at h; subst h; exact ⟨arr, rfl, hf⟩
  | (i, v) :: r, l, out, arr, h, hf => by
    simp only [fillRows] at h
    split at h <;> try contradiction
    rename_i hc
    simp only [Bool.and_eq_true] at hc
    obtain ⟨⟨hpl, hlen⟩, hlt⟩ := hc
    have hlen := Nat.eq_of_beq_eq_true hlen
    have hlt : i < l.length := by simpa using hlt
    split at h <;> try contradiction
    rename_i y hy
    have hcs := SV.plain_cells ad hpl
    have hsz : (v.va ad).cells.size = cd.sz := by rw [hcs]; simp [SV.vas_eq, hlen]
    have hb : i * cd.sz + cd.sz ≤ arr.size := by
      rw [hf.size]
      have := Nat.mul_le_mul_right cd.sz (show i + 1 ≤ l.length by omega)
      rw [Nat.add_mul] at this; omega
    simp only [List.map_cons, Instr.fill]
    rw [if_neg (by rw [hsz]; simp; omega)]
    refine fillRows_ok hn r _ out _ h ?_
    have hzip : (v.va ad).cells.zipIdx.foldl (fun cs (c, j) => cs.setIfInBounds (i * cd.sz + j) c) arr = ((v.parts.map (SV.va ad)).zipIdx 0).foldl (fun (cs : Array Value) (c, j) => cs.setIfInBounds (i * cd.sz + j) c) arr := by
      rw [hcs, ← Array.foldl_toList]; simp [SV.vas_eq]
    refine ⟨?_, fun i' hi' f hf' => ?_⟩
    · rw [hzip, size_foldl, List.length_set, hf.size]
    · rw [List.length_set] at hi'
      rw [hzip, foldl_get]
      simp only [Nat.add_zero, List.length_map, hlen]
      have hrow : i' * cd.sz + f < arr.size := by
        rw [hf.size]
        have := Nat.mul_le_mul_right cd.sz (show i' + 1 ≤ l.length by omega)
        rw [Nat.add_mul] at this; omega
      by_cases he : i' = i
      · subst he
        rw [if_pos (by omega), show i' * cd.sz + f - i' * cd.sz = f by omega]
        have e1 : (l.set i' y).getD i' cd.dflt = y := by simp [List.getD, hlt]
        rw [e1]
        have hu := updParts_ok cd ad v.parts _ y 0 hy f
        rw [if_pos (by omega)] at hu
        simp only [Nat.sub_zero] at hu
        rw [← hu, List.getElem?_map]
        have := cd.len y
        rw [List.getElem?_eq_getElem (by omega)]
        simp [List.getD, List.getElem?_eq_getElem (show f < (cd.enc y).length by omega)]
      · rw [if_neg]
        · rw [hf.get i' hi' f hf']
          have e1 : (l.set i y).getD i' cd.dflt = l.getD i' cd.dflt := by simp [List.getD, List.getElem?_set_ne (Ne.symm he)]
          rw [e1]
        · rintro ⟨h1, h2, _⟩
          have e : i' * cd.sz + f = i * cd.sz + (i' * cd.sz + f - i * cd.sz) := by omega
          exact he (row_ne hf' (by omega) e).1

end Go.Vx
