/-
  The symbolic evaluator, fourth part: 'pev' is right, in every world.
  Conditions: none.
-/
import Derived.Test.YtgbgfdmhmahonaaDoorVxC
namespace Go.Vx
open Go

theorem mapM_places {P : Program} (w : World) : ∀ (fs : List Field) , (∀ fd ∈ fs, ∃ i, P.info? fd.type = some i) →
    (fs.mapM fun f => do pure (f.offset, ← sizeOf f.type) : Sem (List (Nat × Nat))).run P w = .ok (fs.map fun fd => (fd.offset, P.cellsOf fd.type)) w
  | [], _ => by simp
  | f :: r, h => by
    have ih := mapM_places w r (fun fd hfd => h fd (by simp [hfd]))
    obtain ⟨i, hi⟩ := h f (by simp)
    have hs : (sizeOf f.type).run P w = .ok (P.cellsOf f.type) w := by simp [sizeOf, typeInfo, hi, Program.cellsOf]
    simp only [List.mapM_cons, Sem.run_bind, hs, Result.andThen_ok, Sem.run_pure, List.map_cons]
    rw [ih]; rfl

theorem build_ok {P : Program} {t : TypeId} {fs : Array Field} {i : TypeInfo} {z : Array Value} (hu : P.underlying t = some (.struct fs)) (hi : P.info? t = some i) (hz : i.zero = some (.agg z))
    (hf : fieldsOk P fs = true) (ad : Nat → Ad) {qs : List (Nat × SV)} {out : List SV} (h : fillParts P fs (z.toList.map SV.atom) qs = some out) (w : World) (ps : Array (Nat × Value))
    (hps : ps.toList = qs.map fun p => (p.1, p.2.va ad)) : (Instr.build t ps).run P w = .ok (.agg (SV.vas ad out).toArray) w := by
  have hf' : ∀ fd ∈ fs.toList, ∃ i, P.info? fd.type = some i := by
    intro fd hfd
    have := List.all_eq_true.1 hf fd hfd
    exact Option.isSome_iff_exists.1 this
  have hm : (fs.mapM fun f => do pure (f.offset, ← sizeOf f.type) : Sem (Array (Nat × Nat))).run P w = .ok (fs.toList.map fun fd => (fd.offset, P.cellsOf fd.type)).toArray w := by
    have := mapM_places (P := P) w fs.toList hf'
    rw [← Array.toArray_toList (xs := fs), List.mapM_toArray]
    simp only [Sem.run_map, this, Result.andThen_ok]
  have hfill := fillParts_ok (P := P) (fs := fs) ad (fun k => ((fs.toList.map fun fd => (fd.offset, P.cellsOf fd.type)).toArray)[k]?) (by intro i fd hfd; simp [hfd]) qs _ out h
  have hzz : (SV.vas ad (z.toList.map SV.atom)).toArray = z := by
    apply Array.ext'
    simp [SV.vas_eq, List.map_map, Function.comp_def, SV.va_atom]
  rw [hzz] at hfill
  unfold Instr.build
  simp only [Sem.run_bind, zeroValue, typeInfo, run_program, Result.andThen_ok, hi, hz, Sem.run_pure, run_underlying' hu, hm, Value.cells, hps, hfill]

set_option maxHeartbeats 1600000 in
theorem pev_ok {P : Program} {sz : Nat → Nat} {ev : Operand → Option SV} {o : Oper} {ps : List Prop} {r : SV} (h : pev P sz ev o.op = some (ps, r)) (hp : allOf ps) {ad : Nat → Ad} {ρ : Operand → Value}
    (hsz : ∀ c, (ad c).sz = sz c) (hev : ∀ x v, ev x = some v → ρ x = v.va ad) (w : World) : (execOp ρ o).run P w = .ok (.value (r.va ad)) w := by
  obtain ⟨dst, op, type, pos, after, guard⟩ := o
  simp only at h
  cases op <;> simp only [pev] at h <;> try contradiction
  case move x =>
    cases he : ev x with
    | none => simp [he] at h
    | some v => simp [he] at h; obtain ⟨rfl, rfl⟩ := h; simp [execOp, hev _ _ he]
  case assign x =>
    cases he : ev x with
    | none => simp [he] at h
    | some v => simp [he] at h; obtain ⟨rfl, rfl⟩ := h; simp [execOp, hev _ _ he]
  case nilCheck x =>
    split at h <;> try contradiction
    all_goals
      rename_i he
      simp at h; obtain ⟨rfl, rfl⟩ := h
      simp [execOp, hev _ _ he, SV.va]
  case binOp op t x y yt =>
    split at h <;> try contradiction
    rename_i a b ha hb
    have := bin_ok h hp ad w
    simp only [execOp, hev _ _ ha, hev _ _ hb]
    simp only [Sem.run_bind] at this ⊢
    rw [this]; simp
  case unOp op t x =>
    cases op <;> simp only at h <;> try contradiction
    all_goals
      split at h <;> try contradiction
      rename_i he
    · split at h <;> (simp at h; obtain ⟨rfl, rfl⟩ := h)
      · simp [allOf, inR] at hp; simp [execOp, hev _ _ he, SV.va, Op.unary, Op.intArith, hp]
      · simp [execOp, hev _ _ he, SV.va, Op.unary, Op.intArith]
    · simp at h; obtain ⟨rfl, rfl⟩ := h
      simp [execOp, hev _ _ he, SV.va, Op.unary, Op.intBits, ibit]
    · rename_i b
      simp at h; obtain ⟨rfl, rfl⟩ := h
      simp [execOp, hev _ _ he, SV.va, Op.unary]
      cases b <;> simp [SB.val, SB.neg]
  case fieldAddr s x fld =>
    split at h <;> try contradiction
    rename_i hu he
    split at h <;> try contradiction
    rename_i fd hfd
    split at h <;> try contradiction
    rename_i hn
    simp at h; obtain ⟨rfl, rfl⟩ := h
    simp [execOp, hev _ _ he, SV.va, Instr.fieldAt, run_underlying' hu, hfd, Instr.sureAddr, fieldPlace, run_sizeOf0 hn, hn, Ad.at_add]
  case field s x fld =>
    split at h <;> try contradiction
    rename_i hu he
    split at h <;> try contradiction
    rename_i fd hfd
    cases hpt : partOf P fd.type ‹_› fd.offset with
    | none => simp [hpt] at h
    | some v =>
      simp [hpt] at h; obtain ⟨rfl, rfl⟩ := h
      simp [execOp, hev _ _ he, SV.va, Instr.field, run_underlying' hu, hfd, asAgg, partOf_ok hpt ad w]
  case indexAddr t x ix =>
    split at h <;> try contradiction
    rename_i e c i n m k j hu hx hj
    split at h <;> try contradiction
    rename_i hs
    simp at h; obtain ⟨rfl, rfl⟩ := h
    simp only [allOf, and_true] at hp
    have hsz' := run_sizeOf0 hs.2 w
    have := Ad.at_row (ad c) i j.toNat
    rw [hsz c, ← hs.1] at this
    simp [execOp, hev _ _ hx, hev _ _ hj, SV.va, Instr.indexAt, asIntOf, run_underlying' hu, hp, hsz', this]
  case slice t x lo hi mx =>
    cases mx with
    | some _ => simp only at h; contradiction
    | none =>
      simp only at h
      split at h <;> try contradiction
      rotate_left
      · rename_i e hu hx
        split at h <;> try contradiction
        rename_i hs
        have hsz' := run_sizeOf0 hs w
        cases lo with
        | none =>
          cases hi with
          | none =>
            simp at h; obtain ⟨rfl, rfl⟩ := h
            simp [execOp, hev _ _ hx, SV.va, Instr.sliceAt, Instr.slice, Instr.sliceBounds, run_underlying' hu, hsz']
          | some hh =>
            simp only at h
            split at h <;> try contradiction
            rename_i k q hq
            simp at h; obtain ⟨rfl, rfl⟩ := h
            simp [allOf] at hp
            subst hp
            simp [execOp, hev _ _ hx, hev _ _ hq, SV.va, Instr.sliceAt, Instr.slice, Instr.sliceBounds, Instr.sliceBound, asIntOf, run_underlying' hu, hsz']
        | some l =>
          cases hi with
          | none =>
            simp only at h
            split at h <;> try contradiction
            rename_i k q hq
            simp at h; obtain ⟨rfl, rfl⟩ := h
            simp [allOf] at hp
            subst hp
            simp [execOp, hev _ _ hx, hev _ _ hq, SV.va, Instr.sliceAt, Instr.slice, Instr.sliceBounds, Instr.sliceBound, asIntOf, run_underlying' hu, hsz']
          | some hh =>
            simp only at h
            split at h <;> try contradiction
            rename_i k q k' q' hq hq'
            simp at h; obtain ⟨rfl, rfl⟩ := h
            simp [allOf] at hp
            obtain ⟨rfl, rfl⟩ := hp
            simp [execOp, hev _ _ hx, hev _ _ hq, hev _ _ hq', SV.va, Instr.sliceAt, Instr.slice, Instr.sliceBounds, Instr.sliceBound, asIntOf, run_underlying' hu, hsz']
      rename_i e c i n m hu hx
      split at h <;> try contradiction
      rename_i hs
      have hsz' := run_sizeOf0 hs.2 w
      have hat : ∀ k, (if m = k then (ad c).at i 0 else ((ad c).at i 0).add (k * P.cellsOf e)) = (ad c).at (srow m k i) 0 := by
        intro k
        unfold srow
        split
        · rfl
        · rw [hs.1, ← hsz c, Ad.at_row]
      cases lo with
      | none =>
        cases hi with
        | none =>
          simp at h; obtain ⟨rfl, rfl⟩ := h
          have := hat 0
          simp [Ad.at_add, srow] at this
          simp [execOp, hev _ _ hx, SV.va, Instr.sliceAt, Instr.slice, Instr.sliceBounds, run_underlying' hu, hsz', Addr.add]
        | some hh =>
          simp only at h
          split at h <;> try contradiction
          rename_i k q hq
          simp at h; obtain ⟨rfl, rfl⟩ := h
          simp [allOf] at hp
          simp [execOp, hev _ _ hx, hev _ _ hq, SV.va, Instr.sliceAt, Instr.slice, Instr.sliceBounds, Instr.sliceBound, asIntOf, run_underlying' hu, hsz', Addr.add, hp]
      | some l =>
        cases hi with
        | none =>
          simp only at h
          split at h <;> try contradiction
          rename_i k q hq
          simp at h; obtain ⟨rfl, rfl⟩ := h
          simp [allOf] at hp
          have := hat q.toNat
          simp [execOp, hev _ _ hx, hev _ _ hq, SV.va, Instr.sliceAt, Instr.slice, Instr.sliceBounds, Instr.sliceBound, asIntOf, run_underlying' hu, hsz', hp, ← this]
          split <;> simp
        | some hh =>
          simp only at h
          split at h <;> try contradiction
          rename_i k q k' q' hq hq'
          simp at h; obtain ⟨rfl, rfl⟩ := h
          simp [allOf] at hp
          have := hat q.toNat
          simp [execOp, hev _ _ hx, hev _ _ hq, hev _ _ hq', SV.va, Instr.sliceAt, Instr.slice, Instr.sliceBounds, Instr.sliceBound, asIntOf, run_underlying' hu, hsz', hp, ← this]
          split
          · by_cases hm : m = q.toNat <;> simp [hm]
          · omega
  case makeInterface t x =>
    split at h <;> try contradiction
    rename_i d v hn hu hx
    simp at h; obtain ⟨rfl, rfl⟩ := h
    cases d <;> simp_all [execOp, hev _ _ hx, SV.va, Instr.makeInterface, run_underlying' hu]
  case makeFunc fn a b =>
    split at h <;> try contradiction
    rename_i xs ys hx hy
    simp at h; obtain ⟨rfl, rfl⟩ := h
    have e1 := optAll_ok (g := SV.va ad) hev hx
    have e2 := optAll_ok (g := SV.va ad) hev hy
    have e3 : a.map ρ = (SV.vas ad xs).toArray := by apply Array.ext'; simp [SV.vas_eq, e1]
    have e4 : b.map ρ = (SV.vas ad ys).toArray := by apply Array.ext'; simp [SV.vas_eq, e2]
    simp [execOp, SV.va, Instr.makeFunc, e3, e4]
  case extract x i =>
    split at h <;> try contradiction
    rename_i vs hx
    cases hi : vs[i]? with
    | none => simp [hi] at h
    | some v =>
      simp [hi] at h; obtain ⟨rfl, rfl⟩ := h
      simp [execOp, hev _ _ hx, SV.va, Instr.extract, SV.vas_eq, hi]
  case typeAssert x xt t ok =>
    split at h <;> try contradiction
    · rename_i d u v hn hu hx
      split at h
      · rename_i hut
        simp at h; obtain ⟨rfl, rfl⟩ := h
        cases ok <;> cases d <;> simp_all [execOp, hev _ _ hx, SV.va, Instr.typeAssert, run_underlying' hu, SV.vas, SB.val]
      · rename_i hut
        split at h
        · rename_i hok
          cases hz : (P.info? t).bind fun i => i.zero with
          | none => cases hi : P.info? t <;> simp [hi] at h hz; simp [hz] at h
          | some z =>
            have hzv : (zeroValue t).run P w = .ok z w := by
              cases hi : P.info? t <;> simp [hi] at hz
              simp [zeroValue, typeInfo, hi, hz]
            have : ps = [] ∧ r = .tup [SV.ofValue z, .bool .f] := by
              cases hi : P.info? t <;> simp [hi] at hz h
              simp [hz] at h; exact ⟨h.1, h.2.symm⟩
            obtain ⟨rfl, rfl⟩ := this
            cases d <;> simp_all [execOp, hev _ _ hx, SV.va, Instr.typeAssert, run_underlying' hu, SV.vas, SB.val, SV.va_ofValue]
        · cases h
    · rename_i d hn hu hx
      split at h
      · rename_i hok
        cases hz : (P.info? t).bind fun i => i.zero with
        | none => cases hi : P.info? t <;> simp [hi] at h hz; simp [hz] at h
        | some z =>
          have hzv : (zeroValue t).run P w = .ok z w := by
            cases hi : P.info? t <;> simp [hi] at hz
            simp [zeroValue, typeInfo, hi, hz]
          have : ps = [] ∧ r = .tup [SV.ofValue z, .bool .f] := by
            cases hi : P.info? t <;> simp [hi] at hz h
            simp [hz] at h; exact ⟨h.1, h.2.symm⟩
          obtain ⟨rfl, rfl⟩ := this
          cases d <;> simp_all [execOp, hev _ _ hx, SV.va, Instr.typeAssert, run_underlying' hu, SV.vas, SB.val, SV.va_ofValue]
      · cases h
  case convert s d x =>
    split at h <;> try contradiction
    rename_i ds k k' n hs hd hx
    split at h
    · simp at h; obtain ⟨rfl, rfl⟩ := h
      simp [allOf, inR] at hp
      simp [execOp, hev _ _ hx, SV.va, convert, run_underlying' hs, run_underlying' hd, Conv.intToInt, hp]
    · simp at h; obtain ⟨rfl, rfl⟩ := h
      simp [execOp, hev _ _ hx, SV.va, convert, run_underlying' hs, run_underlying' hd, Conv.intToInt]
  case build t parts =>
    split at h <;> try contradiction
    rename_i fs i qs hu hi hq
    split at h <;> try contradiction
    rename_i z hz
    split at h <;> try contradiction
    rename_i hf
    cases hfp : fillParts P fs (z.toList.map SV.atom) qs with
    | none => simp [hfp] at h
    | some out =>
      simp [hfp] at h; obtain ⟨rfl, rfl⟩ := h
      have hmap : (parts.map fun p => (p.1, ρ p.2)).toList = qs.map fun p => (p.1, p.2.va ad) := by
        clear hfp
        simp only [Array.toList_map]
        generalize parts.toList = l at hq
        induction l generalizing qs with
        | nil => simp [optAll] at hq; subst hq; rfl
        | cons a l ih =>
          simp only [optAll] at hq
          split at hq <;> try contradiction
          rename_i b s hb hs
          simp at hq; subst hq
          cases hea : ev a.2 with
          | none => simp [hea] at hb
          | some v => simp [hea] at hb; subst hb; simp [hev _ _ hea, ih _ hs]
      have := build_ok hu hi hz hf ad hfp w _ hmap
      simp [execOp, SV.va, this]
  case call c =>
    obtain ⟨callee, args, argTypes⟩ := c
    simp only at h
    split at h <;> try contradiction
    · split at h <;> try contradiction
      rename_i t x ht hx
      split at h <;> try contradiction
      · rename_i e c i n m hu he
        simp at h; obtain ⟨rfl, rfl⟩ := h
        simp [execOp, resolve, invoke, builtin, Builtin.len_, ht, hx, hev _ _ he, SV.va, run_underlying' hu, goInt]
      · rename_i e hu he
        simp at h; obtain ⟨rfl, rfl⟩ := h
        simp [execOp, resolve, invoke, builtin, Builtin.len_, ht, hx, hev _ _ he, SV.va, run_underlying' hu, goInt]
    · split at h <;> try contradiction
      rename_i t x ht hx
      split at h <;> try contradiction
      · rename_i e c i n m hu he
        simp at h; obtain ⟨rfl, rfl⟩ := h
        simp [execOp, resolve, invoke, builtin, Builtin.cap_, ht, hx, hev _ _ he, SV.va, run_underlying' hu, goInt]
      · rename_i e hu he
        simp at h; obtain ⟨rfl, rfl⟩ := h
        simp [execOp, resolve, invoke, builtin, Builtin.cap_, ht, hx, hev _ _ he, SV.va, run_underlying' hu, goInt]
    · split at h <;> try contradiction
      rename_i x y hargs
      split at h <;> try contradiction
      rename_i k a k' b hx hy
      split at h <;> try contradiction
      simp at h; obtain ⟨rfl, rfl⟩ := h
      have ha : args = #[x, y] := by apply Array.ext'; simpa using hargs
      subst ha
      simp only [execOp, resolve, invoke, builtin, List.map_toArray, List.map_cons, List.map_nil, hev _ _ hx, hev _ _ hy, SV.va]
      simp [Builtin.min_, Builtin.min2]
      omega
    · split at h <;> try contradiction
      rename_i x y hargs
      split at h <;> try contradiction
      rename_i k a k' b hx hy
      split at h <;> try contradiction
      simp at h; obtain ⟨rfl, rfl⟩ := h
      have ha : args = #[x, y] := by apply Array.ext'; simpa using hargs
      subst ha
      simp only [execOp, resolve, invoke, builtin, List.map_toArray, List.map_cons, List.map_nil, hev _ _ hx, hev _ _ hy, SV.va]
      simp [Builtin.max_, Builtin.max2]
      omega

end Go.Vx
