/-
  The symbolic evaluator, tenth part: the operations with an effect.
  Conditions: none.
-/
import Derived.Test.YtgbgfdmhmahonaaDoorVxI
namespace Go.Vx
open Go
variable {C : Nat → Codec}

def conj : List Prop → Tr → Tr
  | [], X => X
  | p :: r, X => .and (.lf p) (conj r X)
theorem conj_iff : ∀ (ps : List Prop) (X : Tr), (conj ps X).holds ↔ allOf ps ∧ X.holds
  | [], X => by simp [conj, allOf]
  | p :: r, X => by
    have e : (conj (p :: r) X).holds ↔ p ∧ (conj r X).holds := Iff.rfl
    rw [e, conj_iff r X]
    simp [allOf, and_assoc]

def castL {t1 t2 : Nat} (h : t2 = t1) (l : List (C t2).α) : List (C t1).α := h ▸ l

def appendSV (P : Program) (tm : Tm) (m : List (Ck C)) (e : TypeId) (s x : SV) (K : SV → List (Ck C) → Tr) : Tr :=
  match P.info? e with
  | none => .no
  | some ti =>
    match memLt m.length m && tmLt m.length tm && !(Nat.beq ti.bytes 0) && zeroOK P (C e) e with
    | false => .no
    | true =>
      match x with
      | .sl c2 i2 k _ => match (nth m c2).cells with
        | .rows t2 l2 => if h2 : t2 = e then
            match s with
            | .sl c i n mm => match (nth m c).cells with
              | .rows t1 l1 => if h1 : t1 = e then
                  .and (.lf (n ≤ mm ∧ i + mm ≤ l1.length ∧ i2 + k ≤ l2.length ∧ (n + k) * ti.bytes ≤ 140737488355328))
                  (match (nth m c).wr with
                  | true => .all fun b => .all fun base => .all fun (sp : List (C e).α) => .all fun cap => .imp (n + k ≤ cap) (.imp (cap ≤ n + k + sp.length)
                      (K (.sl m.length 0 (n + k) cap) (setCk m c .dead ++ [⟨b, base, (C e).sz, true, none, .rows e (((castL h1 l1).drop i).take n ++ ((castL h2 l2).drop i2).take k ++ sp)⟩])))
                  | false => .and (.lf (mm < n + k)) (.all fun b => .all fun (sp : List (C e).α) =>
                      K (.sl m.length 0 (n + k) (n + k + sp.length)) (m ++ [⟨b, 0, (C e).sz, true, none, .rows e (((castL h1 l1).drop i).take n ++ ((castL h2 l2).drop i2).take k ++ sp)⟩])))
                else .no
              | _ => .no
            | .nils => .and (.lf (i2 + k ≤ l2.length ∧ k * ti.bytes ≤ 140737488355328)) (.and (.imp (k = 0) (K .nils m))
                (.imp (0 < k) (.all fun b => .all fun (sp : List (C e).α) => K (.sl m.length 0 k (k + sp.length)) (m ++ [⟨b, 0, (C e).sz, true, none, .rows e (((castL h2 l2).drop i2).take k ++ sp)⟩]))))
            | _ => .no
          else .no
        | _ => .no
      | .nils => match s with
        | .sl c i n mm => .and (.lf (n ≤ mm)) (K (.sl c i n mm) m)
        | .nils => K .nils m
        | _ => .no
      | _ => .no

/-- 'clear' of a slice. -/
def clearSV (P : Program) (m : List (Ck C)) (e : TypeId) (s : SV) (K : SV → List (Ck C) → Tr) : Tr :=
  match zeroOK P (C e) e with
  | false => .no
  | true => match s with
    | .nils => K (.tup []) m
    | .sl c i n _ => match (nth m c).cells with
      | .rows t l => if h : t = e then
          match (nth m c).wr with
          | true => .and (.lf (i + n ≤ l.length)) (K (.tup []) (setCk m c (.rows e ((castL h l).take i ++ List.replicate n (C e).dflt ++ (castL h l).drop (i + n)))))
          | false => .no
        else .no
      | _ => .no
    | _ => .no

/-- The operations with an effect: what they ask, and what follows. -/
def eev (P : Program) (tm : Tm) (m : List (Ck C)) (al : List (Nat × Bool)) (o : Op) (K : SV → List (Ck C) → Tr) : Tr :=
  match o with
  | .store t a v => match ev tm m al a, ev tm m al v with
    | some (.ptr c i f), some x => match storeSV P m t c i f x with
      | some (ps, m') => conj ps (K .undef m')
      | none => .no
    | _, _ => .no
  | .alloc e => match memLt m.length m && tmLt m.length tm with
    | true => match newCells P C e with
      | some (sz, cs) => .all fun b => K (.ptr m.length 0 0) (m ++ [⟨b, 0, sz, true, none, cs⟩])
      | none => .no
    | false => .no
  | .box _ x => match ev tm m al x with
    | some v => match memLt m.length m && tmLt m.length tm && v.plain && SV.lts m.length v.parts with
      | true => .all fun b => K (.ptr m.length 0 0) (m ++ [⟨b, 0, v.parts.length, true, none, .one v.parts⟩])
      | false => .no
    | none => .no
  | .makeSlice t l c => match P.underlying t, ev tm m al l, ev tm m al c with
    | some (.slice e), some (.int _ n), some (.int _ q) => match P.info? e with
      | some i => match memLt m.length m && tmLt m.length tm && zeroOK P (C e) e with
        | true => .and (.lf (0 ≤ n ∧ n ≤ q ∧ (i.bytes : Int) * q ≤ 281474976710656 ∧ q ≤ 9223372036854775807)) (.all fun b => K (.sl m.length 0 n.toNat q.toNat) (m ++ [⟨b, 0, (C e).sz, true, none, .rows e (List.replicate q.toNat (C e).dflt)⟩]))
        | false => .no
      | none => .no
    | _, _, _ => .no
  | .buildSlice t len ps => match P.underlying t, optAll (fun (p : Nat × Operand) => (ev tm m al p.2).map fun v => (p.1, v)) ps.toList with
    | some (.slice e), some qs => match memLt m.length m && tmLt m.length tm && zeroOK P (C e) e && Nat.ble (len * (C e).sz) 16777216 with
      | true => match fillRows (C e) (List.replicate len (C e).dflt) qs with
        | some l => .all fun b => K (.sl m.length 0 len len) (m ++ [⟨b, 0, (C e).sz, true, none, .rows e l⟩])
        | none => .no
      | false => .no
    | _, _ => .no
  | .call c => match c.callee with
    | .builtin .append => match c.argTypes.toList, c.args.toList with
      | [t, t'], [s, x] => match Nat.beq t t', P.underlying t, ev tm m al s, ev tm m al x with
        | true, some (.slice e), some s, some x => appendSV P tm m e s x K
        | _, _, _, _ => .no
      | _, _ => .no
    | .builtin .clear => match c.argTypes.toList, c.args.toList with
      | [t], [x] => match P.underlying t, ev tm m al x with
        | some (.slice e), some s => clearSV P m e s K
        | _, _ => .no
      | _, _ => .no
    | _ => .no
  | _ => .no

/-- What an operation with an effect leaves. -/
structure Left (P : Program) (S : Sx) (w0 : World) (tm : Tm) (m : List (Ck C)) (w : World) (s : Sem Next) (K : SV → List (Ck C) → Tr) : Prop where
  ex : ∃ w' m' r, (s.run P w = .ok (.value (r.va (ads m'))) w' ∨ (s.run P w = .ok .skip w' ∧ r = .undef)) ∧ MemOK S w0 w' m' ∧ K r m' ∧ (∀ k, k < m.length → ads m k = ads m' k) ∧ m.length ≤ m'.length ∧
    (m'.length = m.length ∧ ads m' = ads m ∨ tmLt m.length tm = true)

theorem eev_store {P : Program} {S : Sx} {w0 w : World} {n : Nat} {tm : Tm} {m : List (Ck C)} {a : Act} (h : ActOK (ads m) n tm a) (hm : MemOK S w0 w m) {al : List (Nat × Bool)} (ha : AlOK tm al) {t : TypeId} {x y : Operand}
    {dst : Option Tmp} {ty : TypeId} {pos : String} {after : Array Edge} {g : Option (Nat × Bool)}
    {K : SV → List (Ck C) → Tr} (hl : eev P tm m al (.store t x y) K) : Left P S w0 tm m w (execOp a.eval ⟨dst, .store t x y, ty, pos, after, g⟩) K := by
  simp only [eev] at hl
  split at hl <;> try (first | contradiction | exact False.elim hl)
  rename_i c i f v h1 h2
  split at hl <;> try (first | contradiction | exact False.elim hl)
  rename_i ps m' hs
  obtain ⟨hp, hK⟩ := (conj_iff _ _).1 hl
  obtain ⟨w', hr, hm', ha', hlen⟩ := storeSV_ok hm hs hp
  have e1 := ev_ok h hm.glob ha _ _ h1
  have e2 := ev_ok h hm.glob ha _ _ h2
  refine ⟨w', m', .undef, .inr ⟨?_, rfl⟩, hm', hK, fun k _ => by rw [ha'], by omega, .inl ⟨hlen, ha'⟩⟩
  simp [execOp, Instr.storeAt, e1, e2, SV.va, Instr.sureAddr, hr]

theorem eev_alloc {P : Program} {S : Sx} {w0 w : World} {tm : Tm} {m : List (Ck C)} {a : Act} (hm : MemOK S w0 w m) {al : List (Nat × Bool)} {e : TypeId}
    {dst : Option Tmp} {ty : TypeId} {pos : String} {after : Array Edge} {g : Option (Nat × Bool)}
    {K : SV → List (Ck C) → Tr} (hl : eev P tm m al (.alloc e) K) : Left P S w0 tm m w (execOp a.eval ⟨dst, .alloc e, ty, pos, after, g⟩) K := by
  simp only [eev] at hl
  split at hl <;> try (first | contradiction | exact False.elim hl)
  rename_i hc
  simp only [Bool.and_eq_true] at hc
  split at hl <;> try (first | contradiction | exact False.elim hl)
  rename_i sz cs hn
  obtain ⟨z, hz, hok⟩ := newCells_ok hn w (ads (m ++ [⟨w.heap.size, 0, sz, true, none, cs⟩]))
  refine ⟨_, _, _, .inl ?_, hm.new hc.1 z.cells e sz cs hok, hl w.heap.size, ads_append _ _, by simp, .inr hc.2⟩
  have : ads (m ++ [(⟨w.heap.size, 0, sz, true, none, cs⟩ : Ck C)]) m.length = ⟨w.heap.size, 0, sz⟩ := ads_append_new _ _
  simp [execOp, Instr.alloc, hz, newVar, newRow, SV.va, this, Ad.at]

theorem eev_box {P : Program} {S : Sx} {w0 w : World} {n : Nat} {tm : Tm} {m : List (Ck C)} {a : Act} (h : ActOK (ads m) n tm a) (hm : MemOK S w0 w m) {al : List (Nat × Bool)} (ha : AlOK tm al) {e : TypeId} {x : Operand}
    {dst : Option Tmp} {ty : TypeId} {pos : String} {after : Array Edge} {g : Option (Nat × Bool)}
    {K : SV → List (Ck C) → Tr} (hl : eev P tm m al (.box e x) K) : Left P S w0 tm m w (execOp a.eval ⟨dst, .box e x, ty, pos, after, g⟩) K := by
  simp only [eev] at hl
  split at hl <;> try (first | contradiction | exact False.elim hl)
  rename_i v hv
  split at hl <;> try (first | contradiction | exact False.elim hl)
  rename_i hc
  simp only [Bool.and_eq_true] at hc
  obtain ⟨⟨⟨h1, h2⟩, h3⟩, h4⟩ := hc
  have e1 := ev_ok h hm.glob ha _ _ hv
  have hcs := SV.plain_cells (ads m) h3
  have hvas := SV.vas_congr (ads_append m ⟨w.heap.size, 0, v.parts.length, true, none, .one v.parts⟩) v.parts h4
  have hok := one_ok (C := C) (ad := ads (m ++ [⟨w.heap.size, 0, v.parts.length, true, none, .one v.parts⟩])) w e v.parts (v.va (ads m)).cells (by rw [hcs, ← SV.vas_eq, ← hvas]) true none
  refine ⟨_, _, _, .inl ?_, hm.new h1 _ e _ _ hok, hl w.heap.size, ads_append _ _, by simp, .inr h2⟩
  have : ads (m ++ [(⟨w.heap.size, 0, v.parts.length, true, none, .one v.parts⟩ : Ck C)]) m.length = ⟨w.heap.size, 0, v.parts.length⟩ := ads_append_new _ _
  simp [execOp, Instr.box, e1, newVar, newRow, SV.va, this, Ad.at]

theorem eev_make {P : Program} {S : Sx} {w0 w : World} {n : Nat} {tm : Tm} {m : List (Ck C)} {a : Act} (h : ActOK (ads m) n tm a) (hm : MemOK S w0 w m) {al : List (Nat × Bool)} (ha : AlOK tm al) {t : TypeId} {x y : Operand}
    {dst : Option Tmp} {ty : TypeId} {pos : String} {after : Array Edge} {g : Option (Nat × Bool)}
    {K : SV → List (Ck C) → Tr} (hl : eev P tm m al (.makeSlice t x y) K) : Left P S w0 tm m w (execOp a.eval ⟨dst, .makeSlice t x y, ty, pos, after, g⟩) K := by
  simp only [eev] at hl
  split at hl <;> try (first | contradiction | exact False.elim hl)
  rename_i e k n k' q hu h1 h2
  split at hl <;> try (first | contradiction | exact False.elim hl)
  rename_i i hi
  split at hl <;> try (first | contradiction | exact False.elim hl)
  rename_i hc
  simp only [Bool.and_eq_true] at hc
  obtain ⟨⟨c1, c2⟩, c3⟩ := hc
  obtain ⟨hlf, hK⟩ := hl
  obtain ⟨p1, p2, p3, p4⟩ := hlf
  obtain ⟨i', z, hi', hz, hzz, hsz, hn0, hzs⟩ := zeroOK_ok c3
  rw [hi] at hi'
  simp only [Option.some.injEq] at hi'
  subst hi'
  have e1 := ev_ok h hm.glob ha _ _ h1
  have e2 := ev_ok h hm.glob ha _ _ h2
  have hr := run_make (P := P) w t e i z hu hi hz k k' n q p1 p2 p3 p4
  rw [hsz] at hr
  have hfl := flat_made (ad := ads (m ++ [⟨w.heap.size, 0, (C e).sz, true, none, .rows e (List.replicate q.toNat (C e).dflt)⟩])) (hzz _) hzs q.toNat
  refine ⟨_, _, _, .inl ?_, hm.new c1 _ e _ _ (hfl.ok w e true none), hK w.heap.size, ads_append _ _, by simp, .inr c2⟩
  have : ads (m ++ [(⟨w.heap.size, 0, (C e).sz, true, none, .rows e (List.replicate q.toNat (C e).dflt)⟩ : Ck C)]) m.length = ⟨w.heap.size, 0, (C e).sz⟩ := ads_append_new _ _
  simp [execOp, e1, e2, SV.va, hr, this, Ad.at]

theorem optAll_pairs {ev : Operand → Option SV} {ρ : Operand → Value} {ad : Nat → Ad} (hev : ∀ x v, ev x = some v → ρ x = v.va ad) : ∀ {l : List (Nat × Operand)} {qs : List (Nat × SV)},
    optAll (fun (p : Nat × Operand) => (ev p.2).map fun v => (p.1, v)) l = some qs → l.map (fun p => (p.1, ρ p.2)) = qs.map fun p => (p.1, p.2.va ad)
  | [], qs, h => by simp [optAll] at h; subst h; rfl
  | a :: l, qs, h => by
    simp only [optAll] at h
    split at h <;> try (first | contradiction | exact False.elim h)
    rename_i b s hb hs
    simp only [Option.some.injEq] at h; subst h
    cases hea : ev a.2 with
    | none => simp [hea] at hb
    | some v =>
      simp only [hea, Option.map_some, Option.some.injEq] at hb; subst hb
      simp [hev _ _ hea, optAll_pairs hev hs]

theorem eev_buildSlice {P : Program} {S : Sx} {w0 w : World} {n : Nat} {tm : Tm} {m : List (Ck C)} {a : Act} (h : ActOK (ads m) n tm a) (hm : MemOK S w0 w m) {al : List (Nat × Bool)} (ha : AlOK tm al) {t : TypeId} {len : Nat} {ps : Array (Nat × Operand)}
    {dst : Option Tmp} {ty : TypeId} {pos : String} {after : Array Edge} {g : Option (Nat × Bool)}
    {K : SV → List (Ck C) → Tr} (hl : eev P tm m al (.buildSlice t len ps) K) : Left P S w0 tm m w (execOp a.eval ⟨dst, .buildSlice t len ps, ty, pos, after, g⟩) K := by
  simp only [eev] at hl
  split at hl <;> try (first | contradiction | exact False.elim hl)
  rename_i e qs hu hq
  split at hl <;> try (first | contradiction | exact False.elim hl)
  rename_i hc
  simp only [Bool.and_eq_true] at hc
  obtain ⟨⟨⟨c1, c2⟩, c3⟩, c4⟩ := hc
  split at hl <;> try (first | contradiction | exact False.elim hl)
  rename_i l hfr
  obtain ⟨i, z, hi, hz, hzz, hsz, hn0, hzs⟩ := zeroOK_ok c3
  have c4 : len * (C e).sz ≤ 16777216 := Nat.le_of_ble_eq_true c4
  have hpairs := optAll_pairs (fun x v => ev_ok h hm.glob ha x v) hq
  obtain ⟨arr', h1, h2⟩ := fillRows_ok (ad := ads m) hn0 qs _ l _ hfr (flat_made (hzz _) hzs len)
  have h3 : (ps.map fun p => (p.1, a.eval p.2)).toList = qs.map fun p => (p.1, p.2.va (ads m)) := by rw [← hpairs]; simp
  have hfl := h2.ads (ads (m ++ [⟨w.heap.size, 0, (C e).sz, true, none, .rows e l⟩]))
  refine ⟨_, _, _, .inl ?_, hm.new c1 arr' e _ _ (hfl.ok w e true none), hl w.heap.size, ads_append _ _, by simp, .inr c2⟩
  have : ads (m ++ [(⟨w.heap.size, 0, (C e).sz, true, none, .rows e l⟩ : Ck C)]) m.length = ⟨w.heap.size, 0, (C e).sz⟩ := ads_append_new _ _
  have hso : (sizeOf e).run P w = .ok (C e).sz w := by simp [sizeOf, typeInfo, hi, hsz]
  have hbig : ¬ (16777216 < len * (C e).sz) := by omega
  have h4 : (Array.map (fun p : Nat × Operand => (p.1, a.eval p.2)) ps).toList = qs.map fun p => (p.1, p.2.va (ads m)) := h3
  by_cases h0 : len * (C e).sz = 0
  · have hl0 : len = 0 := by rcases Nat.mul_eq_zero.1 h0 with h | h; exact h; exact absurd h hn0
    subst hl0
    have e1 : madeCells z.cells (0 * (C e).sz) = #[] := by simp [madeCells]
    rw [e1, ← h4] at h1
    simp only [Array.toList_map] at h1
    have e2 : Array.range 0 = #[] := rfl
    simp [execOp, Instr.buildSlice, run_underlying' hu, hso, newRow, SV.va, this, Ad.at, e2, h1]
  · rw [← h4] at h1
    simp only [Array.toList_map, madeCells] at h1
    simp [execOp, Instr.buildSlice, run_underlying' hu, hso, hbig, zeroValue, typeInfo, hi, hz, newRow, SV.va, this, Ad.at, h1]
    intro h5; exact absurd h5 h0

end Go.Vx
