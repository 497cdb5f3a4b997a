/-
  The symbolic evaluator, sixth part: memory: loads, stores, new chunks.
  Conditions: none.
-/
import Derived.Test.YtgbgfdmhmahonaaDoorVxE
namespace Go.Vx
open Go
variable {C : Nat → Codec}

def SV.top : SV → Bool
  | .junk => false
  | .agg vs => vs.all fun v => !(isJunk v)
  | _ => true

def loadSV (P : Program) (m : List (Ck C)) (t : TypeId) (c i f : Nat) : Ans :=
  match (nth m c).cells with
  | .rows t' l => (partOf P t ((C t').enc (l.getD i (C t').dflt)) f).map fun v => ([i < l.length], v)
  | .one vs => match i with
    | 0 => match partOf P t vs f with
      | some v => if v.top then some ([], v) else none
      | none => none
    | _ + 1 => none
  | .mp _ _ _ _ => none
  | .it _ _ _ => none
  | .dead => none

def lev (P : Program) (tm : Tm) (m : List (Ck C)) (al : List (Nat × Bool)) (o : Op) : Ans :=
  match o with
  | .load t a => match ev tm m al a with
    | some (.ptr c i f) => loadSV P m t c i f
    | some (.gp g) => match aggTy P t, (C g).gv with
      | some false, some v => some ([], v)
      | _, _ => none
    | _ => none
  | _ => none

theorem nth_ge {m : List (Ck C)} {c : Nat} (h : m.length ≤ c) : nth m c = Ck.zero := by
  induction m generalizing c with
  | nil => rfl
  | cons x r ih =>
    cases c with
    | zero => simp at h
    | succ c => exact ih (by simpa using h)
theorem lt_of_live {m : List (Ck C)} {c : Nat} (h : (nth m c).live = true) : c < m.length := by
  rcases Nat.lt_or_ge c m.length with h' | h'
  · exact h'
  · rw [nth_ge h'] at h; simp [Ck.zero, Ck.live] at h

theorem run_loadVar {P : Program} {w : World} {t : TypeId} {a : Addr} {b : Bool} (ht : aggTy P t = some b) {vs : List Value} (off : Nat) (hn : b = true → off + P.cellsOf t ≤ vs.length)
    (hn' : b = false → off < vs.length) (hc : ∀ j v, vs[j]? = some v → off ≤ j → j < off + (if b then P.cellsOf t else 1) → w.cell? (a.add (j - off)) = some v) :
    (loadVar t a).run P w = .ok (if b then .agg ((vs.drop off).take (P.cellsOf t)).toArray else vs.getD off Go.undef) w := by
  cases b with
  | true =>
    have hl : ((vs.drop off).take (P.cellsOf t)).length = P.cellsOf t := by have := hn rfl; simp; omega
    have := run_loadCells_list (P := P) w a ((vs.drop off).take (P.cellsOf t)) (by
      intro j v hj
      rw [List.getElem?_take] at hj
      split at hj
      · rename_i hjn
        rw [List.getElem?_drop] at hj
        have := hc (off + j) v hj (by omega) (by simp; omega)
        simpa using this
      · cases hj)
    rw [hl] at this
    simp [loadVar, aggTy_ok ht, aggTy_size ht, this]
  | false =>
    have h1 := hn' rfl
    have h2 : vs[off]? = some (vs.getD off Go.undef) := by simp [List.getD, List.getElem?_eq_getElem h1]
    have := hc off _ h2 (by omega) (by simp)
    rw [show a.add (off - off) = a by simp [Addr.add]] at this
    simp [loadVar, aggTy_ok ht, this]

theorem cellIs_of {ad : Nat → Ad} {w : World} {a : Addr} {v : SV} (h : cellIs ad w a v) (hj : isJunk v = false) : w.cell? a = some (v.va ad) := by
  cases v <;> first | exact h | cases hj

theorem loadSV_okc {P : Program} {w : World} {m : List (Ck C)} {c : Nat} (hok : Ck.ok (ads m) w (nth m c)) {t i f : Nat} {ps : List Prop} {r : SV} (h : loadSV P m t c i f = some (ps, r)) (hp : allOf ps) :
    (loadVar t ((ads m c).at i f)).run P w = .ok (r.va (ads m)) w := by
  unfold loadSV at h
  split at h <;> try contradiction
  · rename_i t' l hcl
    simp only [Ck.ok, hcl] at hok
    obtain ⟨_, hok⟩ := hok
    have hlen := (C t').len (l.getD i (C t').dflt)
    cases hpo : partOf P t ((C t').enc (l.getD i (C t').dflt)) f with
    | none => rw [hpo] at h; cases h
    | some v =>
      rw [hpo] at h
      simp only [Option.map_some, Option.some.injEq, Prod.mk.injEq] at h
      obtain ⟨rfl, rfl⟩ := h
      simp only [allOf, and_true] at hp
      have hok' := hok i hp
      generalize (C t').enc (l.getD i (C t').dflt) = es at hlen hpo hok'
      have hcell : ∀ j v, (SV.vas (ads m) es)[j]? = some v → w.cell? ((ads m c).at i j) = some v := by
        intro j v hj
        have hjl : j < es.length := by
          have := (List.getElem?_eq_some_iff.1 hj).1
          simpa [SV.vas_eq] using this
        have := hok' j (by omega)
        rw [SV.vas_eq, List.getElem?_map, List.getElem?_eq_getElem hjl] at hj
        simp only [Option.map_some, Option.some.injEq] at hj
        rw [← hj]
        simp only [ads]
        rw [this]
        simp [List.getD, List.getElem?_eq_getElem hjl]
      unfold partOf at hpo
      split at hpo
      · rename_i ha
        split at hpo
        · rename_i hle
          simp at hpo; subst hpo
          have := run_loadVar (w := w) (a := (ads m c).at i f) ha (vs := SV.vas (ads m) es) f (fun _ => by simpa [SV.vas_eq] using hle) (fun h => by cases h)
            (fun j v hj h1 h2 => by rw [Ad.at_add, show f + (j - f) = j by omega]; exact hcell j v hj)
          rw [this]
          simp [SV.va, SV.vas_eq, List.map_take, List.map_drop]
        · cases hpo
      · rename_i ha
        have hfl : f < (SV.vas (ads m) es).length := by
          have := (List.getElem?_eq_some_iff.1 hpo).1
          simpa [SV.vas_eq] using this
        have := run_loadVar (w := w) (a := (ads m c).at i f) ha (vs := SV.vas (ads m) es) f (fun h => by cases h) (fun _ => hfl)
          (fun j v hj h1 h2 => by rw [Ad.at_add, show f + (j - f) = j by omega]; exact hcell j v hj)
        rw [this]
        simp [SV.vas_eq, List.getD, hpo]
      · cases hpo
  · rename_i vs hcl
    split at h <;> try contradiction
    simp only [Ck.ok, hcl] at hok
    obtain ⟨_, hok⟩ := hok
    cases hpo : partOf P t vs f with
    | none => simp [hpo] at h
    | some v =>
      simp only [hpo] at h
      split at h <;> try contradiction
      rename_i htop
      simp only [Option.some.injEq, Prod.mk.injEq] at h
      obtain ⟨rfl, rfl⟩ := h
      have hcell : ∀ j v, vs[j]? = some v → isJunk v = false → w.cell? ((ads m c).at 0 j) = some (v.va (ads m)) := by
        intro j v hj hjk
        have hjl := (List.getElem?_eq_some_iff.1 hj).1
        have := hok j hjl
        rw [show vs.getD j .junk = v by simp [List.getD, hj]] at this
        exact cellIs_of this hjk
      unfold partOf at hpo
      split at hpo
      · rename_i ha
        split at hpo
        · rename_i hle
          simp at hpo; subst hpo
          have := run_loadVar (w := w) (a := (ads m c).at 0 f) ha (vs := SV.vas (ads m) vs) f (fun _ => by simpa [SV.vas_eq] using hle) (fun h => by cases h)
            (fun j v hj h1 h2 => by
              rw [Ad.at_add, show f + (j - f) = j by omega]
              simp only [if_true] at h2
              rw [SV.vas_eq, List.getElem?_map] at hj
              cases hvj : vs[j]? with
              | none => simp [hvj] at hj
              | some u =>
                simp [hvj] at hj; subst hj
                refine hcell j u hvj ?_
                simp only [SV.top, List.all_eq_true] at htop
                have hmem : u ∈ (vs.drop f).take (P.cellsOf t) := by
                  apply List.mem_of_getElem? (i := j - f)
                  rw [List.getElem?_take_of_lt (by omega), List.getElem?_drop, show f + (j - f) = j by omega, hvj]
                have := htop u hmem
                simpa using this)
          rw [this]
          simp [SV.va, SV.vas_eq, List.map_take, List.map_drop]
        · cases hpo
      · rename_i ha
        have hfl := (List.getElem?_eq_some_iff.1 hpo).1
        have := run_loadVar (w := w) (a := (ads m c).at 0 f) ha (vs := SV.vas (ads m) vs) f (fun h => by cases h) (fun _ => by simpa [SV.vas_eq] using hfl)
          (fun j v hj h1 h2 => by
            rw [Ad.at_add, show f + (j - f) = j by omega]
            have : j = f := by simp at h2; omega
            subst this
            rw [SV.vas_eq, List.getElem?_map, hpo] at hj
            simp at hj; subst hj
            refine hcell j _ hpo ?_
            cases hv : (‹SV›) <;> simp_all [SV.top, isJunk])
        rw [this]
        simp [SV.vas_eq, List.getD, hpo]
      · cases hpo

theorem loadSV_ok {P : Program} {S : Sx} {w0 w : World} {m : List (Ck C)} (hm : MemOK S w0 w m) {t : TypeId} {c i f : Nat} {ps : List Prop} {r : SV} (h : loadSV P m t c i f = some (ps, r)) (hp : allOf ps) :
    (loadVar t ((ads m c).at i f)).run P w = .ok (r.va (ads m)) w := by
  cases hl : (nth m c).live with
  | true => exact loadSV_okc (hm.ok _ (nth_mem (lt_of_live hl))) h hp
  | false =>
    unfold Ck.live at hl
    split at hl <;> try contradiction
    rename_i hd
    simp [loadSV, hd] at h

theorem lev_ok {P : Program} {S : Sx} {w0 w : World} {n : Nat} {tm : Tm} {m : List (Ck C)} {a : Act} (h : ActOK (ads m) n tm a) (hm : MemOK S w0 w m) {al : List (Nat × Bool)} (ha : AlOK tm al) {o : Oper} {ps : List Prop} {r : SV}
    (hl : lev P tm m al o.op = some (ps, r)) (hp : allOf ps) : (execOp a.eval o).run P w = .ok (.value (r.va (ads m))) w := by
  obtain ⟨dst, op, type, pos, after, guard⟩ := o
  simp only at hl
  cases op <;> simp only [lev] at hl <;> try contradiction
  case load t x =>
    split at hl <;> try contradiction
    · rename_i c i f he
      have h1 := ev_ok h hm.glob ha _ _ he
      have h2 := loadSV_ok hm hl hp
      simp [execOp, Instr.loadAt, h1, SV.va, Instr.sureAddr, h2]
    · rename_i g he
      have h1 := ev_ok h hm.glob ha _ _ he
      split at hl <;> try contradiction
      rename_i v hag hv
      simp only [Option.some.injEq, Prod.mk.injEq] at hl
      obtain ⟨_, rfl⟩ := hl
      have hc := (hm.more.gv g v hv).1
      rw [(C g).gflat v hv noAd (ads m)] at hc
      have h2 := run_loadVar (P := P) (w := w) (a := ⟨g, 0, none⟩) hag (vs := [v.va (ads m)]) 0 (fun h => by cases h) (fun _ => by simp) (fun j u hj _ h2 => by
        have : j = 0 := by simp at h2; omega
        subst this
        simp only [List.getElem?_cons_zero, Option.some.injEq] at hj
        subst hj
        simpa [Addr.add] using hc)
      simp [execOp, Instr.loadAt, h1, SV.va, Instr.sureAddr, h2]

end Go.Vx
