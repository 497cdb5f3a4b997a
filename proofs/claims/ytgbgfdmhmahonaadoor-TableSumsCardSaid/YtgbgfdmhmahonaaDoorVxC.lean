/-
  The symbolic evaluator, third part: 'pev' is right, in every world.
  Conditions: none.
-/
import Derived.Test.YtgbgfdmhmahonaaDoorVxB
namespace Go.Vx
open Go

theorem aggTy_ok {P : Program} {t : TypeId} {b : Bool} (h : aggTy P t = some b) (w : World) : (isAgg t).run P w = .ok b w := by
  unfold aggTy at h
  split at h
  · rename_i hu; simp at h; subst h; simp [isAgg, run_underlying' hu]
  · rename_i hu; simp at h; subst h; simp [isAgg, run_underlying' hu]
  · rename_i d hns hna hu
    simp at h; subst h
    cases d <;> simp_all [isAgg, run_underlying' hu]
  · cases h
theorem aggTy_size {P : Program} {t : TypeId} {b : Bool} (h : aggTy P t = some b) (w : World) : (sizeOf t).run P w = .ok (P.cellsOf t) w := by
  unfold aggTy at h
  split at h
  · rename_i hu; exact run_sizeOf' hu w
  · rename_i hu; exact run_sizeOf' hu w
  · rename_i hu; exact run_sizeOf' hu w
  · cases h

theorem partOf_ok {P : Program} {t : TypeId} {vs : List SV} {off : Nat} {v : SV} (h : partOf P t vs off = some v) (ad : Nat → Ad) (w : World) :
    (part t (SV.vas ad vs).toArray off).run P w = .ok (v.va ad) w := by
  unfold partOf at h
  split at h
  · rename_i ha
    split at h
    · simp at h; subst h
      simp [part, aggTy_ok ha, aggTy_size ha, SV.va, SV.vas_eq, List.map_take, List.map_drop]
      try omega
    · cases h
  · rename_i ha
    simp [part, aggTy_ok ha, SV.vas_eq, h]
  · cases h

theorem optAll_ok {α β : Type} {f : α → Option β} {g : β → Value} {ρ : α → Value} (hf : ∀ a b, f a = some b → ρ a = g b) : ∀ {l : List α} {s : List β}, optAll f l = some s → l.map ρ = s.map g
  | [], s, h => by simp [optAll] at h; subst h; rfl
  | a :: r, s, h => by
    simp only [optAll] at h
    split at h
    · rename_i b t hb ht
      simp at h; subst h
      simp [hf _ _ hb, optAll_ok hf ht]
    · cases h

theorem vas_set (ad : Nat → Ad) (vs : List SV) (i : Nat) (v : SV) : SV.vas ad (vs.set i v) = (SV.vas ad vs).set i (v.va ad) := by
  simp [SV.vas_eq, List.map_set]

theorem setParts_ok (ad : Nat → Ad) : ∀ (ps vs : List SV) (off : Nat),
    (SV.vas ad (setParts vs off ps)) = ((ps.map (SV.va ad)).zipIdx.foldl (fun cs (c, j) => cs.set (off + j) c) (SV.vas ad vs))
  | [], vs, off => by simp [setParts]
  | p :: ps, vs, off => by
    have gen : ∀ (l : List Value) (k : Nat) (cs : List Value), (l.zipIdx (k + 1)).foldl (fun cs (c, j) => cs.set (off + j) c) cs = (l.zipIdx k).foldl (fun cs (c, j) => cs.set (off + 1 + j) c) cs := by
      intro l
      induction l with
      | nil => intro k cs; rfl
      | cons a l ih => intro k cs; simp only [List.zipIdx_cons, List.foldl_cons]; rw [ih, show off + (k + 1) = off + 1 + k by omega]
    rw [setParts, setParts_ok ad ps, vas_set]
    simp only [List.map_cons, List.zipIdx_cons, List.foldl_cons, Nat.add_zero, Nat.zero_add]
    exact (gen _ 0 _).symm

theorem foldl_arr : ∀ (l : List (Value × Nat)) (off : Nat) (cs : List Value), (l.foldl (fun (cs : Array Value) (c, j) => cs.setIfInBounds (off + j) c) cs.toArray) = (l.foldl (fun cs (c, j) => cs.set (off + j) c) cs).toArray
  | [], _, _ => rfl
  | (c, j) :: l, off, cs => by simp only [List.foldl_cons, List.setIfInBounds_toArray]; exact foldl_arr l off _

theorem SV.plain_cells (ad : Nat → Ad) {v : SV} (h : v.plain = true) : (v.va ad).cells = (SV.vas ad v.parts).toArray := by
  cases v <;> simp only [SV.parts, SV.va, Value.cells, SV.vas]
  case junk => rfl
  case undef => rfl
  case val x => cases x <;> first | rfl | cases h
  case cnd cs x => cases h

theorem fillParts_ok {P : Program} {fs : Array Field} (ad : Nat → Ad) (pl : Nat → Option (Nat × Nat)) (hpl : ∀ i fd, fs[i]? = some fd → pl i = some (fd.offset, P.cellsOf fd.type)) :
    ∀ (qs : List (Nat × SV)) (vs out : List SV), fillParts P fs vs qs = some out → Instr.fill pl (SV.vas ad vs).toArray (qs.map fun p => (p.1, p.2.va ad)) = some (SV.vas ad out).toArray
  | [], vs, out, h => by simp [fillParts] at h; subst h; simp [Instr.fill]
  | (i, p) :: r, vs, out, h => by
    simp only [fillParts] at h
    split at h
    · cases h
    · rename_i fd hfd
      split at h
      · rename_i hc
        obtain ⟨hpl', hl, hb⟩ := hc
        have ih := fillParts_ok ad pl hpl r _ out h
        simp only [List.map_cons, Instr.fill, hpl i fd hfd]
        rw [SV.plain_cells ad hpl']
        have e1 : (SV.vas ad p.parts).toArray.size = P.cellsOf fd.type := by simp [SV.vas_eq, hl]
        have e2 : (SV.vas ad vs).toArray.size = vs.length := by simp [SV.vas_eq]
        rw [if_neg (by simp only [e1, e2]; simp; omega)]
        rw [← ih, setParts_ok, ← foldl_arr]
        congr 1
        rw [← Array.foldl_toList]
        simp [SV.vas_eq]
      · cases h

end Go.Vx
