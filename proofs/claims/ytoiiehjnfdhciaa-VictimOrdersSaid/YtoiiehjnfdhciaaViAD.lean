/-
  Round 21: VictimOrders, what it computes where there are no blocks.
  Conditions: none.
-/
import Derived.Test.YtoiiehjnfdhciaaViT
import Derived.Test.YtoiiehjnfdhciaaViAC
set_option maxRecDepth 100000
set_option linter.unusedVariables false
set_option linter.unusedSimpArgs false
namespace Go.Vi
open Go Go.Vx Go.Proofs

structure Vs where
  l : List Itm
  c : Nat
  i : Nat
  D : List Itm
def V1 (p : Nat) (bl : List Blk) (N : Nat) : Inv' C1 := ⟨11, Vs, fun x => [(10, .int .i64 x.i)], fun x m => setCk (setCk m (p + 3) (.one [.sl (p + 4) 0 (N - x.i) x.c, lsSV])) (p + 4) (.rows 57 x.l),
  fun x => x.i ≤ N ∧ x.D.length = x.i ∧ ∃ its, Popd its x.D x.l (N - x.i) x.c ∧ (its.map (·.1)).Perm (bl.take N), fun x => N - x.i⟩
def V2 (N : Nat) : Inv' C1 := ⟨21, Nat, fun i => [(21, .int .i64 i)], fun _ m => m, fun i => i ≤ N, fun i => N - i⟩
def V1z : Inv' C1 := ⟨11, Unit, fun _ => [(10, .int .i64 0)], fun _ m => m, fun _ => True, fun _ => 0⟩
def V2z : Inv' C1 := ⟨21, Unit, fun _ => [(21, .int .i64 0)], fun _ m => m, fun _ => True, fun _ => 0⟩
theorem sm_self {a b : Blk} (h : a = b) : sm a b = true := sm_iff.2 h
theorem getT {l : List Blk} {N k : Nat} (hk : k < N) : (l.take N).getD k z0 = l.getD k z0 := by
  simp only [List.getD_eq_getElem?_getD, List.getElem?_take]
  rw [if_pos hk]
theorem V1.start {p : Nat} {bl mB l : List Blk} {l' : List Itm} {N c : Nat} (hN : N ≤ mB.length) (hM : mB.take N = bl.take N) (h : hOf (itms mB N) l' N c) : (V1 p bl N).inv ⟨l', c, 0, []⟩ :=
  ⟨Nat.zero_le _, rfl, itms mB N, Popd.start h, by rw [itms_fst mB N hN, hM]⟩
theorem V1.pre {p : Nat} {bl : List Blk} {N : Nat} {x : Vs} (hx : (V1 p bl N).inv x) (hb : N ≤ 100) : Hg.HOK d0 lessI x.l (N - x.i) x.c ∧ N - x.i < 1048576 := by
  obtain ⟨h1, h2, its, h3, h4⟩ := hx
  exact ⟨h3.hok, by omega⟩
theorem V1.step {p : Nat} {bl : List Blk} {N : Nat} {x : Vs} {l' : List Itm} (hx : (V1 p bl N).inv x) (h : 0 < N - x.i ∧ cutPost x.l (N - x.i - 1) x.c 0 l') :
    (V1 p bl N).inv ⟨l', x.c, x.i + 1, x.D ++ [at_ l' (N - x.i - 1)]⟩ ∧ (V1 p bl N).meas ⟨l', x.c, x.i + 1, x.D ++ [at_ l' (N - x.i - 1)]⟩ < (V1 p bl N).meas x := by
  obtain ⟨h1, h2, its, h3, h4⟩ := hx
  refine ⟨⟨by show x.i + 1 ≤ N; omega, by simp [h2], its, h3.step h.1 h.2, h4⟩, ?_⟩
  show N - (x.i + 1) < N - x.i
  omega
theorem V1.same {p : Nat} {bl : List Blk} {N : Nat} {x : Vs} {l' : List Itm} (hN : N ≤ bl.length) (hx : (V1 p bl N).inv x) (h : 0 < N - x.i ∧ cutPost x.l (N - x.i - 1) x.c 0 l') {xl : List Blk} (hp : (xl.take N).Perm (bl.take N)) (hs : SrB (xl.take N)) :
    (at_ l' (N - x.i - 1)).1 = xl.getD x.i z0 := by
  obtain ⟨h1, h2, its, h3, h4⟩ := hx
  have h5 := popd_pre (h3.step h.1 h.2) (hp.trans h4.symm) hs
  have hi : x.i < N := by omega
  have hl : (xl.take N).length = N := by rw [hp.length_eq, List.length_take]; omega
  have e1 : ((x.D ++ [at_ l' (N - x.i - 1)]).map (·.1)).getD x.i z0 = (at_ l' (N - x.i - 1)).1 := by
    rw [List.map_append, List.getD_eq_getElem?_getD, List.getElem?_append_right (by rw [List.length_map]; omega), List.length_map, h2, Nat.sub_self]
    rfl
  rw [← e1, h5, getT (by simp [h2]), getT hi]
theorem out_same {bl mB o xl : List Blk} {D : List Itm} {N k oc : Nat} (hN : N ≤ mB.length) (hM : mB.take N = bl.take N) (hS : Srt (itms mB N) D) (hO : Out o N oc D) (hp : (xl.take N).Perm (bl.take N)) (hs : SrB (xl.take N)) (hk : k < N) : o.getD k z0 = xl.getD k z0 := by
  have e := srt_one hS (X := xl.take N) (by rw [itms_fst mB N hN, hM]; exact hp) hs
  obtain ⟨g1, g2, g3, g4⟩ := hO
  rw [← getT (l := o) hk, g4, e, getT hk]
theorem head_same {bl mB xl : List Blk} {e : Itm} {N : Nat} (h0 : 0 < N) (hB : N ≤ bl.length) (hN : N ≤ mB.length) (hM : mB.take N = bl.take N) (hH : Head (itms mB N) e) (hp : (xl.take N).Perm (bl.take N)) (hs : SrB (xl.take N)) : e.1 = xl.getD 0 z0 := by
  have := head_one hH (X := xl.take N) (by rw [itms_fst mB N hN, hM]; exact hp) hs (by rw [hp.length_eq, List.length_take]; omega)
  rw [this, getT h0]
theorem cold_one {l : List Blk} {c d : Blk} (hc : Coldest l c) (hd : Coldest l d) : c = d := by
  have h1 := hc.2 d hd.1.1 hd.1.2
  have h2 := hd.2 c hc.1.1 hc.1.2
  have h3 : (!c.2.2.2) = true := hc.1.2
  have h4 : (!d.2.2.2) = true := hd.1.2
  rw [co_lt] at h1 h2
  obtain ⟨c1, c2, c3, c4⟩ := c
  obtain ⟨d1, d2, d3, d4⟩ := d
  simp only at h1 h2 h3 h4
  have k1 : c1 = d1 := by omega
  have k2 : c2 = d2 := by omega
  have k3 : c3 = d3 := by omega
  cases c4 <;> cases d4 <;> simp_all
theorem cold_no {l : List Blk} {c : Blk} (hc : Coldest l c) (hn : ∀ x ∈ l, nf x = false) : False := by
  have := hn c hc.1.1
  rw [hc.1.2] at this
  exact absurd this (by decide)
theorem limF {a : Int} {F : Nat} (h : (decide ((100 : Int) < a) || (SB.tm (decide ((100 : Int) < (F : Int)))).val) = false) : F < 524288 := by
  simp only [SB.val, Bool.or_eq_false_iff, decide_eq_false_iff_not] at h
  omega
theorem cold_nil0 {bl : List Blk} {e : Blk} (h : Coldest (bl.take 0) e) : False := by
  have := h.1.1
  simp at this
set_option maxHeartbeats 8000000 in
theorem orders_0n : Tells (C := C1) Try.prog (.fn 4) [] [.nils, .nils] (.bool .t) := by
  refine loc_pc (P := Try.prog) (E := ⟨[fcFirst, fcROrderE, fcROrder0, fcMadeE, fcMade0, fcOf0, fcOrder0, fcNext0, fcGreedy0, fcCold0, fcRCold, fcRCold0], [pcSame, pcQLen0, pcGapF, pcGap0, pcRGap, pcRGapN, pcRGapF, pcRGap0], 180, []⟩) (L := [V1z, V2z]) mix Try.func4 rfl (by kernel_rfl) (by kernel_rfl) rfl rfl ?_
  ((conv => (arg 1; reduce)); with_reducible repeat' (first | exact Tr.yes_h | refine Tr.and_h ?_ ?_ | refine Tr.imp_h fun _ => ?_ | refine Tr.all_h fun _ => ?_ | refine Tr.lf_h ?_))
  all_goals try first | (show Region.lexB _ _ = true; kernel_rfl) | (show planned _ _ = true; kernel_rfl) | exact rfl | exact True.intro
  all_goals try exact absurd (by with_reducible assumption : decide ((0 : Int) ≠ 0) = true) (by decide)
  all_goals try exact absurd (by with_reducible assumption : decide ((0 : Int) < 0) = true) (by decide)
  · refine Stands.one () ⟨trivial, ?_⟩
    ((conv => (arg 1; reduce)); with_reducible repeat' (first | exact Tr.yes_h | refine Tr.and_h ?_ ?_ | refine Tr.imp_h fun _ => ?_ | refine Tr.all_h fun _ => ?_ | refine Tr.lf_h ?_))
    all_goals first | (show Region.lexB _ _ = true; kernel_rfl) | (show planned _ _ = true; kernel_rfl) | exact rfl | exact True.intro
  · refine Stands.one () ⟨trivial, ?_⟩
    ((conv => (arg 1; reduce)); with_reducible repeat' (first | exact Tr.yes_h | refine Tr.and_h ?_ ?_ | refine Tr.imp_h fun _ => ?_ | refine Tr.all_h fun _ => ?_ | refine Tr.lf_h ?_))
    all_goals first | (show Region.lexB _ _ = true; kernel_rfl) | (show planned _ _ = true; kernel_rfl) | exact rfl | exact True.intro
  all_goals simp [SB.val, sm]
set_option maxHeartbeats 8000000 in
theorem orders_0 (fb fq : Nat) (fr : List Int) (F fm : Nat) (hF : F ≤ fr.length) : Tells (C := C1) Try.prog (.fn 4) [⟨fb, fq, 1, false, none, .rows 3 fr⟩] [.nils, .sl 0 0 F fm] (.bool .t) := by
  refine loc_pc (P := Try.prog) (E := ⟨[fcFirst, fcROrderE, fcROrder0, fcMadeE, fcMade0, fcOf0, fcOrder0, fcNext0, fcGreedy0, fcCold0, fcRCold, fcRCold0], [pcSame, pcQLen0, pcGapF, pcGap0, pcRGap, pcRGapN, pcRGapF, pcRGap0], 180, []⟩) (L := [V1z, V2z]) mix Try.func4 rfl (by kernel_rfl) (by kernel_rfl) rfl rfl ?_
  ((conv => (arg 1; reduce)); with_reducible repeat' (first | exact Tr.yes_h | refine Tr.and_h ?_ ?_ | refine Tr.imp_h fun _ => ?_ | refine Tr.all_h fun _ => ?_ | refine Tr.lf_h ?_))
  all_goals try first | (show Region.lexB _ _ = true; kernel_rfl) | (show planned _ _ = true; kernel_rfl) | exact rfl | exact True.intro
  all_goals try exact absurd (by with_reducible assumption : decide ((0 : Int) ≠ 0) = true) (by decide)
  all_goals try exact absurd (by with_reducible assumption : decide ((0 : Int) < 0) = true) (by decide)
  · refine Stands.one () ⟨trivial, ?_⟩
    ((conv => (arg 1; reduce)); with_reducible repeat' (first | exact Tr.yes_h | refine Tr.and_h ?_ ?_ | refine Tr.imp_h fun _ => ?_ | refine Tr.all_h fun _ => ?_ | refine Tr.lf_h ?_))
    all_goals first | (show Region.lexB _ _ = true; kernel_rfl) | (show planned _ _ = true; kernel_rfl) | exact rfl | exact True.intro
  · refine Stands.one () ⟨trivial, ?_⟩
    ((conv => (arg 1; reduce)); with_reducible repeat' (first | exact Tr.yes_h | refine Tr.and_h ?_ ?_ | refine Tr.imp_h fun _ => ?_ | refine Tr.all_h fun _ => ?_ | refine Tr.lf_h ?_))
    all_goals first | (show Region.lexB _ _ = true; kernel_rfl) | (show planned _ _ = true; kernel_rfl) | exact rfl | exact True.intro
  · exact ⟨hF, limF (by with_reducible assumption)⟩
  · exact ⟨hF, limF (by with_reducible assumption)⟩
  all_goals simp [SB.val, sm]
set_option maxHeartbeats 8000000 in
theorem orders_En (b q : Nat) (bl : List Blk) (m : Nat) : Tells (C := C1) Try.prog (.fn 4) [⟨b, q, 4, false, none, .rows 39 bl⟩] [.sl 0 0 0 m, .nils] (.bool .t) := by
  refine loc_pc (P := Try.prog) (E := ⟨[fcFirst, fcROrderE, fcROrder0, fcMadeE, fcMade0, fcOf0, fcOrder0, fcNext0, fcGreedy0, fcCold0, fcRCold, fcRCold0], [pcSame, pcQLen0, pcGapF, pcGap0, pcRGap, pcRGapN, pcRGapF, pcRGap0], 180, []⟩) (L := [V1z, V2z]) mix Try.func4 rfl (by kernel_rfl) (by kernel_rfl) rfl rfl ?_
  ((conv => (arg 1; reduce)); with_reducible repeat' (first | exact Tr.yes_h | refine Tr.and_h ?_ ?_ | refine Tr.imp_h fun _ => ?_ | refine Tr.all_h fun _ => ?_ | refine Tr.lf_h ?_))
  all_goals try first | (show Region.lexB _ _ = true; kernel_rfl) | (show planned _ _ = true; kernel_rfl) | exact rfl | exact True.intro
  all_goals try exact absurd (by with_reducible assumption : decide ((0 : Int) ≠ 0) = true) (by decide)
  all_goals try exact absurd (by with_reducible assumption : decide ((0 : Int) < 0) = true) (by decide)
  all_goals try exact absurd (by with_reducible assumption : decide ((0 : Int) < ((0 : Nat) : Int)) = true) (by decide)
  all_goals try exact (cold_nil0 (bl := bl) (by with_reducible assumption)).elim
  · refine Stands.one () ⟨trivial, ?_⟩
    ((conv => (arg 1; reduce)); with_reducible repeat' (first | exact Tr.yes_h | refine Tr.and_h ?_ ?_ | refine Tr.imp_h fun _ => ?_ | refine Tr.all_h fun _ => ?_ | refine Tr.lf_h ?_))
    all_goals first | (show Region.lexB _ _ = true; kernel_rfl) | (show planned _ _ = true; kernel_rfl) | exact rfl | exact True.intro
  · exact ⟨Nat.zero_le _, by omega⟩
  · refine Stands.one () ⟨trivial, ?_⟩
    ((conv => (arg 1; reduce)); with_reducible repeat' (first | exact Tr.yes_h | refine Tr.and_h ?_ ?_ | refine Tr.imp_h fun _ => ?_ | refine Tr.all_h fun _ => ?_ | refine Tr.lf_h ?_))
    all_goals first | (show Region.lexB _ _ = true; kernel_rfl) | (show planned _ _ = true; kernel_rfl) | exact rfl | exact True.intro
  · exact ⟨Nat.zero_le _, by omega⟩
  all_goals simp [SB.val, sm]
set_option maxHeartbeats 8000000 in
theorem orders_E (b q : Nat) (bl : List Blk) (m : Nat) (fb fq : Nat) (fr : List Int) (F fm : Nat) (hF : F ≤ fr.length) : Tells (C := C1) Try.prog (.fn 4) [⟨b, q, 4, false, none, .rows 39 bl⟩, ⟨fb, fq, 1, false, none, .rows 3 fr⟩] [.sl 0 0 0 m, .sl 1 0 F fm] (.bool .t) := by
  refine loc_pc (P := Try.prog) (E := ⟨[fcFirst, fcROrderE, fcROrder0, fcMadeE, fcMade0, fcOf0, fcOrder0, fcNext0, fcGreedy0, fcCold0, fcRCold, fcRCold0], [pcSame, pcQLen0, pcGapF, pcGap0, pcRGap, pcRGapN, pcRGapF, pcRGap0], 180, []⟩) (L := [V1z, V2z]) mix Try.func4 rfl (by kernel_rfl) (by kernel_rfl) rfl rfl ?_
  ((conv => (arg 1; reduce)); with_reducible repeat' (first | exact Tr.yes_h | refine Tr.and_h ?_ ?_ | refine Tr.imp_h fun _ => ?_ | refine Tr.all_h fun _ => ?_ | refine Tr.lf_h ?_))
  all_goals try first | (show Region.lexB _ _ = true; kernel_rfl) | (show planned _ _ = true; kernel_rfl) | exact rfl | exact True.intro
  all_goals try exact absurd (by with_reducible assumption : decide ((0 : Int) ≠ 0) = true) (by decide)
  all_goals try exact absurd (by with_reducible assumption : decide ((0 : Int) < 0) = true) (by decide)
  all_goals try exact absurd (by with_reducible assumption : decide ((0 : Int) < ((0 : Nat) : Int)) = true) (by decide)
  all_goals try exact (cold_nil0 (bl := bl) (by with_reducible assumption)).elim
  · refine Stands.one () ⟨trivial, ?_⟩
    ((conv => (arg 1; reduce)); with_reducible repeat' (first | exact Tr.yes_h | refine Tr.and_h ?_ ?_ | refine Tr.imp_h fun _ => ?_ | refine Tr.all_h fun _ => ?_ | refine Tr.lf_h ?_))
    all_goals first | (show Region.lexB _ _ = true; kernel_rfl) | (show planned _ _ = true; kernel_rfl) | exact rfl | exact True.intro
  · exact ⟨Nat.zero_le _, by omega⟩
  · refine Stands.one () ⟨trivial, ?_⟩
    ((conv => (arg 1; reduce)); with_reducible repeat' (first | exact Tr.yes_h | refine Tr.and_h ?_ ?_ | refine Tr.imp_h fun _ => ?_ | refine Tr.all_h fun _ => ?_ | refine Tr.lf_h ?_))
    all_goals first | (show Region.lexB _ _ = true; kernel_rfl) | (show planned _ _ = true; kernel_rfl) | exact rfl | exact True.intro
  · exact ⟨hF, limF (by with_reducible assumption)⟩
  · exact ⟨⟨Nat.zero_le _, by omega⟩, hF, limF (by with_reducible assumption)⟩
  all_goals simp [SB.val, sm]
end Go.Vi
