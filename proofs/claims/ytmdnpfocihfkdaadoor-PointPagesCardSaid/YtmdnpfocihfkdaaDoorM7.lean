/-
  Round 23: the point of bytes.
  Round 23: the chapter's examples.
  Round 23: slices of pages that grow, for scan.Of.
  Round 23: numbers that are compared; what is newer, what is alive; what is the same.
  Round 23: maps' keys; a block's head, what counts, a page's key.
  Round 23: the page that no other one is ahead of; a key's winner.
  Round 23: is a number among these; is a page amiss.
  Maps, plainly: what is found behind an update, a deletion; the entries' stamps.
  The symbolic evaluator, twentieth part: the walk of a frame with marks among its deferred calls, and of a frame of a round.
  The symbolic evaluator, twenty-first part: the walk of a frame that calls yield, that is a round's, or that ranges over a function.
  The symbolic evaluator, twenty-second part: a range over a function, its iterator and its rounds gone through in one walk.
  Round 23: the keys of a map, gathered.
  Round 23: maps az sets of numbers; rising lists; pages by their blocks: plain facts.
  Conditions: none.
-/
import Derived.Test.YtmdnpfocihfkdaaDoorM2
import Derived.Test.YtmdnpfocihfkdaaDoorM4
import Derived.Test.YtmdnpfocihfkdaaDoorM6
import Derived.RangeFuncRecord
import Derived.OrdersIn
import Derived.TacticsIn
open Array renaming ext' → xq, replicate → xw
open Bool renaming and_eq_true → zx, false_ne_true → xg, noConfusion → xf, not_eq_true' → zl
open Int renaming instDecidableEq → pu, toNat → su
open List renaming any_cons → py, append_nil → zk, drop_zero → xi, filter_append → ze, filter_cons_of_neg → yj, filter_cons_of_pos → yw, filter_nil → yg, find?_cons → qo, getD_eq_getElem?_getD → zz, getElem?_eq_getElem → zv, getElem_mem → xk, length_cons → xz, length_drop → zj, length_map → zt, map_append → yy, map_cons → ym, mem_append → wj, mem_cons → we, mem_cons_of_mem → zg, mem_cons_self → xj, mem_of_getElem? → uk, mem_singleton → ux, nodup_append → pd, nodup_cons → us, take_of_length_le → zu, take_take → vm
open Nat renaming beq → zo, ble → si, eq_of_beq_eq_true → zr, le_refl → zy, le_trans → yz, lt_of_lt_of_le → za, lt_succ_self → wi, zero_le → zn
open Option renaming map_some → yu
open Prod renaming fst → zi
set_option linter.unusedVariables false
set_option linter.unusedSimpArgs false
set_option linter.unusedSectionVars false
set_option maxRecDepth 100000
namespace Go.Vx
open Go Go.Proofs
variable [Gl]
abbrev rdE (s : Rs) (k : Nat) : List SV := [.sl k s.1 s.2.1 s.2.2.1, .bool (.tm s.2.2.2)]
def Op9 (R : List Int) (i n c : Nat) : Inv' C0 := ⟨9, Nat × Rs × Bool × Nat × Nat × List Pl × Nat, fun x => [(7, .int .i64 (R.getD 4 0 - (x.1 : Int)))], fun x m => match m with
 | [a, rs, e, r, p] => [a, rs, e, ⟨r.block, r.base, 2, true, none, .one (rdE x.2.1 0)⟩, ⟨p.block, p.base, 6, true, none, .one (hdE (hdR R) (.sl 5 0 x.1 x.2.2.2.2.2.2) .nils)⟩, ⟨x.2.2.2.1, x.2.2.2.2.1, 2, true, some x.2.2.1, .rows 87 x.2.2.2.2.2.1⟩]
 | m => m, fun x => x.1 ≤ nB R ∧ x.2.1 = rdr i n c (5 + 2 * x.1) ∧ Grw (blks R x.1) x.2.2.2.2.2.1 x.2.2.1 x.1 x.2.2.2.2.2.2, fun x => nB R - x.1⟩
def Op13 (R : List Int) (i n c : Nat) : Inv' C0 := ⟨13, Nat × Rs × Bool × Nat × Nat × List Slot × Nat, fun x => [(8, .int .i64 (R.getD (5 + 2 * nB R) 0 - (x.1 : Int)))], fun x m => match m with
 | [a, rs, e, r, p, bl] => match p.cells with
   | .one [_, _, _, _, sb, _] => [a, rs, e, ⟨r.block, r.base, 2, true, none, .one (rdE x.2.1 0)⟩, ⟨p.block, p.base, 6, true, none, .one (hdE (hdR R) sb (.sl 6 0 x.1 x.2.2.2.2.2.2))⟩, bl, ⟨x.2.2.2.1, x.2.2.2.2.1, 9, true, some x.2.2.1, .rows 88 x.2.2.2.2.2.1⟩]
   | _ => m
 | m => m, fun x => x.1 ≤ nS R ∧ x.2.1 = rdr i n c (6 + 2 * nB R + 9 * x.1) ∧ Grw (slts R x.1) x.2.2.2.2.2.1 x.2.2.1 x.1 x.2.2.2.2.2.2, fun x => nS R - x.1⟩
set_option maxHeartbeats 16000000 in
theorem open_ok (o : Bool) (b q : Nat) (l : List Int) (i n c : Nat) (h1 : n ≤ c) (h2 : i + c ≤ l.length) (h3 : n < 140737488355000) (ho : o = false → n = 0 ∧ c = 0) (hb : Bys ((l.drop i).take n)) (hn : n ≤ 1000000) :
 Does (C := C0) Tryd.prog (.fn 16) [⟨b, q, 1, false, some o, .rows 5 l⟩] [.sl 0 i n c]
 [⟨Unit, fun _ => ∀ h A B, ¬ IsPt ((l.drop i).take n) h A B, fun _ => .tup [ptv (0, 0, 0, 0) .nils .nils, eV 0], fun _ => [⟨b, q, 1, false, some o, .rows 5 l⟩]⟩,
  ⟨Hd × (Bool × Nat × Nat × List Pl × Nat × Nat) × (Bool × Nat × Nat × List Slot × Nat × Nat), fun y => IsPt ((l.drop i).take n) y.1 (y.2.1.2.2.2.1.take y.2.1.2.2.2.2.1) (y.2.2.2.2.2.1.take y.2.2.2.2.2.2.1) ∧ Sq.ok y.2.1 ∧ Sq.ok y.2.2,
   fun y => .tup [ptv y.1 (.sl 1 0 y.2.1.2.2.2.2.1 y.2.1.2.2.2.2.2) (.sl 2 0 y.2.2.2.2.2.2.1 y.2.2.2.2.2.2.2), .nili],
   fun y => [⟨b, q, 1, false, some o, .rows 5 l⟩, ⟨y.2.1.2.1, y.2.1.2.2.1, 2, true, some y.2.1.1, .rows 87 y.2.1.2.2.2.1⟩, ⟨y.2.2.2.1, y.2.2.2.2.1, 9, true, some y.2.2.1, .rows 88 y.2.2.2.2.2.1⟩]⟩] := by
 have hbl : ((l.drop i).take n).length = n := rows_len (by omega)
 have hRl : (nsOf ((l.drop i).take n)).length = (n - 4) / 4 := by rw [nsOf_len, hbl]
 refine loc_fn (P := Tryd.prog) (E := ⟨[fcGet], [pcPmay, pcCrc], 132, [(2, [], [.p 0, .p 1, .e 2, .p 3]), (5, [3], [.p 0, .p 2, .p 3, .p 4, .p 5, .e 1, .e 6, .p 7]), (6, [], [.p 0, .p 1, .e 2, .p 3]),
  (11, [4], [.p 0, .p 2, .p 4, .p 1, .e 3, .e 5, .p 6, .e 7, .e 8, .p 9, .f 10]), (19, [], [.p 0, .p 1, .e 2, .p 3])], [], []⟩) (L := [Op9 (nsOf ((l.drop i).take n)) i (n - 4) c, Op13 (nsOf ((l.drop i).take n)) i (n - 4) c]) mix Tryd.func16 rfl (by kernel_rfl) (by kernel_rfl) rfl rfl ?_
 ((conv => arg 1; reduce); with_reducible repeat' first | exact ty | refine ta ?_ ?_ | refine ti fun _ => ?_ | refine tf fun _ => ?_ | refine tl ?_)
 all_goals try exact vlf
 · rename_i b0 h4
   have h4 := ow h4
   refine Ends.one () (fun h A B hp => ?_) ?_
   · have := (isPt_facts hp (by rw [hbl]; omega)).1
     rw [hbl] at this
     omega
   exact vgo
 · rename_i b0 h4
   have h4 : 4 ≤ n := by have := ov h4; omega
   have e4 : ((n : Int) - 4).toNat = n - 4 := by omega
   omega
 · rename_i b0 h4 be
   have h4 : 4 ≤ n := by have := ov h4; omega
   have e4 : ((n : Int) - 4).toNat = n - 4 := by omega
   omega
 · rename_i b0 h4 be br
   have h4 : 4 ≤ n := by have := ov h4; omega
   have e4 : ((n : Int) - 4).toNat = n - 4 := by omega
   rw [e4]
   exact end_pre h4 h1 h2 h3 (fun h => (ho h).2) hb
 · rename_i b0 h4 be br ye hye
   have h4 : 4 ≤ n := by have := ov h4; omega
   have e4 : ((n : Int) - 4).toNat = n - 4 := by omega
   rw [e4]
   refine ⟨by show i + (n - 4) ≤ l.length; omega, by show n - 4 < 4611686018427387904; omega, fun h => ⟨by have := (ho h).1; omega, (ho h).2⟩⟩
 iterate 2 (
  focus
  rename_i b0 h4 be br ye hye h5
  have h4 : 4 ≤ n := by have := ov h4; omega
  have e4 : ((n : Int) - 4).toNat = n - 4 := by omega
  first
   | (have hye2 : ye.2 = nm ((l.drop i).take n) (((l.drop i).take n).length - 4) := by
       rw [e4] at hye
       rw [show ye = _ from hye]
       show gv l _ = _
       rw [hbl]
       exact end_get h4 h1 h2
      have hcr : (l.drop i).take (n - 4) = ((l.drop i).take n).take (((l.drop i).take n).length - 4) := by rw [hbl, vm]; congr 1; omega
      have h5 : ¬ ye.2 = crc ((l.drop i).take ((n : Int) - 4).toNat) := ow h5
      rw [e4, hcr, hye2] at h5
      refine Ends.one () (fun h A B hp => ?_) ?_
      · exact h5 (isPt_facts (bv := ((l.drop i).take n)) hp (by rw [hbl]; omega)).2.2.1
      exact vgo
      done)
   | (rw [e4]
      exact got_pre h4 h1 h2 h3 (fun h => (ho h).2) hb (s := (i, n - 4, c, false)) (rdr_zero i (n - 4) c).symm
      done))
 · rename_i b0 h4 be br ye hye h5 y1 hy1
   have h4 : 4 ≤ n := by have := ov h4; omega
   have e4 : ((n : Int) - 4).toNat = n - 4 := by omega
   rw [e4] at hy1
   have g1 := got h4 h1 h2 (s := (i, n - 4, c, false)) (rdr_zero i (n - 4) c).symm hy1
   exact got_pre h4 h1 h2 h3 (fun h => (ho h).2) hb (s := y1.1) (congrArg zi g1)
 · rename_i b0 h4 be br ye hye h5 y1 hy1 y2 hy2
   have h4 : 4 ≤ n := by have := ov h4; omega
   have e4 : ((n : Int) - 4).toNat = n - 4 := by omega
   rw [e4] at hy1
   have g1 := got h4 h1 h2 (s := (i, n - 4, c, false)) (rdr_zero i (n - 4) c).symm hy1
   have g2 := got h4 h1 h2 (s := y1.1) (congrArg zi g1) hy2
   exact got_pre h4 h1 h2 h3 (fun h => (ho h).2) hb (s := y2.1) (congrArg zi g2)
 · rename_i b0 h4 be br ye hye h5 y1 hy1 y2 hy2 y3 hy3
   have h4 : 4 ≤ n := by have := ov h4; omega
   have e4 : ((n : Int) - 4).toNat = n - 4 := by omega
   rw [e4] at hy1
   have g1 := got h4 h1 h2 (s := (i, n - 4, c, false)) (rdr_zero i (n - 4) c).symm hy1
   have g2 := got h4 h1 h2 (s := y1.1) (congrArg zi g1) hy2
   have g3 := got h4 h1 h2 (s := y2.1) (congrArg zi g2) hy3
   exact got_pre h4 h1 h2 h3 (fun h => (ho h).2) hb (s := y3.1) (congrArg zi g3)
 · rename_i b0 h4 be br ye hye h5 y1 hy1 y2 hy2 y3 hy3 y4 hy4 bp
   have h4 : 4 ≤ n := by have := ov h4; omega
   have e4 : ((n : Int) - 4).toNat = n - 4 := by omega
   rw [e4] at hy1
   have g1 := got h4 h1 h2 (s := (i, n - 4, c, false)) (rdr_zero i (n - 4) c).symm hy1
   have g2 := got h4 h1 h2 (s := y1.1) (congrArg zi g1) hy2
   have g3 := got h4 h1 h2 (s := y2.1) (congrArg zi g2) hy3
   have g4 := got h4 h1 h2 (s := y3.1) (congrArg zi g3) hy4
   exact got_pre h4 h1 h2 h3 (fun h => (ho h).2) hb (s := y4.1) (congrArg zi g4)
 · rename_i b0 h4 be br ye hye h5 y1 hy1 y2 hy2 y3 hy3 y4 hy4 bp y5 hy5
   have h4 : 4 ≤ n := by have := ov h4; omega
   have e4 : ((n : Int) - 4).toNat = n - 4 := by omega
   rw [e4] at hy1
   have g1 := got h4 h1 h2 (s := (i, n - 4, c, false)) (rdr_zero i (n - 4) c).symm hy1
   have g2 := got h4 h1 h2 (s := y1.1) (congrArg zi g1) hy2
   have g3 := got h4 h1 h2 (s := y2.1) (congrArg zi g2) hy3
   have g4 := got h4 h1 h2 (s := y3.1) (congrArg zi g3) hy4
   have g5 := got h4 h1 h2 (s := y4.1) (congrArg zi g4) hy5
   subst g5 g4 g3 g2 g1
   refine Stands.one (0, rdr i (n - 4) c 5, false, 0, 0, [], 0) ⟨⟨zn _, rfl, ?_⟩, ?_⟩
   · rw [blks_zero]; exact ⟨rfl, rfl, zy _, zy _, fun _ => ⟨rfl, rfl⟩⟩
   ((conv => arg 1; reduce); with_reducible repeat' first | exact ty | refine ta ?_ ?_ | refine ti fun _ => ?_ | refine tf fun _ => ?_ | refine tl ?_)
   all_goals first | exact vlf | (show (nsOf _).getD 4 0 = (nsOf _).getD 4 0 - ((0 : Nat) : Int); omega)
 · rename_i b0 h4 be br ye hye h5 y1 hy1 y2 hy2 y3 hy3 y4 hy4 bp y5 hy5 v hv h6
   have h4 : 4 ≤ n := by have := ov h4; omega
   have e4 : ((n : Int) - 4).toNat = n - 4 := by omega
   obtain ⟨j, s, on, vb, vq, vl, vc⟩ := v
   obtain ⟨e1, e2, e3⟩ : j ≤ nB (nsOf ((l.drop i).take n)) ∧ s = rdr i (n - 4) c (5 + 2 * j) ∧ Grw (blks (nsOf ((l.drop i).take n)) j) vl on j vc := hv
   have h6 : (decide (0 < (nsOf ((l.drop i).take n)).getD 4 0 - (j : Int)) && !s.2.2.2) = true := h6
   rw [e2, rdr_bad, ← hRl] at h6
   simp only [zx, decide_eq_true_iff, zl, decide_eq_false_iff_not] at h6
   have hj := nB_lt h6.1 h6.2
   have hnb := nB_le (nsOf ((l.drop i).take n))
   exact got_pre h4 h1 h2 h3 (fun h => (ho h).2) hb (s := s) e2
 · rename_i b0 h4 be br ye hye h5 y1 hy1 y2 hy2 y3 hy3 y4 hy4 bp y5 hy5 v hv h6 z1 hz1
   have h4 : 4 ≤ n := by have := ov h4; omega
   have e4 : ((n : Int) - 4).toNat = n - 4 := by omega
   obtain ⟨j, s, on, vb, vq, vl, vc⟩ := v
   obtain ⟨e1, e2, e3⟩ : j ≤ nB (nsOf ((l.drop i).take n)) ∧ s = rdr i (n - 4) c (5 + 2 * j) ∧ Grw (blks (nsOf ((l.drop i).take n)) j) vl on j vc := hv
   have h6 : (decide (0 < (nsOf ((l.drop i).take n)).getD 4 0 - (j : Int)) && !s.2.2.2) = true := h6
   rw [e2, rdr_bad, ← hRl] at h6
   simp only [zx, decide_eq_true_iff, zl, decide_eq_false_iff_not] at h6
   have hj := nB_lt h6.1 h6.2
   have hnb := nB_le (nsOf ((l.drop i).take n))
   have k1 := got h4 h1 h2 (s := s) e2 hz1
   exact got_pre h4 h1 h2 h3 (fun h => (ho h).2) hb (s := z1.1) (congrArg zi k1)
 iterate 2 (
  focus
  rename_i b0 h4 be br ye hye h5 y1 hy1 y2 hy2 y3 hy3 y4 hy4 bp y5 hy5 v hv h6 z1 hz1 z2 hz2 bk
  have h4 : 4 ≤ n := by have := ov h4; omega
  have e4 : ((n : Int) - 4).toNat = n - 4 := by omega
  obtain ⟨j, s, on, vb, vq, vl, vc⟩ := v
  obtain ⟨e1, e2, e3⟩ : j ≤ nB (nsOf ((l.drop i).take n)) ∧ s = rdr i (n - 4) c (5 + 2 * j) ∧ Grw (blks (nsOf ((l.drop i).take n)) j) vl on j vc := hv
  have h6 : (decide (0 < (nsOf ((l.drop i).take n)).getD 4 0 - (j : Int)) && !s.2.2.2) = true := h6
  rw [e2, rdr_bad, ← hRl] at h6
  simp only [zx, decide_eq_true_iff, zl, decide_eq_false_iff_not] at h6
  have hj := nB_lt h6.1 h6.2
  have hnb := nB_le (nsOf ((l.drop i).take n))
  first
   | (obtain ⟨f1, f2, f3, f4, f5⟩ := e3
      rw [by87]
      exact ⟨f3, by show 0 + vc ≤ vl.length; omega, zy 1, by show (j + 1) * 16 ≤ _; omega⟩
      done)
   | (exact e3.2.2.2.2
      done))
 iterate 2 (
  focus
  rename_i b0 h4 be br ye hye h5 y1 hy1 y2 hy2 y3 hy3 y4 hy4 bp y5 hy5 v hv h6 z1 hz1 z2 hz2 bk b9 q9 sp cap m1 m2
  have h4 : 4 ≤ n := by have := ov h4; omega
  have e4 : ((n : Int) - 4).toNat = n - 4 := by omega
  obtain ⟨j, s, on, vb, vq, vl, vc⟩ := v
  obtain ⟨e1, e2, e3⟩ : j ≤ nB (nsOf ((l.drop i).take n)) ∧ s = rdr i (n - 4) c (5 + 2 * j) ∧ Grw (blks (nsOf ((l.drop i).take n)) j) vl on j vc := hv
  have h6 : (decide (0 < (nsOf ((l.drop i).take n)).getD 4 0 - (j : Int)) && !s.2.2.2) = true := h6
  rw [e2, rdr_bad, ← hRl] at h6
  simp only [zx, decide_eq_true_iff, zl, decide_eq_false_iff_not] at h6
  have hj := nB_lt h6.1 h6.2
  have hnb := nB_le (nsOf ((l.drop i).take n))
  first
   | (have hu := ns_u32 (bv := ((l.drop i).take n)) hb 4
      exact inR64 (by have := hu.1; show _ ≤ (nsOf ((l.drop i).take n)).getD 4 0 - (j : Int) - 1; omega) (by have := hu.2; show (nsOf ((l.drop i).take n)).getD 4 0 - (j : Int) - 1 ≤ _; omega)
      done)
   | (have k1 := got h4 h1 h2 (s := s) e2 hz1
      have k2 := got h4 h1 h2 (s := z1.1) (congrArg zi k1) hz2
      subst k2 k1 e2
      have e5 := e3.app (x := blkAt (nsOf ((l.drop i).take n)) j) (sp := sp) m1 m2
      rw [← blks_next] at e5
      refine Stands.one (j + 1, rdr i (n - 4) c (5 + 2 * j + 1 + 1), true, b9, q9, vl.take j ++ [blkAt (nsOf ((l.drop i).take n)) j] ++ sp, cap) ⟨⟨hj, rfl, e5⟩, ?_, ?_⟩
      · show nB (nsOf ((l.drop i).take n)) - (j + 1) < nB (nsOf ((l.drop i).take n)) - j
        omega
      exact vgo
      done))
 · rename_i b0 h4 be br ye hye h5 y1 hy1 y2 hy2 y3 hy3 y4 hy4 bp y5 hy5 v hv h6
   have h4 : 4 ≤ n := by have := ov h4; omega
   have e4 : ((n : Int) - 4).toNat = n - 4 := by omega
   obtain ⟨j, s, on, vb, vq, vl, vc⟩ := v
   obtain ⟨e1, e2, e3⟩ : j ≤ nB (nsOf ((l.drop i).take n)) ∧ s = rdr i (n - 4) c (5 + 2 * j) ∧ Grw (blks (nsOf ((l.drop i).take n)) j) vl on j vc := hv
   have h6 : (decide (0 < (nsOf ((l.drop i).take n)).getD 4 0 - (j : Int)) && !s.2.2.2) = false := h6
   rw [e2, rdr_bad, ← hRl] at h6
   have hj := nB_eq e1 h6
   exact got_pre h4 h1 h2 h3 (fun h => (ho h).2) hb (s := s) e2
 · rename_i b0 h4 be br ye hye h5 y1 hy1 y2 hy2 y3 hy3 y4 hy4 bp y5 hy5 v hv h6 w1 hw1
   have h4 : 4 ≤ n := by have := ov h4; omega
   have e4 : ((n : Int) - 4).toNat = n - 4 := by omega
   obtain ⟨j, s, on, vb, vq, vl, vc⟩ := v
   obtain ⟨e1, e2, e3⟩ : j ≤ nB (nsOf ((l.drop i).take n)) ∧ s = rdr i (n - 4) c (5 + 2 * j) ∧ Grw (blks (nsOf ((l.drop i).take n)) j) vl on j vc := hv
   have h6 : (decide (0 < (nsOf ((l.drop i).take n)).getD 4 0 - (j : Int)) && !s.2.2.2) = false := h6
   rw [e2, rdr_bad, ← hRl] at h6
   have hj := nB_eq e1 h6
   have kw := got h4 h1 h2 (s := s) e2 hw1
   subst kw e2 hj
   refine Stands.one (0, rdr i (n - 4) c (5 + 2 * nB (nsOf ((l.drop i).take n)) + 1), false, 0, 0, [], 0) ⟨⟨zn _, ?_, ?_⟩, ?_⟩
   · show rdr i (n - 4) c (5 + 2 * nB (nsOf ((l.drop i).take n)) + 1) = rdr i (n - 4) c (6 + 2 * nB (nsOf ((l.drop i).take n)) + 9 * 0)
     congr 1; omega
   · rw [slts_zero]; exact ⟨rfl, rfl, zy _, zy _, fun _ => ⟨rfl, rfl⟩⟩
   exact vgo
 · rename_i b0 h4 be br ye hye h5 y1 hy1 y2 hy2 y3 hy3 y4 hy4 bp y5 hy5 v hv h6 w1 hw1 u hu h7
   have h4 : 4 ≤ n := by have := ov h4; omega
   have e4 : ((n : Int) - 4).toNat = n - 4 := by omega
   obtain ⟨j, s, on, vb, vq, vl, vc⟩ := u
   obtain ⟨e1, e2, e3⟩ : j ≤ nS (nsOf ((l.drop i).take n)) ∧ s = rdr i (n - 4) c (6 + 2 * nB (nsOf ((l.drop i).take n)) + 9 * j) ∧ Grw (slts (nsOf ((l.drop i).take n)) j) vl on j vc := hu
   have h7 : (decide (0 < (nsOf ((l.drop i).take n)).getD (5 + 2 * nB (nsOf ((l.drop i).take n))) 0 - (j : Int)) && !s.2.2.2) = true := h7
   rw [e2, rdr_bad, ← hRl] at h7
   simp only [zx, decide_eq_true_iff, zl, decide_eq_false_iff_not] at h7
   have hj := nS_lt h7.1 h7.2
   have hns := nS_le (nsOf ((l.drop i).take n))
   exact got_pre h4 h1 h2 h3 (fun h => (ho h).2) hb (s := s) e2
 · rename_i b0 h4 be br ye hye h5 y1 hy1 y2 hy2 y3 hy3 y4 hy4 bp y5 hy5 v hv h6 w1 hw1 u hu h7 z1 hz1
   have h4 : 4 ≤ n := by have := ov h4; omega
   have e4 : ((n : Int) - 4).toNat = n - 4 := by omega
   obtain ⟨j, s, on, vb, vq, vl, vc⟩ := u
   obtain ⟨e1, e2, e3⟩ : j ≤ nS (nsOf ((l.drop i).take n)) ∧ s = rdr i (n - 4) c (6 + 2 * nB (nsOf ((l.drop i).take n)) + 9 * j) ∧ Grw (slts (nsOf ((l.drop i).take n)) j) vl on j vc := hu
   have h7 : (decide (0 < (nsOf ((l.drop i).take n)).getD (5 + 2 * nB (nsOf ((l.drop i).take n))) 0 - (j : Int)) && !s.2.2.2) = true := h7
   rw [e2, rdr_bad, ← hRl] at h7
   simp only [zx, decide_eq_true_iff, zl, decide_eq_false_iff_not] at h7
   have hj := nS_lt h7.1 h7.2
   have hns := nS_le (nsOf ((l.drop i).take n))
   have k1 := got h4 h1 h2 (s := s) e2 hz1
   exact got_pre h4 h1 h2 h3 (fun h => (ho h).2) hb (s := z1.1) (congrArg zi k1)
 · rename_i b0 h4 be br ye hye h5 y1 hy1 y2 hy2 y3 hy3 y4 hy4 bp y5 hy5 v hv h6 w1 hw1 u hu h7 z1 hz1 z2 hz2
   have h4 : 4 ≤ n := by have := ov h4; omega
   have e4 : ((n : Int) - 4).toNat = n - 4 := by omega
   obtain ⟨j, s, on, vb, vq, vl, vc⟩ := u
   obtain ⟨e1, e2, e3⟩ : j ≤ nS (nsOf ((l.drop i).take n)) ∧ s = rdr i (n - 4) c (6 + 2 * nB (nsOf ((l.drop i).take n)) + 9 * j) ∧ Grw (slts (nsOf ((l.drop i).take n)) j) vl on j vc := hu
   have h7 : (decide (0 < (nsOf ((l.drop i).take n)).getD (5 + 2 * nB (nsOf ((l.drop i).take n))) 0 - (j : Int)) && !s.2.2.2) = true := h7
   rw [e2, rdr_bad, ← hRl] at h7
   simp only [zx, decide_eq_true_iff, zl, decide_eq_false_iff_not] at h7
   have hj := nS_lt h7.1 h7.2
   have hns := nS_le (nsOf ((l.drop i).take n))
   have k1 := got h4 h1 h2 (s := s) e2 hz1
   have k2 := got h4 h1 h2 (s := z1.1) (congrArg zi k1) hz2
   exact got_pre h4 h1 h2 h3 (fun h => (ho h).2) hb (s := z2.1) (congrArg zi k2)
 · rename_i b0 h4 be br ye hye h5 y1 hy1 y2 hy2 y3 hy3 y4 hy4 bp y5 hy5 v hv h6 w1 hw1 u hu h7 z1 hz1 z2 hz2 z3 hz3 bs
   have h4 : 4 ≤ n := by have := ov h4; omega
   have e4 : ((n : Int) - 4).toNat = n - 4 := by omega
   obtain ⟨j, s, on, vb, vq, vl, vc⟩ := u
   obtain ⟨e1, e2, e3⟩ : j ≤ nS (nsOf ((l.drop i).take n)) ∧ s = rdr i (n - 4) c (6 + 2 * nB (nsOf ((l.drop i).take n)) + 9 * j) ∧ Grw (slts (nsOf ((l.drop i).take n)) j) vl on j vc := hu
   have h7 : (decide (0 < (nsOf ((l.drop i).take n)).getD (5 + 2 * nB (nsOf ((l.drop i).take n))) 0 - (j : Int)) && !s.2.2.2) = true := h7
   rw [e2, rdr_bad, ← hRl] at h7
   simp only [zx, decide_eq_true_iff, zl, decide_eq_false_iff_not] at h7
   have hj := nS_lt h7.1 h7.2
   have hns := nS_le (nsOf ((l.drop i).take n))
   have k1 := got h4 h1 h2 (s := s) e2 hz1
   have k2 := got h4 h1 h2 (s := z1.1) (congrArg zi k1) hz2
   have k3 := got h4 h1 h2 (s := z2.1) (congrArg zi k2) hz3
   exact got_pre h4 h1 h2 h3 (fun h => (ho h).2) hb (s := z3.1) (congrArg zi k3)
 · rename_i b0 h4 be br ye hye h5 y1 hy1 y2 hy2 y3 hy3 y4 hy4 bp y5 hy5 v hv h6 w1 hw1 u hu h7 z1 hz1 z2 hz2 z3 hz3 bs z4 hz4
   have h4 : 4 ≤ n := by have := ov h4; omega
   have e4 : ((n : Int) - 4).toNat = n - 4 := by omega
   obtain ⟨j, s, on, vb, vq, vl, vc⟩ := u
   obtain ⟨e1, e2, e3⟩ : j ≤ nS (nsOf ((l.drop i).take n)) ∧ s = rdr i (n - 4) c (6 + 2 * nB (nsOf ((l.drop i).take n)) + 9 * j) ∧ Grw (slts (nsOf ((l.drop i).take n)) j) vl on j vc := hu
   have h7 : (decide (0 < (nsOf ((l.drop i).take n)).getD (5 + 2 * nB (nsOf ((l.drop i).take n))) 0 - (j : Int)) && !s.2.2.2) = true := h7
   rw [e2, rdr_bad, ← hRl] at h7
   simp only [zx, decide_eq_true_iff, zl, decide_eq_false_iff_not] at h7
   have hj := nS_lt h7.1 h7.2
   have hns := nS_le (nsOf ((l.drop i).take n))
   have k1 := got h4 h1 h2 (s := s) e2 hz1
   have k2 := got h4 h1 h2 (s := z1.1) (congrArg zi k1) hz2
   have k3 := got h4 h1 h2 (s := z2.1) (congrArg zi k2) hz3
   have k4 := got h4 h1 h2 (s := z3.1) (congrArg zi k3) hz4
   exact got_pre h4 h1 h2 h3 (fun h => (ho h).2) hb (s := z4.1) (congrArg zi k4)
 · rename_i b0 h4 be br ye hye h5 y1 hy1 y2 hy2 y3 hy3 y4 hy4 bp y5 hy5 v hv h6 w1 hw1 u hu h7 z1 hz1 z2 hz2 z3 hz3 bs z4 hz4 z5 hz5
   have h4 : 4 ≤ n := by have := ov h4; omega
   have e4 : ((n : Int) - 4).toNat = n - 4 := by omega
   obtain ⟨j, s, on, vb, vq, vl, vc⟩ := u
   obtain ⟨e1, e2, e3⟩ : j ≤ nS (nsOf ((l.drop i).take n)) ∧ s = rdr i (n - 4) c (6 + 2 * nB (nsOf ((l.drop i).take n)) + 9 * j) ∧ Grw (slts (nsOf ((l.drop i).take n)) j) vl on j vc := hu
   have h7 : (decide (0 < (nsOf ((l.drop i).take n)).getD (5 + 2 * nB (nsOf ((l.drop i).take n))) 0 - (j : Int)) && !s.2.2.2) = true := h7
   rw [e2, rdr_bad, ← hRl] at h7
   simp only [zx, decide_eq_true_iff, zl, decide_eq_false_iff_not] at h7
   have hj := nS_lt h7.1 h7.2
   have hns := nS_le (nsOf ((l.drop i).take n))
   have k1 := got h4 h1 h2 (s := s) e2 hz1
   have k2 := got h4 h1 h2 (s := z1.1) (congrArg zi k1) hz2
   have k3 := got h4 h1 h2 (s := z2.1) (congrArg zi k2) hz3
   have k4 := got h4 h1 h2 (s := z3.1) (congrArg zi k3) hz4
   have k5 := got h4 h1 h2 (s := z4.1) (congrArg zi k4) hz5
   exact got_pre h4 h1 h2 h3 (fun h => (ho h).2) hb (s := z5.1) (congrArg zi k5)
 · rename_i b0 h4 be br ye hye h5 y1 hy1 y2 hy2 y3 hy3 y4 hy4 bp y5 hy5 v hv h6 w1 hw1 u hu h7 z1 hz1 z2 hz2 z3 hz3 bs z4 hz4 z5 hz5 z6 hz6
   have h4 : 4 ≤ n := by have := ov h4; omega
   have e4 : ((n : Int) - 4).toNat = n - 4 := by omega
   obtain ⟨j, s, on, vb, vq, vl, vc⟩ := u
   obtain ⟨e1, e2, e3⟩ : j ≤ nS (nsOf ((l.drop i).take n)) ∧ s = rdr i (n - 4) c (6 + 2 * nB (nsOf ((l.drop i).take n)) + 9 * j) ∧ Grw (slts (nsOf ((l.drop i).take n)) j) vl on j vc := hu
   have h7 : (decide (0 < (nsOf ((l.drop i).take n)).getD (5 + 2 * nB (nsOf ((l.drop i).take n))) 0 - (j : Int)) && !s.2.2.2) = true := h7
   rw [e2, rdr_bad, ← hRl] at h7
   simp only [zx, decide_eq_true_iff, zl, decide_eq_false_iff_not] at h7
   have hj := nS_lt h7.1 h7.2
   have hns := nS_le (nsOf ((l.drop i).take n))
   have k1 := got h4 h1 h2 (s := s) e2 hz1
   have k2 := got h4 h1 h2 (s := z1.1) (congrArg zi k1) hz2
   have k3 := got h4 h1 h2 (s := z2.1) (congrArg zi k2) hz3
   have k4 := got h4 h1 h2 (s := z3.1) (congrArg zi k3) hz4
   have k5 := got h4 h1 h2 (s := z4.1) (congrArg zi k4) hz5
   have k6 := got h4 h1 h2 (s := z5.1) (congrArg zi k5) hz6
   exact got_pre h4 h1 h2 h3 (fun h => (ho h).2) hb (s := z6.1) (congrArg zi k6)
 · rename_i b0 h4 be br ye hye h5 y1 hy1 y2 hy2 y3 hy3 y4 hy4 bp y5 hy5 v hv h6 w1 hw1 u hu h7 z1 hz1 z2 hz2 z3 hz3 bs z4 hz4 z5 hz5 z6 hz6 z7 hz7
   have h4 : 4 ≤ n := by have := ov h4; omega
   have e4 : ((n : Int) - 4).toNat = n - 4 := by omega
   obtain ⟨j, s, on, vb, vq, vl, vc⟩ := u
   obtain ⟨e1, e2, e3⟩ : j ≤ nS (nsOf ((l.drop i).take n)) ∧ s = rdr i (n - 4) c (6 + 2 * nB (nsOf ((l.drop i).take n)) + 9 * j) ∧ Grw (slts (nsOf ((l.drop i).take n)) j) vl on j vc := hu
   have h7 : (decide (0 < (nsOf ((l.drop i).take n)).getD (5 + 2 * nB (nsOf ((l.drop i).take n))) 0 - (j : Int)) && !s.2.2.2) = true := h7
   rw [e2, rdr_bad, ← hRl] at h7
   simp only [zx, decide_eq_true_iff, zl, decide_eq_false_iff_not] at h7
   have hj := nS_lt h7.1 h7.2
   have hns := nS_le (nsOf ((l.drop i).take n))
   have k1 := got h4 h1 h2 (s := s) e2 hz1
   have k2 := got h4 h1 h2 (s := z1.1) (congrArg zi k1) hz2
   have k3 := got h4 h1 h2 (s := z2.1) (congrArg zi k2) hz3
   have k4 := got h4 h1 h2 (s := z3.1) (congrArg zi k3) hz4
   have k5 := got h4 h1 h2 (s := z4.1) (congrArg zi k4) hz5
   have k6 := got h4 h1 h2 (s := z5.1) (congrArg zi k5) hz6
   have k7 := got h4 h1 h2 (s := z6.1) (congrArg zi k6) hz7
   exact got_pre h4 h1 h2 h3 (fun h => (ho h).2) hb (s := z7.1) (congrArg zi k7)
 · rename_i b0 h4 be br ye hye h5 y1 hy1 y2 hy2 y3 hy3 y4 hy4 bp y5 hy5 v hv h6 w1 hw1 u hu h7 z1 hz1 z2 hz2 z3 hz3 bs z4 hz4 z5 hz5 z6 hz6 z7 hz7 z8 hz8
   have h4 : 4 ≤ n := by have := ov h4; omega
   have e4 : ((n : Int) - 4).toNat = n - 4 := by omega
   obtain ⟨j, s, on, vb, vq, vl, vc⟩ := u
   obtain ⟨e1, e2, e3⟩ : j ≤ nS (nsOf ((l.drop i).take n)) ∧ s = rdr i (n - 4) c (6 + 2 * nB (nsOf ((l.drop i).take n)) + 9 * j) ∧ Grw (slts (nsOf ((l.drop i).take n)) j) vl on j vc := hu
   have h7 : (decide (0 < (nsOf ((l.drop i).take n)).getD (5 + 2 * nB (nsOf ((l.drop i).take n))) 0 - (j : Int)) && !s.2.2.2) = true := h7
   rw [e2, rdr_bad, ← hRl] at h7
   simp only [zx, decide_eq_true_iff, zl, decide_eq_false_iff_not] at h7
   have hj := nS_lt h7.1 h7.2
   have hns := nS_le (nsOf ((l.drop i).take n))
   have k1 := got h4 h1 h2 (s := s) e2 hz1
   have k2 := got h4 h1 h2 (s := z1.1) (congrArg zi k1) hz2
   have k3 := got h4 h1 h2 (s := z2.1) (congrArg zi k2) hz3
   have k4 := got h4 h1 h2 (s := z3.1) (congrArg zi k3) hz4
   have k5 := got h4 h1 h2 (s := z4.1) (congrArg zi k4) hz5
   have k6 := got h4 h1 h2 (s := z5.1) (congrArg zi k5) hz6
   have k7 := got h4 h1 h2 (s := z6.1) (congrArg zi k6) hz7
   have k8 := got h4 h1 h2 (s := z7.1) (congrArg zi k7) hz8
   exact got_pre h4 h1 h2 h3 (fun h => (ho h).2) hb (s := z8.1) (congrArg zi k8)
 iterate 2 (
  focus
  rename_i b0 h4 be br ye hye h5 y1 hy1 y2 hy2 y3 hy3 y4 hy4 bp y5 hy5 v hv h6 w1 hw1 u hu h7 z1 hz1 z2 hz2 z3 hz3 bs z4 hz4 z5 hz5 z6 hz6 z7 hz7 z8 hz8 z9 hz9 bk
  have h4 : 4 ≤ n := by have := ov h4; omega
  have e4 : ((n : Int) - 4).toNat = n - 4 := by omega
  obtain ⟨j, s, on, vb, vq, vl, vc⟩ := u
  obtain ⟨e1, e2, e3⟩ : j ≤ nS (nsOf ((l.drop i).take n)) ∧ s = rdr i (n - 4) c (6 + 2 * nB (nsOf ((l.drop i).take n)) + 9 * j) ∧ Grw (slts (nsOf ((l.drop i).take n)) j) vl on j vc := hu
  have h7 : (decide (0 < (nsOf ((l.drop i).take n)).getD (5 + 2 * nB (nsOf ((l.drop i).take n))) 0 - (j : Int)) && !s.2.2.2) = true := h7
  rw [e2, rdr_bad, ← hRl] at h7
  simp only [zx, decide_eq_true_iff, zl, decide_eq_false_iff_not] at h7
  have hj := nS_lt h7.1 h7.2
  have hns := nS_le (nsOf ((l.drop i).take n))
  first
   | (obtain ⟨f1, f2, f3, f4, f5⟩ := e3
      rw [by88]
      exact ⟨f3, by show 0 + vc ≤ vl.length; omega, zy 1, by show (j + 1) * 72 ≤ _; omega⟩
      done)
   | (exact e3.2.2.2.2
      done))
 iterate 2 (
  focus
  rename_i b0 h4 be br ye hye h5 y1 hy1 y2 hy2 y3 hy3 y4 hy4 bp y5 hy5 v hv h6 w1 hw1 u hu h7 z1 hz1 z2 hz2 z3 hz3 bs z4 hz4 z5 hz5 z6 hz6 z7 hz7 z8 hz8 z9 hz9 bk b9 q9 sp cap m1 m2
  have h4 : 4 ≤ n := by have := ov h4; omega
  have e4 : ((n : Int) - 4).toNat = n - 4 := by omega
  obtain ⟨j, s, on, vb, vq, vl, vc⟩ := u
  obtain ⟨e1, e2, e3⟩ : j ≤ nS (nsOf ((l.drop i).take n)) ∧ s = rdr i (n - 4) c (6 + 2 * nB (nsOf ((l.drop i).take n)) + 9 * j) ∧ Grw (slts (nsOf ((l.drop i).take n)) j) vl on j vc := hu
  have h7 : (decide (0 < (nsOf ((l.drop i).take n)).getD (5 + 2 * nB (nsOf ((l.drop i).take n))) 0 - (j : Int)) && !s.2.2.2) = true := h7
  rw [e2, rdr_bad, ← hRl] at h7
  simp only [zx, decide_eq_true_iff, zl, decide_eq_false_iff_not] at h7
  have hj := nS_lt h7.1 h7.2
  have hns := nS_le (nsOf ((l.drop i).take n))
  first
   | (have hu := ns_u32 (bv := ((l.drop i).take n)) hb (5 + 2 * nB (nsOf ((l.drop i).take n)))
      exact inR64 (by have := hu.1; show _ ≤ (nsOf ((l.drop i).take n)).getD (5 + 2 * nB (nsOf ((l.drop i).take n))) 0 - (j : Int) - 1; omega) (by have := hu.2; show (nsOf ((l.drop i).take n)).getD (5 + 2 * nB (nsOf ((l.drop i).take n))) 0 - (j : Int) - 1 ≤ _; omega)
      done)
   | (have k1 := got h4 h1 h2 (s := s) e2 hz1
      have k2 := got h4 h1 h2 (s := z1.1) (congrArg zi k1) hz2
      have k3 := got h4 h1 h2 (s := z2.1) (congrArg zi k2) hz3
      have k4 := got h4 h1 h2 (s := z3.1) (congrArg zi k3) hz4
      have k5 := got h4 h1 h2 (s := z4.1) (congrArg zi k4) hz5
      have k6 := got h4 h1 h2 (s := z5.1) (congrArg zi k5) hz6
      have k7 := got h4 h1 h2 (s := z6.1) (congrArg zi k6) hz7
      have k8 := got h4 h1 h2 (s := z7.1) (congrArg zi k7) hz8
      have k9 := got h4 h1 h2 (s := z8.1) (congrArg zi k8) hz9
      subst k9 k8 k7 k6 k5 k4 k3 k2 k1 e2
      have e5 := e3.app (x := slotAt (nsOf ((l.drop i).take n)) (6 + 2 * nB (nsOf ((l.drop i).take n))) j) (sp := sp) m1 m2
      rw [← slts_next] at e5
      refine Stands.one (j + 1, rdr i (n - 4) c (6 + 2 * nB (nsOf ((l.drop i).take n)) + 9 * j + 1 + 1 + 1 + 1 + 1 + 1 + 1 + 1 + 1), true, b9, q9, vl.take j ++ [slotAt (nsOf ((l.drop i).take n)) (6 + 2 * nB (nsOf ((l.drop i).take n))) j] ++ sp, cap) ⟨⟨hj, rfl, e5⟩, ?_, ?_⟩
      · show nS (nsOf ((l.drop i).take n)) - (j + 1) < nS (nsOf ((l.drop i).take n)) - j
        omega
      exact vgo
      done))
 iterate 3 (
  focus
  rename_i b0 h4 be br ye hye h5 y1 hy1 y2 hy2 y3 hy3 y4 hy4 bp y5 hy5 v hv h6 w1 hw1 u hu h7 h8
  have h4 : 4 ≤ n := by have := ov h4; omega
  have e4 : ((n : Int) - 4).toNat = n - 4 := by omega
  obtain ⟨jb, sb, onb, bb, qb, lb, cb⟩ := v
  obtain ⟨r1, r2, r3⟩ : jb ≤ nB (nsOf ((l.drop i).take n)) ∧ sb = rdr i (n - 4) c (5 + 2 * jb) ∧ Grw (blks (nsOf ((l.drop i).take n)) jb) lb onb jb cb := hv
  have h6 : (decide (0 < (nsOf ((l.drop i).take n)).getD 4 0 - (jb : Int)) && !sb.2.2.2) = false := h6
  rw [r2, rdr_bad, ← hRl] at h6
  have hjb := nB_eq r1 h6
  obtain ⟨j, s, on, vb, vq, vl, vc⟩ := u
  obtain ⟨e1, e2, e3⟩ : j ≤ nS (nsOf ((l.drop i).take n)) ∧ s = rdr i (n - 4) c (6 + 2 * nB (nsOf ((l.drop i).take n)) + 9 * j) ∧ Grw (slts (nsOf ((l.drop i).take n)) j) vl on j vc := hu
  have h7 : (decide (0 < (nsOf ((l.drop i).take n)).getD (5 + 2 * nB (nsOf ((l.drop i).take n))) 0 - (j : Int)) && !s.2.2.2) = false := h7
  rw [e2, rdr_bad, ← hRl] at h7
  have hjs := nS_eq e1 h7
  have hnb := nB_le (nsOf ((l.drop i).take n))
  have hns := nS_le (nsOf ((l.drop i).take n))
  first
   | (exact ⟨⟨r3.2.2.1, yz r3.2.2.1 r3.2.2.2.1, r3.2.2.2.2⟩, ⟨e3.2.2.1, yz e3.2.2.1 e3.2.2.2.1, e3.2.2.2.2⟩, by show jb ≤ _; omega, by show j ≤ _; omega⟩
      done)
   | (have hK : 6 + 2 * nB (nsOf ((l.drop i).take n)) + 9 * j = 6 + 2 * nB (nsOf ((l.drop i).take n)) + 9 * nS (nsOf ((l.drop i).take n)) := by rw [hjs]
      have e6 : lb.take jb = blks (nsOf ((l.drop i).take n)) (nB (nsOf ((l.drop i).take n))) := by rw [r3.2.1, hjb]
      have e7 : vl.take j = slts (nsOf ((l.drop i).take n)) (nS (nsOf ((l.drop i).take n))) := by rw [e3.2.1, hjs]
      have h8 : (s.2.2.2 || decide (0 < (s.2.1 : Int)) || !okP (hdR (nsOf ((l.drop i).take n))) (lb.take jb) (vl.take j)) = true := h8
      rw [e2, rdr_bad, rdr_rest, hK, e6, e7, ← hRl] at h8
      refine Ends.one () (fun h A B hp => ?_) ?_
      · obtain ⟨f1, f2, f3, f4, f5, f6⟩ := isPt_facts (bv := ((l.drop i).take n)) hp (by rw [hbl]; omega)
        rw [hbl] at f5
        rw [f6, f4] at h8
        simp only [Bool.not_true, Bool.or_false, Bool.or_eq_true, decide_eq_true_iff, Nat.min_self] at h8
        omega
      exact vgo
      done)
   | (have hye2 : ye.2 = nm ((l.drop i).take n) (((l.drop i).take n).length - 4) := by
       rw [e4] at hye
       rw [show ye = _ from hye]
       show gv l _ = _
       rw [hbl]
       exact end_get h4 h1 h2
      have hcr : (l.drop i).take (n - 4) = ((l.drop i).take n).take (((l.drop i).take n).length - 4) := by rw [hbl, vm]; congr 1; omega
      have hK : 6 + 2 * nB (nsOf ((l.drop i).take n)) + 9 * j = 6 + 2 * nB (nsOf ((l.drop i).take n)) + 9 * nS (nsOf ((l.drop i).take n)) := by rw [hjs]
      have e6 : lb.take jb = blks (nsOf ((l.drop i).take n)) (nB (nsOf ((l.drop i).take n))) := by rw [r3.2.1, hjb]
      have e7 : vl.take j = slts (nsOf ((l.drop i).take n)) (nS (nsOf ((l.drop i).take n))) := by rw [e3.2.1, hjs]
      have h8 : (s.2.2.2 || decide (0 < (s.2.1 : Int)) || !okP (hdR (nsOf ((l.drop i).take n))) (lb.take jb) (vl.take j)) = false := h8
      rw [e2, rdr_bad, rdr_rest, hK, e6, e7, ← hRl] at h8
      have h5 : ¬ ¬ ye.2 = crc ((l.drop i).take ((n : Int) - 4).toNat) := ov h5
      rw [e4, hcr, hye2] at h5
      simp only [Bool.or_eq_false_iff, decide_eq_false_iff_not, Bool.not_eq_false'] at h8
      obtain ⟨⟨f1, f2⟩, f3⟩ := h8
      have hp := isPt_of (bv := ((l.drop i).take n)) hb (by rw [hbl]; exact h4) (Decidable.of_not_not h5) (by omega) (by rw [hbl]; omega) f3
      refine Ends.next (Ends.one (hdR (nsOf ((l.drop i).take n)), (onb, bb, qb, lb, jb, cb), (on, vb, vq, vl, j, vc)) ⟨?_, ⟨r3.2.2.1, yz r3.2.2.1 r3.2.2.2.1, r3.2.2.2.2⟩, ⟨e3.2.2.1, yz e3.2.2.1 e3.2.2.2.1, e3.2.2.2.2⟩⟩ ?_)
      · show IsPt _ _ (lb.take jb) (vl.take j)
        rw [e6, e7]
        exact hp
      exact vgo
      done))
def fcOpen : Fc Tryd.prog C0 where
 tg := .fn 16
 X := Bool × Nat × Nat × List Int × Nat × Nat × Nat
 args := fun (o, b, q, l, i, n, c) => [.sl 0 i n c]
 mem := fun (o, b, q, l, i, n, c) => [⟨b, q, 1, false, some o, .rows 5 l⟩]
 pre := fun (o, b, q, l, i, n, c) => n ≤ c ∧ i + c ≤ l.length ∧ n < 140737488355000 ∧ (o = false → n = 0 ∧ c = 0) ∧ Bys ((l.drop i).take n) ∧ n ≤ 1000000
 alts := fun (o, b, q, l, i, n, c) => [⟨Unit, fun _ => ∀ h A B, ¬ IsPt ((l.drop i).take n) h A B, fun _ => .tup [ptv (0, 0, 0, 0) .nils .nils, eV 0], fun _ => [⟨b, q, 1, false, some o, .rows 5 l⟩]⟩,
  ⟨Hd × (Bool × Nat × Nat × List Pl × Nat × Nat) × (Bool × Nat × Nat × List Slot × Nat × Nat), fun y => IsPt ((l.drop i).take n) y.1 (y.2.1.2.2.2.1.take y.2.1.2.2.2.2.1) (y.2.2.2.2.2.1.take y.2.2.2.2.2.2.1) ∧ Sq.ok y.2.1 ∧ Sq.ok y.2.2,
   fun y => .tup [ptv y.1 (.sl 1 0 y.2.1.2.2.2.2.1 y.2.1.2.2.2.2.2) (.sl 2 0 y.2.2.2.2.2.2.1 y.2.2.2.2.2.2.2), .nili],
   fun y => [⟨b, q, 1, false, some o, .rows 5 l⟩, ⟨y.2.1.2.1, y.2.1.2.2.1, 2, true, some y.2.1.1, .rows 87 y.2.1.2.2.2.1⟩, ⟨y.2.2.2.1, y.2.2.2.2.1, 9, true, some y.2.2.1, .rows 88 y.2.2.2.2.2.1⟩]⟩]
 mat vs m := match vs with
  | [.sl a i n c] => match nth m a with
    | ⟨b, q, _, _, g, .rows 5 l⟩ => some ((onOf g, b, q, l, i, n, c), [a])
    | _ => none
  | [.nils] => some ((false, 0, 0, [], 0, 0, 0), [m.length])
  | _ => none
 ok := fun (o, b, q, l, i, n, c) h => open_ok o b q l i n c h.1 h.2.1 h.2.2.1 h.2.2.2.1 h.2.2.2.2.1 h.2.2.2.2.2
end Go.Vx
namespace Go.Vx
open Go Go.Proofs
variable [Gl]
theorem okP_none : okP (0, 0, 0, 0) [] [] = true := by
 have : cn 0 = true := cn_iff.2 (by decide)
 unfold okP okH
 simp [okSs, okBs, this]
abbrev P0 : List Int := bytesP (0, 0, 0, 0) [] []
theorem P0_len : P0.length = 28 := by rw [bytesP_len]; rfl
theorem P0_pcN : pcN P0.length 20 = 4 := by rw [P0_len]; rfl
theorem cn7 : cn 7 = true := cn_iff.2 (by decide)
structure Fst (y1 : Nat × Nat × List Int × Nat) (y2 : Nat × Nat × List (Rw Int) × Nat) : Prop where
 b : y1.2.2.1.take P0.length = P0
 c : P0.length ≤ y1.2.2.2 ∧ y1.2.2.2 ≤ y1.2.2.1.length
 g : 4 ≤ y2.2.2.2 ∧ y2.2.2.2 ≤ y2.2.2.1.length
 r : ∀ r ∈ y2.2.2.1.take 4, Rok r ∧ Bys r.l
 j : JOk (rowL y2.2.2.1 0 4) 7 28
 o : (jout (rowL y2.2.2.1 0 4)).take 28 = P0
theorem fst_of {y1 : Nat × Nat × List Int × Nat} {y2 : Nat × Nat × List (Rw Int) × Nat} (h1 : Gr P0 y1.2.2.1 P0.length y1.2.2.2) (h2 : Grw (y2.2.2.1.take (pcN P0.length 20)) y2.2.2.1 true (pcN P0.length 20) y2.2.2.2) (h3 : Prs (y1.2.2.1.take P0.length) 20 7 y2.2.2.1 (pcN P0.length 20)) : Fst y1 y2 := by
 rw [h1.2.1] at h3
 have J := jb1 (by decide) (by decide) cn7 (by rw [P0_len]; decide) h3
 have R := prs_rows (bytesP_byt _ _ _) h3
 rw [P0_pcN] at h2 R J
 rw [P0_len] at J
 exact ⟨h1.2.1, h1.2.2, ⟨h2.2.2.1, h2.2.2.2.1⟩, R, J.1, J.2⟩
theorem first_ok : Tells (C := C0) Tryd.prog (.fn 8) [] [] (.bool .t) := by
 refine loc_pc (P := Tryd.prog) (E := ⟨[fcBytes, fcPieces, fcJoin, fcOpen], [pcSb], 62, [], [], []⟩) (L := []) mix Tryd.func8 rfl (by kernel_rfl) (by kernel_rfl) rfl rfl ?_
 ((conv => arg 1; reduce); with_reducible repeat' first | exact ty | refine ta ?_ ?_ | refine ti fun _ => ?_ | refine tf fun _ => ?_ | refine tl ?_)
 all_goals try exact vlf
 · exact ⟨⟨zy _, zy _, fun _ => ⟨rfl, rfl⟩⟩, ⟨zy _, zy _, fun _ => ⟨rfl, rfl⟩⟩, by decide, by decide⟩
 · rename_i y1 h1
   have h1 : okP (0, 0, 0, 0) [] [] = false := h1
   rw [okP_none] at h1; cases h1
 · rename_i y1 h1 y2 h2
   have h1 : okP (0, 0, 0, 0) [] [] = false := h1
   rw [okP_none] at h1; cases h1
 · rename_i y1 h1 y2 h2
   have h1 : okP (0, 0, 0, 0) [] [] = false := h1
   rw [okP_none] at h1; cases h1
 · rename_i y1 h1
   have e := h1.2.2.2
   exact ⟨⟨e.1, yz e.1 e.2, fun h => xf h⟩, by show P0.length ≤ 1000000; rw [P0_len]; decide⟩
 · rename_i y1 h1 y2 h2
   have h2 : cn 7 = false := h2.2
   rw [cn7] at h2; cases h2
 · rename_i y1 h1 y2 h2
   have h2 : 64 * 8 < P0.length := h2.2.2
   rw [P0_len] at h2; omega
 · rename_i y1 h1 y2 h2 d1
   have d1 : (decide ((P0.length : Int) ≠ 28) || decide (((pcN P0.length 20 : Nat) : Int) ≠ 4)) = true := d1
   rw [P0_pcN, P0_len] at d1; cases d1
 · rename_i y1 h1 y2 h2 d1
   have F : Fst y1 y2 := fst_of h1.2 h2.2.2.2.1 h2.2.2.2.2
   have e4 : pcN P0.length (20 : Int).toNat = 4 := P0_pcN
   show 0 + pcN P0.length (20 : Int).toNat ≤ y2.2.2.1.length ∧ (_ → pcN P0.length (20 : Int).toNat = 0 ∧ _) ∧ (∀ r ∈ (y2.2.2.1.drop 0).take (pcN P0.length (20 : Int).toNat), _) ∧ pcN P0.length (20 : Int).toNat ≤ 1000000
   rw [e4]
   exact ⟨by have := F.g; omega, fun h => xf h, F.r, by decide⟩
 · exact ⟨zy _, zy _, by decide, fun _ => ⟨rfl, rfl⟩, (show Bys [] from fun x hx => nomatch hx), by decide⟩
 · rename_i y1 h1 y2 h2 d1 y3 h3 y4 h4 b4
   have F : Fst y1 y2 := fst_of h1.2 h2.2.2.2.1 h2.2.2.2.2
   have e4 : pcN P0.length (20 : Int).toNat = 4 := P0_pcN
   have h3 : jbad (rowL y2.2.2.1 0 (pcN P0.length (20 : Int).toNat)) := h3
   rw [e4] at h3
   exact absurd h3 F.j.1
 · rename_i y1 h1 y2 h2 d1 y3 h3 y4 h4 b4
   have F : Fst y1 y2 := fst_of h1.2 h2.2.2.2.1 h2.2.2.2.2
   have e4 : pcN P0.length (20 : Int).toNat = 4 := P0_pcN
   have h3 : jbad (rowL y2.2.2.1 0 (pcN P0.length (20 : Int).toNat)) := h3
   rw [e4] at h3
   exact absurd h3 F.j.1
 · exact ⟨zy _, zy _, by decide, fun _ => ⟨rfl, rfl⟩, (show Bys [] from fun x hx => nomatch hx), by decide⟩
 · rename_i y1 h1 y2 h2 d1 y3 h3 y4 h4 b4
   have F : Fst y1 y2 := fst_of h1.2 h2.2.2.2.1 h2.2.2.2.2
   have e4 : pcN P0.length (20 : Int).toNat = 4 := P0_pcN
   have h3 : ∀ a s, ¬ JOk (rowL y2.2.2.1 0 (pcN P0.length (20 : Int).toNat)) a s := h3.2
   rw [e4] at h3
   exact absurd F.j (h3 _ _)
 · rename_i y1 h1 y2 h2 d1 y3 h3 y4 h4 b4
   have F : Fst y1 y2 := fst_of h1.2 h2.2.2.2.1 h2.2.2.2.2
   have e4 : pcN P0.length (20 : Int).toNat = 4 := P0_pcN
   have h3 : ∀ a s, ¬ JOk (rowL y2.2.2.1 0 (pcN P0.length (20 : Int).toNat)) a s := h3.2
   rw [e4] at h3
   exact absurd F.j (h3 _ _)
 · rename_i y1 h1 y2 h2 d1 y3 h3
   have F : Fst y1 y2 := fst_of h1.2 h2.2.2.2.1 h2.2.2.2.2
   have e4 : pcN P0.length (20 : Int).toNat = 4 := P0_pcN
   have h3a : JOk (rowL y2.2.2.1 0 (pcN P0.length (20 : Int).toNat)) y3.1.1 y3.1.2 := h3.1
   have h3b : y3.1.2 ≤ y3.2.2.2.length := h3.2.1
   have h3c : y3.2.2.2.take y3.1.2 = (jout (rowL y2.2.2.1 0 (pcN P0.length (20 : Int).toNat))).take y3.1.2 := h3.2.2
   rw [e4] at h3a h3c
   obtain ⟨u1, u2⟩ := jok_uniq h3a F.j
   have u3 : y3.1.2 = 28 := by omega
   rw [u3, F.o] at h3c
   show y3.1.2 ≤ y3.1.2 ∧ 0 + y3.1.2 ≤ y3.2.2.2.length ∧ y3.1.2 < 140737488355000 ∧ (_ → _ ∧ _) ∧ Bys ((y3.2.2.2.drop 0).take y3.1.2) ∧ y3.1.2 ≤ 1000000
   rw [xi, u3, h3c]
   exact ⟨zy _, by omega, by decide, fun h => xf h, bytesP_byt _ _ _, by decide⟩
 · rename_i y1 h1 y2 h2 d1 y3 h3 y4 h4 b4 d4
   have F : Fst y1 y2 := fst_of h1.2 h2.2.2.2.1 h2.2.2.2.2
   have e4 : pcN P0.length (20 : Int).toNat = 4 := P0_pcN
   have h3a : JOk (rowL y2.2.2.1 0 (pcN P0.length (20 : Int).toNat)) y3.1.1 y3.1.2 := h3.1
   have h3b : y3.1.2 ≤ y3.2.2.2.length := h3.2.1
   have h3c : y3.2.2.2.take y3.1.2 = (jout (rowL y2.2.2.1 0 (pcN P0.length (20 : Int).toNat))).take y3.1.2 := h3.2.2
   rw [e4] at h3a h3c
   obtain ⟨u1, u2⟩ := jok_uniq h3a F.j
   have u3 : y3.1.2 = 28 := by omega
   rw [u3, F.o] at h3c
   exact absurd (show IsPt ((y3.2.2.2.drop 0).take y3.1.2) (0, 0, 0, 0) [] [] by rw [u3, xi, h3c]; exact ⟨okP_none, rfl⟩) (h4 _ _ _)
 · rename_i y1 h1 y2 h2 d1 y3 h3 y4 h4 b4
   have F : Fst y1 y2 := fst_of h1.2 h2.2.2.2.1 h2.2.2.2.2
   have e4 : pcN P0.length (20 : Int).toNat = 4 := P0_pcN
   have h3a : JOk (rowL y2.2.2.1 0 (pcN P0.length (20 : Int).toNat)) y3.1.1 y3.1.2 := h3.1
   have h3b : y3.1.2 ≤ y3.2.2.2.length := h3.2.1
   have h3c : y3.2.2.2.take y3.1.2 = (jout (rowL y2.2.2.1 0 (pcN P0.length (20 : Int).toNat))).take y3.1.2 := h3.2.2
   rw [e4] at h3a h3c
   obtain ⟨u1, u2⟩ := jok_uniq h3a F.j
   have u3 : y3.1.2 = 28 := by omega
   rw [u3, F.o] at h3c
   exact absurd (show IsPt ((y3.2.2.2.drop 0).take y3.1.2) (0, 0, 0, 0) [] [] by rw [u3, xi, h3c]; exact ⟨okP_none, rfl⟩) (h4 _ _ _)
 · rename_i y1 h1 y2 h2 d1 y3 h3 y4 h4 b4 d4
   have F : Fst y1 y2 := fst_of h1.2 h2.2.2.2.1 h2.2.2.2.2
   have e4 : pcN P0.length (20 : Int).toNat = 4 := P0_pcN
   have h3a : JOk (rowL y2.2.2.1 0 (pcN P0.length (20 : Int).toNat)) y3.1.1 y3.1.2 := h3.1
   have h3b : y3.1.2 ≤ y3.2.2.2.length := h3.2.1
   have h3c : y3.2.2.2.take y3.1.2 = (jout (rowL y2.2.2.1 0 (pcN P0.length (20 : Int).toNat))).take y3.1.2 := h3.2.2
   rw [e4] at h3a h3c
   obtain ⟨u1, u2⟩ := jok_uniq h3a F.j
   have u3 : y3.1.2 = 28 := by omega
   rw [u3, F.o] at h3c
   show 0 + P0.length ≤ y1.2.2.1.length ∧ 0 + y3.1.2 ≤ y3.2.2.2.length ∧ (_ → _ ∧ _) ∧ (_ → _ ∧ _) ∧ Bys ((y1.2.2.1.drop 0).take P0.length) ∧ Bys ((y3.2.2.2.drop 0).take y3.1.2)
   rw [xi, xi, u3, h3c, F.b]
   exact ⟨by have := F.c; omega, by omega, fun h => xf h, fun h => xf h, bytesP_byt _ _ _, bytesP_byt _ _ _⟩
 · rename_i y1 h1 y2 h2 d1 y3 h3 y4 h4 b4
   have F : Fst y1 y2 := fst_of h1.2 h2.2.2.2.1 h2.2.2.2.2
   have e4 : pcN P0.length (20 : Int).toNat = 4 := P0_pcN
   have h3a : JOk (rowL y2.2.2.1 0 (pcN P0.length (20 : Int).toNat)) y3.1.1 y3.1.2 := h3.1
   have h3b : y3.1.2 ≤ y3.2.2.2.length := h3.2.1
   have h3c : y3.2.2.2.take y3.1.2 = (jout (rowL y2.2.2.1 0 (pcN P0.length (20 : Int).toNat))).take y3.1.2 := h3.2.2
   rw [e4] at h3a h3c
   obtain ⟨u1, u2⟩ := jok_uniq h3a F.j
   have u3 : y3.1.2 = 28 := by omega
   rw [u3, F.o] at h3c
   show (decide (y3.1.1 = 7) && ieq (((y1.2.2.1.drop 0)).take P0.length) ((y3.2.2.2.drop 0).take y3.1.2)) = true
   rw [u1, u3, xi, xi, h3c, F.b]
   simp [ieq_yes]
def pcFirst : Pc Tryd.prog C0 where
 tg := .fn 8
 X := Unit
 args := fun _ => []
 mem := fun _ => []
 pre := fun _ => True
 res := fun _ => .bool .t
 mat vs m := some ((), [])
 ok := fun _ _ => first_ok
end Go.Vx
namespace Go.Vx.Sc
open Go Go.Proofs
theorem vlk {P : Prop} (h : P := by (first | first | (show Region.lexB _ _ = true; kernel_rfl) | (show planned _ _ = true; kernel_rfl) | exact rfl | exact True.intro | (first | exact key3 | exact zeroB | exact zeroR | exact zeroS | exact ⟨key3, zeroB⟩ | exact ⟨key3, zeroR⟩ | exact ⟨key3, zeroS⟩) | ((try dsimp only [imp, C0, cG, cInt, cPl, cSlot, cPg, rwCodec, gwCodec] at *); (try refine inR64 ?_ ?_) <;> (try simp only [List.length_set, List.length_append, List.length_take, List.length_drop]) <;> omega))) : P := h
theorem vgk {T : Tr} (h : T.holds := by (((conv => arg 1; reduce); with_reducible repeat' first | exact ty | refine ta ?_ ?_ | refine ti fun _ => ?_ | refine tf fun _ => ?_ | refine tl ?_); all_goals (first | first | (show Region.lexB _ _ = true; kernel_rfl) | (show planned _ _ = true; kernel_rfl) | exact rfl | exact True.intro | (first | exact key3 | exact zeroB | exact zeroR | exact zeroS | exact ⟨key3, zeroB⟩ | exact ⟨key3, zeroR⟩ | exact ⟨key3, zeroS⟩) | ((try dsimp only [imp, C0, cG, cInt, cPl, cSlot, cPg, rwCodec, gwCodec] at *); (try refine inR64 ?_ ?_) <;> (try simp only [List.length_set, List.length_append, List.length_take, List.length_drop]) <;> omega)))) : T.holds := h
abbrev pg0 : Pg := ⟨(0, 0), 0, me0⟩
section
variable [Gl]
def fG : Fam C0 where
 te := 63
 off := 0
 t := 70
 get x := x
 enc x := rfl
 good w x h := h.1
 blk x b hb := hb
 flat := rfl
 hoff := Nat.zero_lt_one
 put := some fun x => x
 gro p hp := by
  simp only [Option.some.injEq] at hp
  subst hp
  exact ⟨fun _ => rfl, rfl, fun _ => rfl, rfl, rfl, fun _ => rfl, fun _ _ h => h, fun _ _ h => h⟩
end
end Go.Vx.Sc
namespace Go.Vx.Sc
open Go Go.Proofs
variable [Gl]
theorem on_of {o : Bool} {n c : Nat} (ho : o = false → n = 0 ∧ c = 0) (h : 0 < n) : o = true := by
 cases o with
 | true => rfl
 | false => have := (ho rfl).1; omega
theorem take_snoc {α : Type} {A : List α} {i : Nat} {d : α} (h : i < A.length) : A.take (i + 1) = A.take i ++ [A.getD i d] := by
 rw [List.take_add_one]
 simp [List.getD, h]
theorem tk_len {α : Type} {l : List α} {n : Nat} (h : n ≤ l.length) : (l.take n).length = n := by
 rw [List.length_take]; omega
theorem tk_get {α : Type} {l : List α} {n i : Nat} {d : α} (h : i < n) : (l.take n).getD i d = l.getD i d := by
 simp only [zz, List.getElem?_take, if_pos h]
theorem getD_mem {α : Type} {l : List α} {i : Nat} {d : α} (h : i < l.length) : l.getD i d ∈ l := by
 rw [zz, zv h]; exact xk h
abbrev Sq (α : Type) := Bool × Nat × Nat × List α × Nat × Nat
def Sq.ok {α : Type} (s : Sq α) : Prop := s.2.2.2.2.1 ≤ s.2.2.2.2.2 ∧ s.2.2.2.2.1 ≤ s.2.2.2.1.length ∧ (s.1 = false → s.2.2.2.2.1 = 0 ∧ s.2.2.2.2.2 = 0)
def Sq.li {α : Type} (s : Sq α) : List α := s.2.2.2.1.take s.2.2.2.2.1
theorem isNaN_ok (n : Int) : Tells (C := C0) Tryd.prog (.fn 93) [] [.int .i64 n] (.bool .f) := by
 refine loc_pc (P := Tryd.prog) (E := ⟨[], [], 6, [], [], []⟩) (L := []) mix Tryd.func93 rfl (by kernel_rfl) (by kernel_rfl) rfl rfl ?_
 ((conv => arg 1; reduce); with_reducible repeat' first | exact ty | refine ta ?_ ?_ | refine ti fun _ => ?_ | refine tf fun _ => ?_ | refine tl ?_)
 all_goals try exact vlk
 all_goals simp [SB.val]
def pcNaN : Pc Tryd.prog C0 where
 tg := .fn 93
 X := Int
 args x := [.int .i64 x]
 mem _ := []
 pre _ := True
 res x := .bool .f
 mat vs _ := match vs with
  | [.int _ a] => some (a, [])
  | _ => none
 ok x _ := isNaN_ok x
@[irreducible] def cmpI (a b : Int) : Int := if a < b then -1 else if b < a then 1 else 0
theorem cmpI_lt {a b : Int} (h : a < b) : cmpI a b = -1 := by unfold cmpI; rw [if_pos h]
theorem cmpI_gt {a b : Int} (h : b < a) : cmpI a b = 1 := by unfold cmpI; rw [if_neg (by omega), if_pos h]
theorem cmpI_eq {a b : Int} (h : ¬ a < b) (h' : ¬ b < a) : cmpI a b = 0 := by unfold cmpI; rw [if_neg h, if_neg h']
theorem compare_ok (a b : Int) : Tells (C := C0) Tryd.prog (.fn 68) [] [.int .i64 a, .int .i64 b] (.int .i64 (cmpI a b)) := by
 refine loc_pc (P := Tryd.prog) (E := ⟨[], [pcNaN], 20, [], [], []⟩) (L := []) mix Tryd.func68 rfl (by kernel_rfl) (by kernel_rfl) rfl rfl ?_
 ((conv => arg 1; reduce); with_reducible repeat' first | exact ty | refine ta ?_ ?_ | refine ti fun _ => ?_ | refine tf fun _ => ?_ | refine tl ?_)
 all_goals try exact vlk
 · rename_i h1
   exact (cmpI_lt (ow h1)).symm
 · rename_i h1 h2
   exact (cmpI_gt (ow h2)).symm
 · rename_i h1 h2
   exact (cmpI_eq (ov h1) (ov h2)).symm
def pcCompare : Pc Tryd.prog C0 where
 tg := .fn 68
 X := Int × Int
 args x := [.int .i64 x.1, .int .i64 x.2]
 mem _ := []
 pre _ := True
 res x := .int .i64 (cmpI x.1 x.2)
 mat vs _ := match vs with
  | [.int _ a, .int _ b] => some ((a, b), [])
  | _ => none
 ok x _ := compare_ok x.1 x.2
def newer (a b : Me) : Bool := decide (b.seq < a.seq) || (decide (a.seq = b.seq) && decide (a.stamp < b.stamp))
def alive (m : Me) (f : Int) : Bool := decide (m.batch = 0) || decide (m.batch ≤ f)
theorem newer_ok (a b : Me) : Tells (C := C0) Tryd.prog (.fn 108) [] [.agg (meE a), .agg (meE b)] (.bool (.tm (newer a b))) := by
 refine loc_pc (P := Tryd.prog) (E := ⟨[], [], 24, [], [], []⟩) (L := []) mix Tryd.func108 rfl (by kernel_rfl) (by kernel_rfl) rfl rfl ?_
 exact vgk
def pcNewer : Pc Tryd.prog C0 where
 tg := .fn 108
 X := Me × Me
 args x := [.agg (meE x.1), .agg (meE x.2)]
 mem _ := []
 pre _ := True
 res x := .bool (.tm (newer x.1 x.2))
 mat vs _ := match vs with
  | [.agg [.int _ a1, .int _ a2, .int _ a3, .int _ a4, .int _ a5, .int _ a6], .agg [.int _ b1, .int _ b2, .int _ b3, .int _ b4, .int _ b5, .int _ b6]] => some ((⟨a1, a2, a3, a4, a5, a6⟩, ⟨b1, b2, b3, b4, b5, b6⟩), [])
  | _ => none
 ok x _ := newer_ok x.1 x.2
theorem alive_ok (m : Me) (f : Int) : Tells (C := C0) Tryd.prog (.fn 75) [] [.agg (meE m), .int .i64 f] (.bool (.tm (alive m f))) := by
 refine loc_pc (P := Tryd.prog) (E := ⟨[], [], 14, [], [], []⟩) (L := []) mix Tryd.func75 rfl (by kernel_rfl) (by kernel_rfl) rfl rfl ?_
 exact vgk
def pcAlive : Pc Tryd.prog C0 where
 tg := .fn 75
 X := Me × Int
 args x := [.agg (meE x.1), .int .i64 x.2]
 mem _ := []
 pre _ := True
 res x := .bool (.tm (alive x.1 x.2))
 mat vs _ := match vs with
  | [.agg [.int _ a1, .int _ a2, .int _ a3, .int _ a4, .int _ a5, .int _ a6], .int _ f] => some ((⟨a1, a2, a3, a4, a5, a6⟩, f), [])
  | _ => none
 ok x _ := alive_ok x.1 x.2
theorem pnewer_ok (a b : Pg) : Tells (C := C0) Tryd.prog (.fn 99) [] [.agg (pgE a), .agg (pgE b)] (.bool (.tm (newer a.me b.me))) := by
 refine loc_pc (P := Tryd.prog) (E := ⟨[], [pcNewer], 10, [], [], []⟩) (L := []) mix Tryd.func99 rfl (by kernel_rfl) (by kernel_rfl) rfl rfl ?_
 exact vgk
def pcPnewer : Pc Tryd.prog C0 where
 tg := .fn 99
 X := Pg × Pg
 args x := [.agg (pgE x.1), .agg (pgE x.2)]
 mem _ := []
 pre _ := True
 res x := .bool (.tm (newer x.1.me x.2.me))
 mat vs _ := match vs with
  | [.agg [.int _ a, .int _ b, .int _ k, .int _ a1, .int _ a2, .int _ a3, .int _ a4, .int _ a5, .int _ a6], .agg [.int _ c, .int _ d, .int _ e, .int _ b1, .int _ b2, .int _ b3, .int _ b4, .int _ b5, .int _ b6]] =>
    some ((⟨(a, b), k, ⟨a1, a2, a3, a4, a5, a6⟩⟩, ⟨(c, d), e, ⟨b1, b2, b3, b4, b5, b6⟩⟩), [])
  | _ => none
 ok x _ := pnewer_ok x.1 x.2
@[irreducible] def orL : List Int → Int
  | [] => 0
  | a :: r => if a ≠ 0 then a else orL r
theorem orL_cons (a : Int) (r : List Int) : orL (a :: r) = if a ≠ 0 then a else orL r := by rw [orL]
theorem orL_nil : orL [] = 0 := by rw [orL]
theorem orL_at : ∀ {A : List Int} {i : Nat}, i < A.length → (∀ x ∈ A.take i, x = 0) → A.getD i 0 ≠ 0 → orL A = A.getD i 0
 | a :: r, 0, _, _, h => by rw [orL_cons, if_pos (by simpa using h)]; rfl
 | a :: r, i + 1, hi, h0, h => by
   have ha : a = 0 := h0 a (by simp)
   rw [orL_cons, if_neg (by simp [ha]), orL_at (i := i) (by simpa using hi) (fun x hx => h0 x (by simp [hx])) (by simpa using h)]
   simp
theorem orL_no : ∀ {A : List Int}, (∀ x ∈ A, x = 0) → orL A = 0
 | [], _ => orL_nil
 | a :: r, h => by rw [orL_cons, if_neg (by simp [h a (by simp)]), orL_no fun x hx => h x (by simp [hx])]
def Or1 (A : List Int) : Inv' C0 := ⟨3, Nat, fun i => [(8, .int .i64 (i : Int))], fun _ m => m, fun i => i ≤ A.length ∧ ∀ x ∈ A.take i, x = 0, fun i => A.length - i⟩
theorem or_ok (b q : Nat) (l : List Int) (n c : Nat) (h : n ≤ l.length) (hn : n < 4611686018427387904) :
 Tells (C := C0) Tryd.prog (.fn 67) [⟨b, q, 1, false, none, .rows 3 l⟩] [.sl 0 0 n c] (.int .i64 (orL (l.take n))) := by
 have hL := tk_len h
 refine loc_pc (P := Tryd.prog) (E := ⟨[], [], 18, [], [], []⟩) (L := [Or1 (l.take n)]) mix Tryd.func67 rfl (by kernel_rfl) (by kernel_rfl) rfl rfl ?_
 ((conv => arg 1; reduce); with_reducible repeat' first | exact ty | refine ta ?_ ?_ | refine ti fun _ => ?_ | refine tf fun _ => ?_ | refine tl ?_)
 all_goals try (first | exact vlk | ((try dsimp only [Or1] at *); exact vau))
 · refine Stands.one (0 : Nat) ⟨⟨zn _, by simp⟩, ?_⟩
   exact vgk
 · rename_i v hv h1 h2
   change Nat at v
   obtain ⟨e1, e2⟩ := hv
   have h1 : v < n := by have := ow h1; omega
   have h2 : l.getD v 0 ≠ 0 := ow h2
   rw [orL_at (i := v) (by rw [hL]; exact h1) e2 (by rw [tk_get h1]; exact h2), tk_get h1]
   rfl
 · rename_i v hv h1 h2
   change Nat at v
   obtain ⟨e1, e2⟩ := hv
   have h1 : v < n := by have := ow h1; omega
   have h2 : ¬ l.getD v 0 ≠ 0 := ov h2
   refine Stands.one (v + 1 : Nat) ⟨⟨by rw [hL]; exact h1, fun x hx => ?_⟩, ?_, ?_⟩
   · rw [take_snoc (d := 0) (by rw [hL]; exact h1), tk_get h1] at hx
     rcases List.mem_append.1 hx with hx | hx
     · exact e2 x hx
     · rw [List.mem_singleton.1 hx]; omega
   · show (l.take n).length - (v + 1) < (l.take n).length - v
     rw [hL]; omega
   exact vgk
 · rename_i v hv h1
   change Nat at v
   obtain ⟨e1, e2⟩ := hv
   have h1 : ¬ v < n := by have := ov h1; omega
   rw [zu (by rw [hL]; omega)] at e2
   exact (orL_no e2).symm
def pcOr : Pc Tryd.prog C0 where
 tg := .fn 67
 X := Nat × Nat × List Int × Nat × Nat
 args := fun (b, q, l, n, c) => [.sl 0 0 n c]
 mem := fun (b, q, l, n, c) => [⟨b, q, 1, false, none, .rows 3 l⟩]
 pre := fun (b, q, l, n, c) => n ≤ l.length ∧ n < 4611686018427387904
 res := fun (b, q, l, n, c) => .int .i64 (orL (l.take n))
 mat vs m := match vs with
  | [.sl a 0 n c] => match nth m a with
    | ⟨b, q, _, _, _, .rows 3 l⟩ => some ((b, q, l, n, c), [a])
    | _ => none
  | _ => none
 ok := fun (b, q, l, n, c) h => or_ok b q l n c h.1 h.2
@[irreducible] def plc (a b : Pl) : Int := orL [cmpI a.1 b.1, cmpI a.2 b.2]
def plLt (a b : Pl) : Prop := a.1 < b.1 ∨ a.1 = b.1 ∧ a.2 < b.2
instance (a b : Pl) : Decidable (plLt a b) := by unfold plLt; infer_instance
theorem plc_lt {a b : Pl} : plc a b < 0 ↔ plLt a b := by
 unfold plc plLt
 rw [orL_cons, orL_cons, orL_nil]
 unfold cmpI
 repeat' split
 all_goals omega
theorem places_ok (a b : Pl) : Tells (C := C0) Tryd.prog (.fn 51) [] [.agg (plE a), .agg (plE b)] (.int .i64 (plc a b)) := by
 refine loc_pc (P := Tryd.prog) (E := ⟨[], [pcCompare, pcOr], 17, [(1, [1000002, 1000003], [.p 0, .p 1, .p 2, .p 3, .p 5, .p 6, .p 7, .p 8, .q 4, .q 9, .e 10, .q 11, .p 12])], [], []⟩) (L := []) mix Tryd.func51 rfl (by kernel_rfl) (by kernel_rfl) rfl rfl ?_
 ((conv => arg 1; reduce); with_reducible repeat' first | exact ty | refine ta ?_ ?_ | refine ti fun _ => ?_ | refine tf fun _ => ?_ | refine tl ?_)
 all_goals try exact vlk
 · exact ⟨zy _, by omega⟩
 · unfold plc
   rfl
def pcPlaces : Pc Tryd.prog C0 where
 tg := .fn 51
 X := Pl × Pl
 args x := [.agg (plE x.1), .agg (plE x.2)]
 mem _ := []
 pre _ := True
 res x := .int .i64 (plc x.1 x.2)
 mat vs _ := match vs with
  | [.agg [.int _ a1, .int _ a2], .agg [.int _ b1, .int _ b2]] => some (((a1, a2), (b1, b2)), [])
  | _ => none
 ok x _ := places_ok x.1 x.2
end Go.Vx.Sc
namespace Go.Vx.Sc
open Go Go.Proofs
variable [Gl]
theorem und3 : Tryd.prog.underlying 3 = some (.int .i64) := by kernel_rfl
theorem check_int {P : Program} {t : TypeId} {k : IntKind} (h : P.underlying t = some (.int k)) (b : Bool) (n : Nat) (x : Int) (w : World) : (Instr.checkKey b (n + 1) t (.int k x)).run P w = .ok () w := by
 simp only [Instr.checkKey, Sem.run_bind, run_underlying' h, Result.andThen_ok, Sem.run_pure]
theorem bits_int (k : IntKind) (n : Nat) (x : Int) : Instr.sameBits n (.int k x) (.int k x) = true := by
 cases n <;> simp [Instr.sameBits]
theorem zero_of {P : Program} {t : TypeId} {z : Value} (h : (P.info? t).map (·.zero) = some (some z)) (w : World) : (zeroValue t).run P w = .ok z w := by
 cases hi : P.info? t with
 | none => rw [hi] at h; cases h
 | some i =>
   rw [hi] at h
   simp only [yu, Option.some.injEq] at h
   simp [zeroValue, typeInfo, hi, h]
theorem key3 : KeyOK Tryd.prog 3 (C0 3) where
 chk b x w := check_int und3 b 9999 x w
 find d l q w := by
  have h : ∀ (l : List (Ent' (C0 3) d)) (i : Nat), Instr.findNow (.int .i64) (packV (C0 3) q) (l.map (entryOf (C0 3) d)) i = some ((mfix (C0 3) d q l i).map fun p => (p.1, packV d p.2)) := by
   intro l
   induction l with
   | nil => intro i; rfl
   | cons e r ih =>
     intro i
     have hs : Instr.sameNow (.int .i64) (packV (C0 3) q) (entryOf (C0 3) d e).key = some ((C0 3).beq q e.1) := by
      show Instr.sameNow (.int .i64) (.int .i64 q) (.int .i64 e.1) = some (@decide (q = e.1) (pu q e.1))
      simp only [Instr.sameNow, if_true]
      exact congrArg some (Bool.eq_iff_iff.2 (by simp))
     simp only [ym, Instr.findNow, hs, mfix]
     cases (C0 3).beq q e.1
     · exact ih _
     · rfl
  simp only [Instr.findKey, Sem.run_bind, run_underlying' und3, Result.andThen_ok, h]
  rfl
 bits x y h := by
  have e : x = y := @of_decide_eq_true _ (pu x y) h
  rw [e]
  exact bits_int .i64 10000 y
theorem zeroB : ZeroIs Tryd.prog 4 (C0 4) := ⟨zero_of (show (Tryd.prog.info? 4).map (·.zero) = some (some (.bool false)) by kernel_rfl)⟩
theorem zeroR : ZeroIs Tryd.prog 63 (C0 63) := ⟨zero_of (show (Tryd.prog.info? 63).map (·.zero) = some (some (.slice none 0 0)) by kernel_rfl)⟩
theorem zeroS : ZeroIs Tryd.prog 88 (C0 88) := ⟨zero_of (show (Tryd.prog.info? 88).map (·.zero) = some (some (.agg #[.int .i64 0, .int .i64 0, .int .i64 0, .int .i64 0, .int .i64 0, .int .i64 0, .int .i64 0, .int .i64 0, .int .i64 0])) by kernel_rfl)⟩
def Rok {α : Type} (r : Rw α) : Prop := (r.on = false → r.l.length = 0 ∧ r.m = 0) ∧ r.l.length ≤ r.m ∧ r.l.length < 140737488355000
abbrev Bm := List (Int × Bool × Nat)
abbrev mgetB (M : Bm) (k : Int) : Bool := mget (C0 3) (C0 4) M k
def hdP (b : Int) (p : Pg) : Bool := decide (p.pl.2 = 0) && decide (p.cl = 1) && decide (p.me.kind = 1) && decide (p.me.key = b)
def isHd (b : Int) (l : List Pg) : Bool := decide (0 < (l.length : Int)) && hdP b (l.getD 0 pg0)
abbrev chpR (b q : Nat) (n c : Nat) : Ck C0 := ⟨b, q, 15, false, none, .one [.junk, .junk, .junk, .junk, .sl 1 0 n c, .junk, .junk, .junk, .junk, .junk, .junk, .junk, .junk, .junk, .junk]⟩
abbrev chpB (b q : Nat) (n c : Nat) : Ck C0 := ⟨b, q, 15, false, none, .one [.junk, .junk, .junk, .junk, .sl 1 0 n c, .mp 2, .junk, .junk, .junk, .junk, .junk, .junk, .junk, .junk, .junk]⟩
abbrev gridR (b q : Nat) (R : List (Rw Pg)) : Ck C0 := ⟨b, q, 1, false, none, .rows 63 R⟩
theorem and_l {a b : Bool} (h : (a && b) = true) : a = true := (Bool.and_eq_true_iff.1 h).1
theorem and_r {a b : Bool} (h : (a && b) = true) : b = true := (Bool.and_eq_true_iff.1 h).2
theorem headed_ok (bc qc bg qg : Nat) (R : List (Rw Pg)) (n c : Nat) (i : Int) (h : n ≤ R.length) (hi : 0 ≤ i ∧ i < (n : Int)) (hR : ∀ r ∈ R, Rok r) :
 Tells (C := C0) Tryd.prog (.fn 70) [chpR bc qc n c, gridR bg qg R] [.ptr 0 0 0, .int .i64 i] (.bool (.tm (isHd i (R.getD i.toNat Rw.nil).l))) := by
 refine loc_pc (P := Tryd.prog) (E := ⟨[], [], 48, [], [fG], []⟩) (L := []) mix Tryd.func70 rfl (by kernel_rfl) (by kernel_rfl) rfl rfl ?_
 ((conv => arg 1; reduce); with_reducible repeat' first | exact ty | refine ta ?_ ?_ | refine ti fun _ => ?_ | refine tf fun _ => ?_ | refine tl ?_)
 all_goals try exact vlk
 · show i.toNat + 0 < R.length
   omega
 all_goals try
  rename_i r hr h1
  change Rw Pg at r
  have hr : R.getD i.toNat Rw.nil = r := hr
  have hk : Rok r := by rw [← hr]; exact hR _ (getD_mem (by omega))
  have h0 : (0 : Int) < (r.l.length : Int) := by
   first
    | exact ow h1
    | exact ow (and_l h1)
    | exact ow (and_l (and_l h1))
    | exact ow (and_l (and_l (and_l h1)))
    | exact ow (and_l (and_l (and_l (and_l h1))))
  have h0 : 0 < r.l.length := by omega
  first
   | exact on_of (o := r.on) hk.1 h0
   | (show (0 : Int) < (r.l.length : Int); omega)
   | (show su 0 + 0 < r.l.length; exact h0)
 rename_i r hr
 change Rw Pg at r
 have hr : R.getD i.toNat Rw.nil = r := hr
 show _ = isHd i (R.getD i.toNat Rw.nil).l
 rw [hr]
 simp only [isHd, hdP, SB.val, Bool.and_assoc]
 rfl
def pcHeaded : Pc Tryd.prog C0 where
 tg := .fn 70
 X := Nat × Nat × Nat × Nat × List (Rw Pg) × Nat × Nat × Int
 args := fun (bc, qc, bg, qg, R, n, c, i) => [.ptr 0 0 0, .int .i64 i]
 mem := fun (bc, qc, bg, qg, R, n, c, i) => [chpR bc qc n c, gridR bg qg R]
 pre := fun (bc, qc, bg, qg, R, n, c, i) => n ≤ R.length ∧ (0 ≤ i ∧ i < (n : Int)) ∧ ∀ r ∈ R, Rok r
 res := fun (bc, qc, bg, qg, R, n, c, i) => .bool (.tm (isHd i (R.getD i.toNat Rw.nil).l))
 mat vs m := match vs with
  | [.ptr a _ _, .int _ i] => match nth m a with
    | ⟨bc, qc, _, _, _, .one (_ :: _ :: _ :: _ :: .sl g _ n c :: _)⟩ => match nth m g with
      | ⟨bg, qg, _, _, _, .rows 63 R⟩ => some ((bc, qc, bg, qg, R, n, c, i), [a, g])
      | _ => none
    | _ => none
  | _ => none
 ok := fun (bc, qc, bg, qg, R, n, c, i) h => headed_ok bc qc bg qg R n c i h.1 h.2.1 h.2.2
theorem counts_ok (bc qc bg qg : Nat) (R : List (Rw Pg)) (n c : Nat) (bm : Nat) (M : Bm) (clk : Nat) (i : Int) (h : n ≤ R.length) (hi : 0 ≤ i ∧ i < (n : Int)) (hR : ∀ r ∈ R, Rok r) :
 Tells (C := C0) Tryd.prog (.fn 73) [chpB bc qc n c, gridR bg qg R, ⟨bm, 0, 0, false, none, .mp 3 4 M clk⟩] [.ptr 0 0 0, .int .i64 i] (.bool (.tm (isHd i (R.getD i.toNat Rw.nil).l && !mgetB M i))) := by
 refine loc_pc (P := Tryd.prog) (E := ⟨[], [pcHeaded], 17, [], [fG], []⟩) (L := []) mix Tryd.func73 rfl (by kernel_rfl) (by kernel_rfl) rfl rfl ?_
 ((conv => arg 1; reduce); with_reducible repeat' first | exact ty | refine ta ?_ ?_ | refine ti fun _ => ?_ | refine tf fun _ => ?_ | refine tl ?_)
 all_goals try exact vlk
 · exact ⟨h, hi, hR⟩
def pcCounts : Pc Tryd.prog C0 where
 tg := .fn 73
 X := Nat × Nat × Nat × Nat × List (Rw Pg) × Nat × Nat × Nat × Bm × Nat × Int
 args := fun (bc, qc, bg, qg, R, n, c, bm, M, clk, i) => [.ptr 0 0 0, .int .i64 i]
 mem := fun (bc, qc, bg, qg, R, n, c, bm, M, clk, i) => [chpB bc qc n c, gridR bg qg R, ⟨bm, 0, 0, false, none, .mp 3 4 M clk⟩]
 pre := fun (bc, qc, bg, qg, R, n, c, bm, M, clk, i) => n ≤ R.length ∧ (0 ≤ i ∧ i < (n : Int)) ∧ ∀ r ∈ R, Rok r
 res := fun (bc, qc, bg, qg, R, n, c, bm, M, clk, i) => .bool (.tm (isHd i (R.getD i.toNat Rw.nil).l && !mgetB M i))
 mat vs m := match vs with
  | [.ptr a _ _, .int _ i] => match nth m a with
    | ⟨bc, qc, _, _, _, .one (_ :: _ :: _ :: _ :: .sl g _ n c :: .mp p :: _)⟩ => match nth m g, nth m p with
      | ⟨bg, qg, _, _, _, .rows 63 R⟩, ⟨bm, _, _, _, _, .mp 3 4 M clk⟩ => some ((bc, qc, bg, qg, R, n, c, bm, M, clk, i), [a, g, p])
      | _, _ => none
    | _ => none
  | _ => none
 ok := fun (bc, qc, bg, qg, R, n, c, bm, M, clk, i) h => counts_ok bc qc bg qg R n c bm M clk i h.1 h.2.1 h.2.2
def keyN (bs ps ss : Int) (m : Me) : Int × Int := if m.kind = 2 ∨ m.kind = 3 then (0, ss) else if m.kind = 5 then (ss, bs) else if m.kind = 6 then (ss + bs, ps) else (0, 0)
@[irreducible] def keyV (bs ps ss : Int) (m : Me) : Int := if m.kind = 4 then ss + bs + ps else IntKind.wrap .i64 ((keyN bs ps ss m).1 + m.key)
@[irreducible] def keyH (bs ps ss : Int) (m : Me) : Bool := if m.kind = 4 then true else decide (0 ≤ m.key) && decide (m.key < (keyN bs ps ss m).2)
theorem key_ok (bc qc : Nat) (bs ps ss : Int) (m : Me) (h : 0 ≤ bs ∧ bs ≤ 64 ∧ 0 ≤ ps ∧ ps ≤ 64 ∧ 0 ≤ ss ∧ ss ≤ 536870912) :
 Tells (C := C0) Tryd.prog (.fn 74) [⟨bc, qc, 15, false, none, .one [.int .i64 bs, .int .i64 ps, .int .i64 ss, .junk, .junk, .junk, .junk, .junk, .junk, .junk, .junk, .junk, .junk, .junk, .junk]⟩] [.ptr 0 0 0, .agg (meE m)]
  (.tup [.int .i64 (keyV bs ps ss m), .bool (.tm (keyH bs ps ss m))]) := by
 refine loc_pc (P := Tryd.prog) (E := ⟨[], [], 71, [(2000000, [61], [])], [], []⟩) (L := []) mix Tryd.func74 rfl (by kernel_rfl) (by kernel_rfl) rfl rfl ?_
 ((conv => arg 1; reduce); with_reducible repeat' first | exact ty | refine ta ?_ ?_ | refine ti fun _ => ?_ | refine tf fun _ => ?_ | refine tl ?_)
 all_goals try exact vlk
 all_goals simp only [decide_eq_true_eq, decide_eq_false_iff_not] at *
 all_goals first
  | contradiction
  | (show _ = keyV bs ps ss m; unfold keyV keyN; simp [*])
  | (show _ = keyH bs ps ss m; unfold keyH keyN; simp [*, SB.val])
def pcKey : Pc Tryd.prog C0 where
 tg := .fn 74
 X := Nat × Nat × Int × Int × Int × Me
 args := fun (bc, qc, bs, ps, ss, m) => [.ptr 0 0 0, .agg (meE m)]
 mem := fun (bc, qc, bs, ps, ss, m) => [⟨bc, qc, 15, false, none, .one [.int .i64 bs, .int .i64 ps, .int .i64 ss, .junk, .junk, .junk, .junk, .junk, .junk, .junk, .junk, .junk, .junk, .junk, .junk]⟩]
 pre := fun (bc, qc, bs, ps, ss, m) => 0 ≤ bs ∧ bs ≤ 64 ∧ 0 ≤ ps ∧ ps ≤ 64 ∧ 0 ≤ ss ∧ ss ≤ 536870912
 res := fun (bc, qc, bs, ps, ss, m) => .tup [.int .i64 (keyV bs ps ss m), .bool (.tm (keyH bs ps ss m))]
 mat vs m := match vs with
  | [.ptr a _ _, .agg [.int _ a1, .int _ a2, .int _ a3, .int _ a4, .int _ a5, .int _ a6]] => match nth m a with
    | ⟨bc, qc, _, _, _, .one (.int _ bs :: .int _ ps :: .int _ ss :: _)⟩ => some ((bc, qc, bs, ps, ss, ⟨a1, a2, a3, a4, a5, a6⟩), [a])
    | _ => none
  | _ => none
 ok := fun (bc, qc, bs, ps, ss, m) h => key_ok bc qc bs ps ss m h
end Go.Vx.Sc
namespace Go.Vx.Sc
open Go Go.Proofs
variable [Gl]
def bst (o : Pg) : List Pg → Pg
 | [] => o
 | p :: r => bst (if newer p.me o.me then p else o) r
theorem bst_app (o : Pg) (A B : List Pg) : bst o (A ++ B) = bst (bst o A) B := by
 induction A generalizing o with
 | nil => rfl
 | cons p r ih => exact ih _
@[irreducible] def bestL (l : List Pg) : Pg := bst (l.getD 0 pg0) (l.drop 1)
@[irreducible] def bestT (l : List Pg) (v : Nat) : Pg := bst (l.getD 0 pg0) ((l.drop 1).take v)
theorem bestT_zero (l : List Pg) : bestT l 0 = l.getD 0 pg0 := by unfold bestT; rfl
theorem bestT_all {l : List Pg} {v : Nat} (h : l.length ≤ v + 1) : bestT l v = bestL l := by
 unfold bestT bestL
 rw [zu (by rw [zj]; omega)]
theorem bestT_succ {l : List Pg} {v : Nat} (h : v + 1 < l.length) : bestT l (v + 1) = if newer (l.getD (v + 1) pg0).me (bestT l v).me then l.getD (v + 1) pg0 else bestT l v := by
 unfold bestT
 rw [take_snoc (d := pg0) (by rw [zj]; omega), bst_app]
 have e : (l.drop 1).getD v pg0 = l.getD (v + 1) pg0 := by
  simp only [zz, List.getElem?_drop, Nat.add_comm 1 v]
 rw [e]; rfl
def Bs (l : List Pg) : Inv' C0 := ⟨3, Nat, fun v => [(14, .int .i64 (v : Int))], fun v m => match m with
 | a :: r :: ⟨b, q, sz, w, g, _⟩ :: _ => [a, r, ⟨b, q, sz, w, g, .one (pgE (bestT l v))⟩]
 | m => m, fun v => v < l.length, fun v => l.length - v⟩
set_option maxHeartbeats 4000000 in
theorem best_ok (b q : Nat) (l : List Pg) (n c : Nat) (hn : n ≤ l.length) (hc : n ≤ c) (h0 : 0 < n) (hs : n < 4611686018427387904) :
 Tells (C := C0) Tryd.prog (.fn 98) [⟨b, q, 9, false, none, .rows 70 l⟩] [.sl 0 0 n c, .fn (.func 99) [] []] (.agg (pgE (bestL (l.take n)))) := by
 have hL := tk_len hn
 refine loc_pc (P := Tryd.prog) (E := ⟨[], [pcPnewer], 25, [], [], []⟩) (L := [Bs (l.take n)]) mix Tryd.func98 rfl (by kernel_rfl) (by kernel_rfl) rfl rfl ?_
 ((conv => arg 1; reduce); with_reducible repeat' first | exact ty | refine ta ?_ ?_ | refine ti fun _ => ?_ | refine tf fun _ => ?_ | refine tl ?_)
 all_goals try (first | exact vlk | ((try dsimp only [Bs] at *); exact vau))
 · refine Stands.one (0 : Nat) ⟨by show 0 < (l.take n).length; omega, ?_⟩
   have e : bestT (l.take n) 0 = l.getD 0 pg0 := by rw [bestT_zero, tk_get h0]
   ((conv => arg 1; reduce); with_reducible repeat' first | exact ty | refine ta ?_ ?_ | refine ti fun _ => ?_ | refine tf fun _ => ?_ | refine tl ?_)
   all_goals first | exact vlk | (rw [e]; rfl)
 · rename_i b1 b2 v hv h1
   change Nat at v
   have h1 := ow h1
   show (v : Int).toNat + srow c (su 1) 0 < l.length
   unfold srow
   split <;> omega
 · rename_i b1 b2 v hv h1 b3 h2
   change Nat at v
   have h1 : (v : Int) < ((n - 1 : Nat) : Int) := ow h1
   have hv : v < (l.take n).length := hv
   have es : (v : Int).toNat + srow c (su 1) 0 = v + 1 := by
    unfold srow
    split <;> omega
   have h2 : newer (l.getD ((v : Int).toNat + srow c (su 1) 0) pg0).me (bestT (l.take n) v).me = true := h2
   rw [es] at h2 ⊢
   have e : bestT (l.take n) (v + 1) = l.getD (v + 1) pg0 := by
    rw [bestT_succ (by rw [hL]; omega), tk_get (by omega), if_pos h2]
   refine Stands.one (v + 1 : Nat) ⟨by show v + 1 < (l.take n).length; omega, ?_, ?_⟩
   · show (l.take n).length - (v + 1) < (l.take n).length - v
     omega
   ((conv => arg 1; reduce); with_reducible repeat' first | exact ty | refine ta ?_ ?_ | refine ti fun _ => ?_ | refine tf fun _ => ?_ | refine tl ?_)
   all_goals first | exact vlk | (rw [e]; rfl)
 · rename_i b1 b2 v hv h1 b3 h2
   change Nat at v
   have h1 : (v : Int) < ((n - 1 : Nat) : Int) := ow h1
   have hv : v < (l.take n).length := hv
   have es : (v : Int).toNat + srow c (su 1) 0 = v + 1 := by
    unfold srow
    split <;> omega
   have h2 : newer (l.getD ((v : Int).toNat + srow c (su 1) 0) pg0).me (bestT (l.take n) v).me = false := h2
   rw [es] at h2 ⊢
   have e : bestT (l.take n) (v + 1) = bestT (l.take n) v := by
    rw [bestT_succ (by rw [hL]; omega), tk_get (by omega), if_neg (by rw [h2]; exact xg)]
   refine Stands.one (v + 1 : Nat) ⟨by show v + 1 < (l.take n).length; omega, ?_, ?_⟩
   · show (l.take n).length - (v + 1) < (l.take n).length - v
     omega
   ((conv => arg 1; reduce); with_reducible repeat' first | exact ty | refine ta ?_ ?_ | refine ti fun _ => ?_ | refine tf fun _ => ?_ | refine tl ?_)
   all_goals first | exact vlk | (rw [e])
 all_goals
  rename_i b1 b2 v hv h1
  change Nat at v
  have h1 : ¬ (v : Int) < ((n - 1 : Nat) : Int) := ov h1
  have hv : v < (l.take n).length := hv
  rw [bestT_all (by omega)]
def pcBest : Pc Tryd.prog C0 where
 tg := .fn 98
 X := Nat × Nat × List Pg × Nat × Nat
 args := fun (b, q, l, n, c) => [.sl 0 0 n c, .fn (.func 99) [] []]
 mem := fun (b, q, l, n, c) => [⟨b, q, 9, false, none, .rows 70 l⟩]
 pre := fun (b, q, l, n, c) => n ≤ l.length ∧ n ≤ c ∧ 0 < n ∧ n < 4611686018427387904
 res := fun (b, q, l, n, c) => .agg (pgE (bestL (l.take n)))
 mat vs m := match vs with
  | [.sl a 0 n c, _] => match nth m a with
    | ⟨b, q, _, _, _, .rows 70 l⟩ => some ((b, q, l, n, c), [a])
    | _ => none
  | _ => none
 ok := fun (b, q, l, n, c) h => best_ok b q l n c h.1 h.2.1 h.2.2.1 h.2.2.2
def okP (f : Int) (p : Pg) : Bool := decide (p.cl = 1) && alive p.me f
@[irreducible] def winL (f : Int) (l : List Pg) : List Pg := l.filter (okP f)
theorem winL_zero (f : Int) (l : List Pg) : winL f (l.take 0) = [] := by unfold winL; rfl
theorem winL_yes {f : Int} {l : List Pg} {v : Nat} (h : v < l.length) (h2 : okP f (l.getD v pg0) = true) : winL f (l.take (v + 1)) = winL f (l.take v) ++ [l.getD v pg0] := by
 unfold winL
 rw [take_snoc (d := pg0) h, ze, yw h2, yg]
theorem winL_no {f : Int} {l : List Pg} {v : Nat} (h : v < l.length) (h2 : okP f (l.getD v pg0) = false) : winL f (l.take (v + 1)) = winL f (l.take v) := by
 unfold winL
 rw [take_snoc (d := pg0) h, ze, yj (by rw [h2]; exact xg), yg, zk]
theorem winL_len (f : Int) (l : List Pg) : (winL f l).length ≤ l.length := by unfold winL; exact List.length_filter_le _ _
def Gth {α : Type} (A : List α) (y : Sq α) : Prop := y.2.2.2.1.take y.2.2.2.2.1 = A ∧ A.length = y.2.2.2.2.1 ∧ y.2.2.2.2.1 ≤ y.2.2.2.2.2 ∧ y.2.2.2.2.2 ≤ y.2.2.2.1.length ∧ (y.1 = false → y.2.2.2.2.1 = 0 ∧ y.2.2.2.2.2 = 0)
theorem Gth.nil {α : Type} : Gth ([] : List α) (false, 0, 0, [], 0, 0) := ⟨rfl, rfl, zy _, zy _, fun _ => ⟨rfl, rfl⟩⟩
theorem Gth.snoc {α : Type} {A : List α} {x : α} {o : Bool} {b b' q q' : Nat} {l sp : List α} {n c c' : Nat} (h : Gth A (o, b, q, l, n, c)) (h1 : n + 1 ≤ c') (h2 : c' ≤ n + 1 + sp.length) : Gth (A ++ [x]) (true, b', q', l.take n ++ [x] ++ sp, n + 1, c') := by
 obtain ⟨e1, e2, e3, e4, _⟩ := h
 have e1 : l.take n = A := e1
 have e2 : A.length = n := e2
 refine ⟨?_, by simp [e2], h1, ?_, fun h => by cases h⟩
 · show (l.take n ++ [x] ++ sp).take (n + 1) = A ++ [x]
   rw [e1, List.take_append_of_le_length (by simp [e2]), zu (by simp [e2])]
 · show c' ≤ (l.take n ++ [x] ++ sp).length
   rw [e1]; simp [e2]; omega
theorem byP : Tryd.prog.types[70].bytes = 72 := by kernel_rfl
def Wn (f : Int) (l : List Pg) : Inv' C0 := ⟨3, Nat × Sq Pg, fun y => [(11, .int .i64 (y.1 : Int)), (6, .sl 2 0 y.2.2.2.2.2.1 y.2.2.2.2.2.2)], fun y m => match m with
 | a :: r :: _ => [a, r, ⟨y.2.2.1, y.2.2.2.1, 9, true, some y.2.1, .rows 70 y.2.2.2.2.1⟩]
 | m => m, fun y => y.1 ≤ l.length ∧ Gth (winL f (l.take y.1)) y.2, fun y => l.length - y.1⟩
@[irreducible] def winP (f : Int) (l : List Pg) : Pg := if (winL f l).length = 0 then pg0 else bestL (winL f l)
@[irreducible] def winB (f : Int) (l : List Pg) : Bool := decide (0 < (winL f l).length)
set_option maxHeartbeats 4000000 in
theorem winner_ok (o : Bool) (b q : Nat) (l : List Pg) (n c : Nat) (f : Int) (hn : n ≤ l.length) (ho : o = false → n = 0 ∧ c = 0) (hs : n < 1000000000) :
 Tells (C := C0) Tryd.prog (.fn 77) [⟨b, q, 9, false, some o, .rows 70 l⟩] [.sl 0 0 n c, .int .i64 f] (.tup [.agg (pgE (winP f (l.take n))), .bool (.tm (winB f (l.take n)))]) := by
 have hL := tk_len hn
 refine loc_pc (P := Tryd.prog) (E := ⟨[], [pcAlive, pcBest], 35, [], [], []⟩) (L := [Wn f (l.take n)]) mix Tryd.func77 rfl (by kernel_rfl) (by kernel_rfl) rfl rfl ?_
 ((conv => arg 1; reduce); with_reducible repeat' first | exact ty | refine ta ?_ ?_ | refine ti fun _ => ?_ | refine tf fun _ => ?_ | refine tl ?_)
 all_goals try (first | exact vlk | ((try dsimp only [Wn] at *); exact vau) | (refine on_of ho ?_; ((try dsimp only [Wn] at *); exact vau)))
 · refine Stands.one (((0 : Nat), (false, 0, 0, [], 0, 0)) : Nat × Sq Pg) ⟨⟨zn _, by show Gth (winL f ((l.take n).take 0)) _; rw [winL_zero]; exact Gth.nil⟩, ?_⟩
   exact vgk
 · rename_i b1 y hy h1 b2 h2 b3
   obtain ⟨v, o', b', q', l', n', c'⟩ := y
   obtain ⟨e1, e2, e3, e4, e5, e6⟩ := hy
   have e3 : (winL f ((l.take n).take v)).length = n' := e3
   have g1 := winL_len f ((l.take n).take v)
   have g2 : ((l.take n).take v).length ≤ n := by simp; omega
   rw [byP]
   exact ⟨e4, by show 0 + c' ≤ l'.length; have : c' ≤ l'.length := e5; omega, by simp, by show (n' + 1) * 72 ≤ _; omega⟩
 · rename_i b1 y hy h1 b2 h2 b3
   exact hy.2.2.2.2.2
 · rename_i b1 y hy h1 b2 h2 b3 b4 b5 sp c' h3 h4
   obtain ⟨v, o', b', q', l', n', c0⟩ := y
   obtain ⟨e1, hG⟩ := hy
   have h1 : v < n := by have := ow h1; omega
   have h2 : okP f (l.getD v pg0) = true := h2
   change List Pg at sp
   refine Stands.one ((v + 1, (true, b4, b5, l'.take n' ++ [l.getD v pg0] ++ sp, n' + 1, c')) : Nat × Sq Pg) ⟨⟨by show v + 1 ≤ (l.take n).length; omega, ?_⟩, ?_, ?_⟩
   · show Gth (winL f ((l.take n).take (v + 1))) _
     rw [winL_yes (by omega) (by rw [tk_get h1]; exact h2), tk_get h1]
     exact hG.snoc h3 h4
   · show (l.take n).length - (v + 1) < (l.take n).length - v
     omega
   exact vgk
 · rename_i b1 y hy h1 b2 h2
   obtain ⟨v, o', b', q', l', n', c0⟩ := y
   obtain ⟨e1, hG⟩ := hy
   have h1 : v < n := by have := ow h1; omega
   have h2 : okP f (l.getD v pg0) = false := h2
   refine Stands.one ((v + 1, (o', b', q', l', n', c0)) : Nat × Sq Pg) ⟨⟨by show v + 1 ≤ (l.take n).length; omega, ?_⟩, ?_, ?_⟩
   · show Gth (winL f ((l.take n).take (v + 1))) _
     rw [winL_no (by omega) (by rw [tk_get h1]; exact h2)]
     exact hG
   · show (l.take n).length - (v + 1) < (l.take n).length - v
     omega
   exact vgk
 all_goals
  rename_i b1 y hy h1 h2
  obtain ⟨v, o', b', q', l', n', c0⟩ := y
  obtain ⟨e1, hG⟩ := hy
  have h1 : ¬ v < n := by have := ov h1; omega
  have hG : Gth (winL f ((l.take n).take v)) (o', b', q', l', n', c0) := hG
  rw [zu (by omega)] at hG
  obtain ⟨k1, k2, k3, k4, k5⟩ := hG
  have k1 : l'.take n' = winL f (l.take n) := k1
  have k2 : (winL f (l.take n)).length = n' := k2
  have k3 : n' ≤ c0 := k3
  have k4 : c0 ≤ l'.length := k4
  have k5 : o' = false → n' = 0 ∧ c0 = 0 := k5
  have g2 := winL_len f (l.take n)
  first
   | (have h2 : (n' : Int) = 0 := ow h2
      have e : winP f (l.take n) = pg0 := by unfold winP; rw [if_pos (by omega)]
      have e' : winB f (l.take n) = false := by unfold winB; exact decide_eq_false (by omega)
      first
       | (rw [e]; done)
       | (rw [e]; rfl)
       | (show false = winB f (l.take n); exact e'.symm))
   | (have h2 : ¬ (n' : Int) = 0 := ov h2
      have e : winP f (l.take n) = bestL (l'.take n') := by unfold winP; rw [if_neg (by omega), k1]
      have e' : winB f (l.take n) = true := by unfold winB; exact decide_eq_true (by omega)
      first
       | exact on_of k5 (by omega)
       | (show n' ≤ l'.length ∧ n' ≤ c0 ∧ 0 < n' ∧ n' < 4611686018427387904; omega)
       | (rw [e]; done)
       | (rw [e]; rfl)
       | (show true = winB f (l.take n); exact e'.symm))
def pcWinner : Pc Tryd.prog C0 where
 tg := .fn 77
 X := Bool × Nat × Nat × List Pg × Nat × Nat × Int
 args := fun (o, b, q, l, n, c, f) => [.sl 0 0 n c, .int .i64 f]
 mem := fun (o, b, q, l, n, c, f) => [⟨b, q, 9, false, some o, .rows 70 l⟩]
 pre := fun (o, b, q, l, n, c, f) => n ≤ l.length ∧ (o = false → n = 0 ∧ c = 0) ∧ n < 1000000000
 res := fun (o, b, q, l, n, c, f) => .tup [.agg (pgE (winP f (l.take n))), .bool (.tm (winB f (l.take n)))]
 mat vs m := match vs with
  | [.sl a 0 n c, .int _ f] => match nth m a with
    | ⟨b, q, _, _, g, .rows 70 l⟩ => some ((onOf g, b, q, l, n, c, f), [a])
    | _ => none
  | _ => none
 ok := fun (o, b, q, l, n, c, f) h => winner_ok o b q l n c f h.1 h.2.1 h.2.2
end Go.Vx.Sc
namespace Go.Vx.Sc
open Go Go.Proofs
variable [Gl]
@[irreducible] def ixF {α : Type} (f : α → Bool) (A : List α) : Int := if A.any f then (A.findIdx f : Nat) else -1
@[irreducible] def anyF {α : Type} (f : α → Bool) (A : List α) : Bool := A.any f
theorem anyF_snoc {α : Type} {f : α → Bool} {A : List α} {i : Nat} {d : α} (h : i < A.length) : anyF f (A.take (i + 1)) = (anyF f (A.take i) || f (A.getD i d)) := by
 unfold anyF
 rw [take_snoc (d := d) h, List.any_append]
 simp
theorem anyF_zero {α : Type} {f : α → Bool} {A : List α} : anyF f (A.take 0) = false := by unfold anyF; rfl
theorem ixF_no {α : Type} {f : α → Bool} {A : List α} (h : anyF f A = false) : ixF f A = -1 := by
 unfold anyF at h
 unfold ixF
 rw [h]; rfl
theorem ixF_at {α : Type} {f : α → Bool} {A : List α} {i : Nat} {d : α} (hi : i < A.length) (h : anyF f (A.take i) = false) (h2 : f (A.getD i d) = true) : ixF f A = (i : Nat) := by
 have e : A.getD i d = A[i] := by rw [zz, zv hi, Option.getD_some]
 rw [e] at h2
 unfold anyF at h
 rw [List.any_eq_false] at h
 unfold ixF
 rw [if_pos (List.any_eq_true.2 ⟨_, xk hi, h2⟩)]
 congr 1
 rw [List.findIdx_eq hi]
 refine ⟨h2, fun j hj => ?_⟩
 have := h A[j] (by rw [List.mem_take_iff_getElem]; exact ⟨j, by omega, rfl⟩)
 simpa using this
theorem ixF_ge {α : Type} {f : α → Bool} {A : List α} : decide (ixF f A ≥ 0) = anyF f A := by
 unfold ixF anyF
 cases h : A.any f
 · simp
 · simp
def Ix {α : Type} (f : α → Bool) (A : List α) : Inv' C0 := ⟨2, Nat, fun i => [(8, .int .i64 (i : Int))], fun _ m => m, fun i => i ≤ A.length ∧ anyF f (A.take i) = false, fun i => A.length - i⟩
def eqI (x : Int) (y : Int) : Bool := decide (x = y)
theorem index_ok (o : Bool) (b q : Nat) (l : List Int) (n c : Nat) (x : Int) (h : n ≤ l.length) (hn : n < 4611686018427387904) (ho : o = false → n = 0 ∧ c = 0) :
 Tells (C := C0) Tryd.prog (.fn 69) [⟨b, q, 1, false, some o, .rows 3 l⟩] [.sl 0 0 n c, .int .i64 x] (.int .i64 (ixF (eqI x) (l.take n))) := by
 have hL := tk_len h
 refine loc_pc (P := Tryd.prog) (E := ⟨[], [], 19, [], [], []⟩) (L := [Ix (eqI x) (l.take n)]) mix Tryd.func69 rfl (by kernel_rfl) (by kernel_rfl) rfl rfl ?_
 ((conv => arg 1; reduce); with_reducible repeat' first | exact ty | refine ta ?_ ?_ | refine ti fun _ => ?_ | refine tf fun _ => ?_ | refine tl ?_)
 all_goals try (first | exact vlk | ((try dsimp only [Ix] at *); exact vau) | (refine on_of ho ?_; ((try dsimp only [Ix] at *); exact vau)))
 · refine Stands.one (0 : Nat) ⟨⟨zn _, anyF_zero⟩, ?_⟩
   exact vgk
 · rename_i v hv h1 h2
   change Nat at v
   obtain ⟨e1, e2⟩ := hv
   have h1 : v < n := by have := ow h1; omega
   refine (ixF_at (d := 0) (by rw [hL]; exact h1) e2 ?_).symm
   rw [tk_get h1]
   exact h2
 · rename_i v hv h1 h2
   change Nat at v
   obtain ⟨e1, e2⟩ := hv
   have h1 : v < n := by have := ow h1; omega
   refine Stands.one (v + 1 : Nat) ⟨⟨by rw [hL]; exact h1, ?_⟩, ?_, ?_⟩
   · show anyF _ ((l.take n).take (v + 1)) = false
     rw [anyF_snoc (d := 0) (by rw [hL]; exact h1), e2, tk_get h1]
     exact h2
   · show (l.take n).length - (v + 1) < (l.take n).length - v
     rw [hL]; omega
   exact vgk
 · rename_i v hv h1
   change Nat at v
   obtain ⟨e1, e2⟩ := hv
   have h1 : ¬ v < n := by have := ov h1; omega
   rw [zu (by rw [hL]; omega)] at e2
   exact (ixF_no e2).symm
def pcIndex : Pc Tryd.prog C0 where
 tg := .fn 69
 X := Bool × Nat × Nat × List Int × Nat × Nat × Int
 args := fun (o, b, q, l, n, c, x) => [.sl 0 0 n c, .int .i64 x]
 mem := fun (o, b, q, l, n, c, x) => [⟨b, q, 1, false, some o, .rows 3 l⟩]
 pre := fun (o, b, q, l, n, c, x) => n ≤ l.length ∧ n < 4611686018427387904 ∧ (o = false → n = 0 ∧ c = 0)
 res := fun (o, b, q, l, n, c, x) => .int .i64 (ixF (eqI x) (l.take n))
 mat vs m := match vs with
  | [.sl a 0 n c, .int _ x] => match nth m a with
    | ⟨b, q, _, _, g, .rows 3 l⟩ => some ((onOf g, b, q, l, n, c, x), [a])
    | _ => none
  | [.nils, .int _ x] => some ((false, 0, 0, [], 0, 0, x), [m.length])
  | _ => none
 ok := fun (o, b, q, l, n, c, x) h => index_ok o b q l n c x h.1 h.2.1 h.2.2
theorem contains_ok (o : Bool) (b q : Nat) (l : List Int) (n c : Nat) (x : Int) (h : n ≤ l.length) (hn : n < 4611686018427387904) (ho : o = false → n = 0 ∧ c = 0) :
 Tells (C := C0) Tryd.prog (.fn 52) [⟨b, q, 1, false, some o, .rows 3 l⟩] [.sl 0 0 n c, .int .i64 x] (.bool (.tm (anyF (eqI x) (l.take n)))) := by
 refine loc_pc (P := Tryd.prog) (E := ⟨[], [pcIndex], 9, [], [], []⟩) (L := []) mix Tryd.func52 rfl (by kernel_rfl) (by kernel_rfl) rfl rfl ?_
 ((conv => arg 1; reduce); with_reducible repeat' first | exact ty | refine ta ?_ ?_ | refine ti fun _ => ?_ | refine tf fun _ => ?_ | refine tl ?_)
 all_goals try exact vlk
 · exact ⟨h, hn, ho⟩
 · exact ixF_ge
def pcContains : Pc Tryd.prog C0 where
 tg := .fn 52
 X := Bool × Nat × Nat × List Int × Nat × Nat × Int
 args := fun (o, b, q, l, n, c, x) => [.sl 0 0 n c, .int .i64 x]
 mem := fun (o, b, q, l, n, c, x) => [⟨b, q, 1, false, some o, .rows 3 l⟩]
 pre := fun (o, b, q, l, n, c, x) => n ≤ l.length ∧ n < 4611686018427387904 ∧ (o = false → n = 0 ∧ c = 0)
 res := fun (o, b, q, l, n, c, x) => .bool (.tm (anyF (eqI x) (l.take n)))
 mat vs m := match vs with
  | [.sl a 0 n c, .int _ x] => match nth m a with
    | ⟨b, q, _, _, g, .rows 3 l⟩ => some ((onOf g, b, q, l, n, c, x), [a])
    | _ => none
  | [.nils, .int _ x] => some ((false, 0, 0, [], 0, 0, x), [m.length])
  | _ => none
 ok := fun (o, b, q, l, n, c, x) h => contains_ok o b q l n c x h.1 h.2.1 h.2.2
def amP (f : Int) (p : Pg) : Bool := decide (p.cl = 3) || !alive p.me f
abbrev chpF (b q : Nat) (f : Int) : Ck C0 := ⟨b, q, 15, false, none, .one [.junk, .junk, .junk, .junk, .junk, .junk, .junk, .junk, .junk, .junk, .int .i64 f, .junk, .junk, .junk, .junk]⟩
theorem amiss_ok (b0 q0 bc qc : Nat) (f : Int) (p : Pg) : Tells (C := C0) Tryd.prog (.fn 78) [⟨b0, q0, 1, false, none, .one [.ptr 1 0 0]⟩, chpF bc qc f] [.agg (pgE p), .ptr 0 0 0] (.bool (.tm (amP f p))) := by
 refine loc_pc (P := Tryd.prog) (E := ⟨[], [pcAlive], 18, [], [], []⟩) (L := []) mix Tryd.func78 rfl (by kernel_rfl) (by kernel_rfl) rfl rfl ?_
 exact vgk
def pcAmiss : Pc Tryd.prog C0 where
 tg := .fn 78
 X := Nat × Nat × Nat × Nat × Int × Pg
 args := fun (b0, q0, bc, qc, f, p) => [.agg (pgE p), .ptr 0 0 0]
 mem := fun (b0, q0, bc, qc, f, p) => [⟨b0, q0, 1, false, none, .one [.ptr 1 0 0]⟩, chpF bc qc f]
 pre _ := True
 res := fun (b0, q0, bc, qc, f, p) => .bool (.tm (amP f p))
 mat vs m := match vs with
  | [.agg [.int _ a, .int _ b, .int _ k, .int _ a1, .int _ a2, .int _ a3, .int _ a4, .int _ a5, .int _ a6], .ptr w _ _] => match nth m w with
    | ⟨b0, q0, _, _, _, .one [.ptr cc _ _]⟩ => match nth m cc with
      | ⟨bc, qc, _, _, _, .one [_, _, _, _, _, _, _, _, _, _, .int _ f, _, _, _, _]⟩ => some ((b0, q0, bc, qc, f, ⟨(a, b), k, ⟨a1, a2, a3, a4, a5, a6⟩⟩), [w, cc])
      | _ => none
    | _ => none
  | _ => none
 ok := fun (b0, q0, bc, qc, f, p) _ => amiss_ok b0 q0 bc qc f p
theorem ixa_ok (b0 q0 bc qc : Nat) (f : Int) (o : Bool) (b q : Nat) (l : List Pg) (n c : Nat) (h : n ≤ l.length) (hn : n < 4611686018427387904) (ho : o = false → n = 0 ∧ c = 0) :
 Tells (C := C0) Tryd.prog (.fn 100) [⟨b, q, 9, false, some o, .rows 70 l⟩, ⟨b0, q0, 1, false, none, .one [.ptr 2 0 0]⟩, chpF bc qc f] [.sl 0 0 n c, .fn (.func 78) [] [.ptr 1 0 0]] (.int .i64 (ixF (amP f) (l.take n))) := by
 have hL := tk_len h
 refine loc_pc (P := Tryd.prog) (E := ⟨[], [pcAmiss], 19, [], [], []⟩) (L := [Ix (amP f) (l.take n)]) mix Tryd.func100 rfl (by kernel_rfl) (by kernel_rfl) rfl rfl ?_
 ((conv => arg 1; reduce); with_reducible repeat' first | exact ty | refine ta ?_ ?_ | refine ti fun _ => ?_ | refine tf fun _ => ?_ | refine tl ?_)
 all_goals try (first | exact vlk | ((try dsimp only [Ix] at *); exact vau) | (refine on_of ho ?_; ((try dsimp only [Ix] at *); exact vau)))
 · refine Stands.one (0 : Nat) ⟨⟨zn _, anyF_zero⟩, ?_⟩
   exact vgk
 · rename_i v hv h1 h2
   change Nat at v
   obtain ⟨e1, e2⟩ := hv
   have h1 : v < n := by have := ow h1; omega
   refine (ixF_at (d := pg0) (by rw [hL]; exact h1) e2 ?_).symm
   rw [tk_get h1]
   exact h2
 · rename_i v hv h1 h2
   change Nat at v
   obtain ⟨e1, e2⟩ := hv
   have h1 : v < n := by have := ow h1; omega
   refine Stands.one (v + 1 : Nat) ⟨⟨by rw [hL]; exact h1, ?_⟩, ?_, ?_⟩
   · show anyF _ ((l.take n).take (v + 1)) = false
     rw [anyF_snoc (d := pg0) (by rw [hL]; exact h1), e2, tk_get h1]
     exact h2
   · show (l.take n).length - (v + 1) < (l.take n).length - v
     rw [hL]; omega
   exact vgk
 · rename_i v hv h1
   change Nat at v
   obtain ⟨e1, e2⟩ := hv
   have h1 : ¬ v < n := by have := ov h1; omega
   rw [zu (by rw [hL]; omega)] at e2
   exact (ixF_no e2).symm
def pcIxa : Pc Tryd.prog C0 where
 tg := .fn 100
 X := Nat × Nat × Nat × Nat × Int × Bool × Nat × Nat × List Pg × Nat × Nat
 args := fun (b0, q0, bc, qc, f, o, b, q, l, n, c) => [.sl 0 0 n c, .fn (.func 78) [] [.ptr 1 0 0]]
 mem := fun (b0, q0, bc, qc, f, o, b, q, l, n, c) => [⟨b, q, 9, false, some o, .rows 70 l⟩, ⟨b0, q0, 1, false, none, .one [.ptr 2 0 0]⟩, chpF bc qc f]
 pre := fun (b0, q0, bc, qc, f, o, b, q, l, n, c) => n ≤ l.length ∧ n < 4611686018427387904 ∧ (o = false → n = 0 ∧ c = 0)
 res := fun (b0, q0, bc, qc, f, o, b, q, l, n, c) => .int .i64 (ixF (amP f) (l.take n))
 mat vs m := match vs with
  | [.sl a 0 n c, .fn _ _ [.ptr w _ _]] => match nth m a, nth m w with
    | ⟨b, q, _, _, g, .rows 70 l⟩, ⟨b0, q0, _, _, _, .one [.ptr cc _ _]⟩ => match nth m cc with
      | ⟨bc, qc, _, _, _, .one [_, _, _, _, _, _, _, _, _, _, .int _ f, _, _, _, _]⟩ => some ((b0, q0, bc, qc, f, onOf g, b, q, l, n, c), [a, w, cc])
      | _ => none
    | _, _ => none
  | _ => none
 ok := fun (b0, q0, bc, qc, f, o, b, q, l, n, c) h => ixa_ok b0 q0 bc qc f o b q l n c h.1 h.2.1 h.2.2
theorem hasa_ok (b0 q0 bc qc : Nat) (f : Int) (o : Bool) (b q : Nat) (l : List Pg) (n c : Nat) (h : n ≤ l.length) (hn : n < 4611686018427387904) (ho : o = false → n = 0 ∧ c = 0) :
 Tells (C := C0) Tryd.prog (.fn 79) [⟨b, q, 9, false, some o, .rows 70 l⟩, ⟨b0, q0, 1, false, none, .one [.ptr 2 0 0]⟩, chpF bc qc f] [.sl 0 0 n c, .fn (.func 78) [] [.ptr 1 0 0]] (.bool (.tm (anyF (amP f) (l.take n)))) := by
 refine loc_pc (P := Tryd.prog) (E := ⟨[], [pcIxa], 9, [], [], []⟩) (L := []) mix Tryd.func79 rfl (by kernel_rfl) (by kernel_rfl) rfl rfl ?_
 ((conv => arg 1; reduce); with_reducible repeat' first | exact ty | refine ta ?_ ?_ | refine ti fun _ => ?_ | refine tf fun _ => ?_ | refine tl ?_)
 all_goals try exact vlk
 · exact ⟨h, hn, ho⟩
 · exact ixF_ge
def pcHasa : Pc Tryd.prog C0 where
 tg := .fn 79
 X := Nat × Nat × Nat × Nat × Int × Bool × Nat × Nat × List Pg × Nat × Nat
 args := fun (b0, q0, bc, qc, f, o, b, q, l, n, c) => [.sl 0 0 n c, .fn (.func 78) [] [.ptr 1 0 0]]
 mem := fun (b0, q0, bc, qc, f, o, b, q, l, n, c) => [⟨b, q, 9, false, some o, .rows 70 l⟩, ⟨b0, q0, 1, false, none, .one [.ptr 2 0 0]⟩, chpF bc qc f]
 pre := fun (b0, q0, bc, qc, f, o, b, q, l, n, c) => n ≤ l.length ∧ n < 4611686018427387904 ∧ (o = false → n = 0 ∧ c = 0)
 res := fun (b0, q0, bc, qc, f, o, b, q, l, n, c) => .bool (.tm (anyF (amP f) (l.take n)))
 mat vs m := match vs with
  | [.sl a 0 n c, .fn _ _ [.ptr w _ _]] => match nth m a, nth m w with
    | ⟨b, q, _, _, g, .rows 70 l⟩, ⟨b0, q0, _, _, _, .one [.ptr cc _ _]⟩ => match nth m cc with
      | ⟨bc, qc, _, _, _, .one [_, _, _, _, _, _, _, _, _, _, .int _ f, _, _, _, _]⟩ => some ((b0, q0, bc, qc, f, onOf g, b, q, l, n, c), [a, w, cc])
      | _ => none
    | _, _ => none
  | _ => none
 ok := fun (b0, q0, bc, qc, f, o, b, q, l, n, c) h => hasa_ok b0 q0 bc qc f o b q l n c h.1 h.2.1 h.2.2
end Go.Vx.Sc
namespace Go.Vx
theorem nbeq_ne {a b : Nat} (h : a ≠ b) : zo a b = false := by
 cases hb : zo a b with
 | false => rfl
 | true => exact absurd (zr hb) h
section
variable {c d : Codec}
structure Births (l : List (Ent' c d)) (clk : Nat) : Prop where
 nd : (l.map (·.2.2)).Nodup
 old : ∀ e ∈ l, e.2.2 < clk
theorem Births.nil (clk : Nat) : Births ([] : List (Ent' c d)) clk := ⟨by simp, by simp⟩
theorem Births.add {l : List (Ent' c d)} {clk : Nat} (h : Births l clk) (q : c.α) (x : d.α) : Births (l ++ [(q, x, clk)]) (clk + 1) := by
 refine ⟨?_, ?_⟩
 · rw [yy, pd]
   refine ⟨h.nd, by simp, ?_⟩
   intro a ha b hb e
   obtain ⟨y, hy, rfl⟩ := List.mem_map.1 ha
   have := h.old y hy
   have hb : b = clk := by simpa using hb
   omega
 · intro e he
   rcases List.mem_append.1 he with he | he
   · have := h.old e he; omega
   · have : e = (q, x, clk) := by simpa using he
     rw [this]; exact wi _
theorem mfix_any (q : c.α) : ∀ (l : List (Ent' c d)) (i : Nat), (mfix c d q l i).isSome = l.any fun e => c.beq q e.1
 | [], _ => rfl
 | e :: r, i => by
   simp only [mfix, py]
   cases c.beq q e.1
   · simpa using mfix_any q r (i + 1)
   · simp
theorem mfix_get (q : c.α) : ∀ (l : List (Ent' c d)) (i : Nat), (mfix c d q l i).map (·.2) = (l.find? fun e => c.beq q e.1).map (·.2.1)
 | [], _ => rfl
 | e :: r, i => by
   simp only [mfix, qo]
   cases c.beq q e.1
   · exact mfix_get q r (i + 1)
   · simp
theorem mhas_any (l : List (Ent' c d)) (q : c.α) : mhas c d l q = l.any fun e => c.beq q e.1 := mfix_any q l 0
theorem mget_find (l : List (Ent' c d)) (q : c.α) : mget c d l q = ((l.find? fun e => c.beq q e.1).map (·.2.1)).getD d.dflt := by
 unfold mget; rw [mfix_get]
theorem mput_new {l : List (Ent' c d)} {q : c.α} (h : mhas c d l q = false) (x : d.α) (clk : Nat) : mput c d l q x clk = l ++ [(q, x, clk)] := by
 unfold mput
 refine mput_none (i := 0) ?_
 unfold mhas at h
 cases hm : mfix c d q l 0 with
 | none => rfl
 | some p => rw [hm] at h; cases h
theorem mclk_new {l : List (Ent' c d)} {q : c.α} (h : mhas c d l q = false) (clk : Nat) : mclk c d l q clk = clk + 1 := by
 unfold mclk; rw [h]; rfl
theorem mat_of {l : List (Ent' c d)} (h : (l.map (·.2.2)).Nodup) {e : Ent' c d} (he : e ∈ l) : mat c d e.2.2 l = e := by
 induction l with
 | nil => cases he
 | cons x r ih =>
   simp only [ym, us] at h
   rcases List.mem_cons.1 he with rfl | he
   · simp [mat]
   · have hne : zo x.2.2 e.2.2 = false := by
      have : x.2.2 ≠ e.2.2 := fun e' => h.1 (by rw [e']; exact List.mem_map.2 ⟨e, he, rfl⟩)
      exact nbeq_ne this
     simp only [mat, hne]
     exact ih h.2 he
theorem mhasS_of {l : List (Ent' c d)} {e : Ent' c d} (he : e ∈ l) : mhasS c d l e.2.2 = true := by
 unfold mhasS
 exact List.any_eq_true.2 ⟨e, he, by simp⟩
theorem lastS_add (l : List Nat) (n : Nat) : lastS (l ++ [n]) = n := by simp [lastS]
theorem leftOf_perm {l : List (Ent' c d)} {seen : List Nat} {e : Ent' c d} (he : e ∈ l) (hn : e.2.2 ∉ seen) (hb : (l.map (·.2.2)).Nodup) :
 (leftOf c d l seen).Perm (e :: leftOf c d l (seen ++ [e.2.2])) := by
 unfold leftOf
 induction l with
 | nil => cases he
 | cons x r ih =>
   simp only [ym, us] at hb
   rcases List.mem_cons.1 he with rfl | he
   · have h1 : (r.filter fun e' => !((seen ++ [e.2.2]).contains e'.2.2)) = r.filter fun e' => !(seen.contains e'.2.2) := by
      refine List.filter_congr fun f hf => ?_
      have : f.2.2 ≠ e.2.2 := fun h => hb.1 (by rw [← h]; exact List.mem_map.2 ⟨f, hf, rfl⟩)
      simp [this]
     rw [yw (by simp [hn]), yj (by simp), h1]
   · have hx : x.2.2 ≠ e.2.2 := fun h => hb.1 (by rw [h]; exact List.mem_map.2 ⟨e, he, rfl⟩)
     have ih := ih he hb.2
     by_cases hs : x.2.2 ∈ seen
     · rw [yj (by simp [hs]), yj (by simp [hs])]
       exact ih
     · rw [yw (by simp [hs]), yw (by simp [hs, hx])]
       exact (List.Perm.cons x ih).trans (List.Perm.swap e x _)
end
end Go.Vx
namespace Go.Vx
open Go
variable {C : Nat → Codec}
def FR : Option Nat → Fence
 | none => Fence.wide
 | some l => Fence.wide.inRound l
theorem FR_fn (r : Option Nat) (f : FuncId) : (FR r).fn f := by cases r <;> trivial
theorem FR_depth (r : Option Nat) : (FR r).depth = none := by cases r <;> rfl
theorem FR_fenced (P : Program) (r : Option Nat) : Machine.fenced P (FR r) = Machine.fenced P Fence.wide := by cases r <;> rfl
theorem callsFR {r : Option Nat} {n : Nat} {P : Program} {f : FuncId} {args : Array Value} {w : World} {R : Ending → World → Prop} (h : Calls P f args w R) : CallsIn (FR r) n P f args w R := by
 cases r with
 | none => exact callsIn_wide.2 h
 | some l => exact (callsIn_wide (n := n)).2 h
theorem rowsFR {r : Option Nat} {n : Nat} {P : Program} {row : String} {args : Array Value} {w : World} {R : Value → World → Prop} (h : Rows P row args w R) : RowsIn (FR r) n P row args w R := by
 intro c cs _
 obtain ⟨v, w', hr, hs⟩ := h c cs
 exact ⟨v, w', hr, by rw [FR_fenced]; exact stepsIn_wide.2 hs⟩
def wa (a : Act) (ds : List Deferred) : Act := { a with defers := a.defers ++ ds }
theorem wa_eval (a : Act) (ds : List Deferred) : (wa a ds).eval = a.eval := by funext x; cases x <;> rfl
theorem wa_put (a : Act) (ds : List Deferred) (dst : Option Tmp) (v : Value) : (wa a ds).put dst v = wa (a.put dst v) ds := by cases dst <;> rfl
def liftN (ds : List Deferred) (K : Act → World → Prop) (a : Act) (w : World) : Prop := ∃ b, K b w ∧ a = wa b ds
def liftQ (ds : List Deferred) (Q : Exit → Act → World → Prop) (e : Exit) (a : Act) (w : World) : Prop := ∃ b, Q e b w ∧ a = wa b ds
def isDefer : Op → Bool
 | .defer _ => true
 | _ => false
def noDefer : List Oper → Bool
 | [] => true
 | o :: r => match isDefer o.op with
   | true => false
   | false => noDefer r
theorem noDefer_ok : ∀ {l : List Oper}, noDefer l = true → ∀ o ∈ l, ∀ c, o.op ≠ .defer c
 | [], _, o, ho => by cases ho
 | x :: r, h, o, ho => by
   simp only [noDefer] at h
   split at h
   · cases h
   · rename_i hx
     rcases List.mem_cons.1 ho with rfl | ho
     · intro c hc; rw [hc] at hx; cases hx
     · exact noDefer_ok h o ho
theorem wpIn_of_wp {P : Program} {r : Option Nat} {n : Nat} {o : Oper} (hnd : ∀ c, o.op ≠ .defer c) {a : Act} {w : World} {ds : List Deferred} {next : Act → World → Prop} {Q Q' : Exit → Act → World → Prop} (h : o.wp P a w next Q) (hQ : ∀ e b w, Q e b w → Q' e (wa b ds) w) :
 o.wpIn (FR r) n P (wa a ds) w (liftN ds next) Q' := by
 refine ⟨fun f _ => FR_fn r f, ?_⟩
 rw [wa_eval, Oper.semAt_eq _ _ _ hnd]
 unfold Oper.wp at h
 generalize (execOp a.eval o).run P w = res at h
 have hd : ∀ {p : Prop}, (FR r).depth.isSome = true → p := fun h => by rw [FR_depth] at h; cases h
 cases res with
 | ok nx w' =>
   cases nx with
   | value v => exact ⟨_, h, wa_put a ds _ _⟩
   | skip => exact ⟨_, h, wa_put a ds _ _⟩
   | defer d =>
     refine ⟨_, h, ?_⟩
     show ({ wa a ds with defers := d :: (a.defers ++ ds) } : Act).put o.dst undef = _
     cases o.dst <;> rfl
   | enter f args =>
     refine ⟨hd, (callsFR h).mono ?_⟩
     intro e w'' he
     cases e with
     | returned v => exact ⟨_, he, wa_put a ds _ _⟩
     | panicked c => exact hQ _ _ _ he
     | outgrown => obtain ⟨b, u, hb⟩ := he; exact ⟨wa b ds, u, hQ _ _ _ hb⟩
   | row row args => exact ⟨hd, (rowsFR h).mono fun v w'' he => ⟨_, he, wa_put a ds _ _⟩⟩
   | _ => exact h.elim
 | halt x w' =>
   cases x with
   | panic v => exact hQ _ _ _ h
   | _ => exact h.elim
theorem wpAnyIn_of {P : Program} {r : Option Nat} {n : Nat} {md : Region.Mode} {ops : Array Oper} (hnd : ∀ (i : Nat) (o : Oper), ops[i]? = some o → ∀ c, o.op ≠ .defer c) {ds : List Deferred} {Q : Exit → Act → World → Prop} (hQ : ∀ a w, ¬ Q .outgrown a w) :
 ∀ (fuel : Nat) (listed : Array Bool) (a : Act) (w : World), wpAny P md ops Q fuel listed a w → wpAnyIn (FR r) n P md ops (liftQ ds Q) fuel listed (wa a ds) w
 | 0, listed, a, w, h => ⟨h.1, a, h.2, rfl⟩
 | fuel + 1, listed, a, w, h => by
   refine ⟨fun h0 => ⟨a, h.1 h0, rfl⟩, fun i hi => ?_⟩
   have h1 := h.2 i hi
   unfold wpOp at h1
   unfold wpOpIn
   cases ho : ops[i]? with
   | none => rw [ho] at h1; exact wpAnyIn_of hnd hQ fuel _ a w h1
   | some o =>
     rw [ho] at h1
     simp only at h1 ⊢
     have ht : (wa a ds).tmps = a.tmps := rfl
     rw [ht]
     split
     · rename_i hw
       rw [if_pos hw] at h1
       rcases h1 with h1 | ⟨_, b, u, hb⟩
       · refine Oper.wpIn_mono ?_ (wpIn_of_wp (hnd i o ho) h1 fun e b w hb => ⟨b, hb, rfl⟩)
         rintro a' w' ⟨b, hb, rfl⟩
         exact wpAnyIn_of hnd hQ fuel _ b w' hb
       · exact (hQ _ _ hb).elim
     · rename_i hw
       rw [if_neg hw] at h1
       refine ⟨fun f _ => FR_fn r f, ?_⟩
       rw [wa_put]
       exact wpAnyIn_of hnd hQ fuel _ _ w h1
end Go.Vx
namespace Go.Vx
open Go
variable {C : Nat → Codec}
theorem draw_any {P : Program} {S : Sx} {w0 w : World} {E : Env P C} {ops : Array Oper} {Q : Act → World → Prop} {tm : Tm} {m : List (Ck C)} {K : Tm → List (Ck C) → Tr} {a : Act}
 {F : List Nat} {pl : PTree} (hp : planned ops pl = true) (hin : inMem F m) (hs : splan E ops F m pl tm m K) (h : ActOK (ads m) E.n tm a) (hm : MemOK S w0 w m)
 (hq : ∀ tm' m' a' w', K tm' m' → ActOK (ads m') E.n tm' a' → MemOK S w0 w' m' → (m.length ≤ m'.length ∧ ∀ k, k < m.length → ads m k = ads m' k) → Q a' w') :
 wpAny P .any ops (fun e a w => match e with | .normal => Q a w | _ => False) ops.size (xw ops.size false) a { w with drawn := w.drawn + 1 } := by
 unfold planned at hp
 simp only [zx] at hp
 obtain ⟨⟨h1, h2⟩, h3⟩ := hp
 have h3 := zr h3
 obtain ⟨hm0, hF⟩ := inMem_ok hin
 have := splan_ok (S := S) (w0 := w0) hm0 (Q := fun e a w => match e with | .normal => Q a w | _ => False) (fun c a w hc => hc) (L := lates pl) (F0 := F) h1 pl false F [] _ tm m K a (by simp) h2 hs GsOK.nil h hm.glob (fun _ _ => rfl) (zy _) (fun c hc => ⟨hF c hc, rfl⟩) rfl (fun tm' m' a' w' hk h' hm' hg => hq _ _ _ _ hk h' hm' hg)
 rw [h3] at this
 exact wpAT_any _ _ _ _ (Hy_sound _ _ _ _ (fun l w _ hm => ⟨.inr (Stay.of hm hm0 (fun _ _ => rfl) (fun _ _ => rfl)), Stay.none hm⟩) this hm.drew)
def FixOK (A0 : Nat → Ad) (fx : List Nat) (m : List (Ck C)) : Prop := ∀ c ∈ fx, c < m.length ∧ ads m c = A0 c
theorem FixOK.grow {A0 : Nat → Ad} {fx : List Nat} {m m' : List (Ck C)} (h : FixOK A0 fx m) (hl : m.length ≤ m'.length) (ha : ∀ k, k < m.length → ads m k = ads m' k) : FixOK A0 fx m' := by
 intro c hc
 obtain ⟨h1, h2⟩ := h c hc
 exact ⟨by omega, (ha c h1).symm.trans h2⟩
def fixB (ρ : List Nat) (n : Nat) : List Nat → Bool
 | [] => true
 | c :: r => zo (rn ρ c) c && Nat.blt c n && fixB ρ n r
theorem fixB_ok {ρ : List Nat} {n : Nat} : ∀ {fx : List Nat}, fixB ρ n fx = true → ∀ c ∈ fx, rn ρ c = c ∧ c < n
 | [], _, c, hc => by cases hc
 | x :: r, h, c, hc => by
   simp only [fixB, zx] at h
   rcases List.mem_cons.1 hc with rfl | hc
   · exact ⟨zr h.1.1, by simpa using h.1.2⟩
   · exact fixB_ok h.2 c hc
mutual
def SV.nm : SV → List Nat
 | .ptr c _ _ => [c]
 | .sl c _ _ _ => [c]
 | .mp c => [c]
 | .agg vs => SV.nms vs
 | .tup vs => SV.nms vs
 | .ifc _ v => SV.nm v
 | .fn _ a b => SV.nms a ++ SV.nms b
 | .cnd _ v => SV.nm v
 | _ => []
def SV.nms : List SV → List Nat
 | [] => []
 | v :: r => SV.nm v ++ SV.nms r
end
mutual
theorem SV.va_nm {ad ad' : Nat → Ad} : ∀ v : SV, (∀ c ∈ v.nm, ad c = ad' c) → SV.va ad v = SV.va ad' v
 | .junk, _ | .undef, _ | .int _ _, _ | .bool _, _ | .nilp, _ | .nils, _ | .nili, _ | .nilf, _ | .gp _, _ | .val _, _ => by simp [SV.va]
 | .ptr c i f, h => by simp [SV.va, h c (by simp [SV.nm])]
 | .sl c i f m, h => by simp [SV.va, h c (by simp [SV.nm])]
 | .mp c, h => by simp [SV.va, h c (by simp [SV.nm])]
 | .agg vs, h => by simp [SV.va, SV.vas_nm vs (by simpa [SV.nm] using h)]
 | .tup vs, h => by simp [SV.va, SV.vas_nm vs (by simpa [SV.nm] using h)]
 | .ifc t v, h => by simp [SV.va, SV.va_nm v (by simpa [SV.nm] using h)]
 | .fn f a b, h => by
   simp only [SV.nm, wj] at h
   simp [SV.va, SV.vas_nm a (fun c hc => h c (.inl hc)), SV.vas_nm b (fun c hc => h c (.inr hc))]
 | .cnd cs v, h => by simp [SV.va, SV.va_nm v (by simpa [SV.nm] using h)]
theorem SV.vas_nm {ad ad' : Nat → Ad} : ∀ vs : List SV, (∀ c ∈ SV.nms vs, ad c = ad' c) → SV.vas ad vs = SV.vas ad' vs
 | [], _ => rfl
 | v :: r, h => by
   simp only [SV.nms, wj] at h
   simp [SV.vas, SV.va_nm v (fun c hc => h c (.inl hc)), SV.vas_nm r (fun c hc => h c (.inr hc))]
end
def tmNm : Tm → List Nat
 | [] => []
 | (_, v) :: r => SV.nm v ++ tmNm r
theorem tmNm_get : ∀ {tm : Tm} {t c : Nat}, c ∈ (get tm t).nm → c ∈ tmNm tm
 | [], t, c, h => by simp [get, SV.nm] at h
 | (k, v) :: r, t, c, h => by
   rw [get_put] at h
   simp only [tmNm, wj]
   split at h
   · exact .inl h
   · exact .inr (tmNm_get h)
theorem ActOK.fixed {ad ad' : Nat → Ad} {n : Nat} {tm : Tm} {a : Act} (h : ActOK ad n tm a) (he : ∀ c ∈ tmNm tm, ad c = ad' c) : ActOK ad' n tm a := by
 refine ⟨h.defers, h.size, fun t => ?_, h.inv⟩
 rcases h.tmps t with h1 | h1
 · exact .inl h1
 · right; rw [h1, SV.va_nm _ (fun c hc => he c (tmNm_get hc))]
def subRx (fx : List Nat) (tm : Tm) (m : List (Ck C)) (tm' : Tm) (m' : List (Ck C)) (ρ : List Nat) : Tr :=
 match fx with
 | [] => subR tm m tm' m' ρ
 | _ :: _ => match allLt m.length ρ && fixB ρ m'.length fx with
   | false => .no
   | true => subR tm m tm' m' ρ
def subPx (fx : List Nat) (tm : Tm) (m : List (Ck C)) (tm' : Tm) (m' : List (Ck C)) (acc : List (Nat × Nat)) : Tr :=
 fP acc fun acc => unifMemK m 0 m' acc fun A => fNames (namesOf A 0 m') fun ρ => subRx fx tm m tm' m' ρ
theorem subPx_ok {S : Sx} {w0 w : World} {n : Nat} {fx : List Nat} {A0 : Nat → Ad} {tm tm' : Tm} {m m' : List (Ck C)} {acc : List (Nat × Nat)} (h : subPx fx tm m tm' m' acc) {a : Act} (ha : ActOK (ads m) n tm a) (hm : MemOK S w0 w m) (hx : FixOK A0 fx m) :
 ActOK (ads m') n tm' a ∧ MemOK S w0 w m' ∧ FixOK A0 fx m' := by
 unfold subPx at h
 rw [fP_eq, unifMemK_eq, fNames_eq] at h
 unfold subRx at h
 split at h
 · have hP : (subP tm m tm' m' acc).holds := by rw [subP_eq]; exact h
   obtain ⟨h1, h2⟩ := subP_ok hP ha hm
   exact ⟨h1, h2, fun c hc => by cases hc⟩
 split at h
 · exact h.elim
 rename_i hf
 obtain ⟨hall, hf⟩ := Bool.and_eq_true_iff.1 hf
 obtain ⟨⟨h1, h2⟩, h3⟩ := subR_ok h ha hm
 refine ⟨h1, h2, fun c hc => ?_⟩
 obtain ⟨hr, hl⟩ := fixB_ok hf c hc
 refine ⟨hl, ?_⟩
 rw [h3 hall c hl, hr]
 exact (hx c hc).2
abbrev PJ := Option Ex
abbrev Yf (C : Nat → Codec) := List SV → Tm → List (Ck C) → (Bool → PJ → List (Ck C) → Tr) → Tr
abbrev Rf (C : Nat → Codec) := Operand → Array Tmp → Code → Code → Tm → List (Ck C) → (Ex → Tm → List (Ck C) → Tr) → Tr
def yieldOf (tm : Tm) (m : List (Ck C)) (o : Oper) : Option (Nat × List SV) :=
 match o.guard with
 | some _ => none
 | none => match o.op with
   | .call c => match c.callee with
     | .value f => match ev tm m [] f, optAll (ev tm m []) c.args.toList with
       | some (.fn (.yield l) [] []), some az => some (l, az)
       | _, _ => none
     | _ => none
   | _ => none
def stepY {P : Program} (E : Env P C) (Y : Option (Nat × Yf C)) (ops : Array Oper) (o : Oper) (pj : PJ) (tm : Tm) (m : List (Ck C)) (K : PJ → Tm → List (Ck C) → Tr) : Tr :=
 match Y with
 | none => stepP E ops o tm m (K pj)
 | some (l, go) => match yieldOf tm m o with
   | none => stepP E ops o tm m (K pj)
   | some (l', az) => match pj with
     | some _ => .no
     | none => .and (.lf (l' = l)) (go az tm m fun b pj' m' => match put? E.n tm o.dst [] (.bool (SB.lit b)) with
       | some tm' => K pj' tm' m'
       | none => .no)
def sopsG {P : Program} (E : Env P C) (Y : Option (Nat × Yf C)) (ops : Array Oper) : List Oper → PJ → Tm → List (Ck C) → (PJ → Tm → List (Ck C) → Tr) → Tr
 | [], pj, tm, m, K => K pj tm m
 | o :: r, pj, tm, m, K => stepY E Y ops o pj tm m fun pj' tm' m' => fTm1 tm' fun tm' => fM m' fun m' => sopsG E Y ops r pj' tm' m' K
structure Gs where
 r : Option Nat
 Sp : PJ → List Nat → Sx
 w0 : World
 dm : List Nat → List Deferred
 A0 : Nat → Ad
 fx : List Nat
def YOK (P : Program) (G : Gs) (Y : Option (Nat × Yf C)) : Prop :=
 ∀ l go, Y = some (l, go) → ∀ az tm (m : List (Ck C)) Kc w ds R, (go az tm m Kc : Tr).holds → MemOK (G.Sp none ds) G.w0 w m → FixOK G.A0 G.fx m →
   (∀ b pj m' w', (Kc b pj m').holds → MemOK (G.Sp pj ds) G.w0 w' m' → FixOK G.A0 G.fx m' → (∀ c ∈ tmNm tm, c < m'.length ∧ ads m' c = ads m c) → R (.returned (.bool b)) w') →
   ∃ fn tmps assign body, (Instr.yield l (SV.vas (ads m) az).toArray).run P w = .ok (.round l fn tmps assign body) w ∧ RoundIn (FR G.r) 0 P l fn tmps assign body w R
def ROK (P : Program) (n : Nat) (G : Gs) (RF : Rf C) : Prop :=
 ∀ g ps az bd tm (m : List (Ck C)) K a w (Q : Exit → Act → World → Prop) ds, (RF g ps az bd tm m K).holds → ActOK (ads m) n tm a → MemOK (G.Sp none ds) G.w0 w m → FixOK G.A0 G.fx m →
   (∀ e tm' m' a' w' ds', (K e tm' m').holds → ActOK (ads m') n tm' a' → MemOK (G.Sp none ds') G.w0 w' m' → FixOK G.A0 G.fx m' → Q (Ex.of e) (wa a' (G.dm ds')) w') → (Code.rangeFunc g ps az bd).wpIn (FR G.r) 0 P Q (wa a (G.dm ds)) w
theorem sopsG_ok {P : Program} {G : Gs} {E : Env P C} {Y : Option (Nat × Yf C)} (hY : YOK P G Y) {ops : Array Oper} {ds : List Nat} {Q : Exit → Act → World → Prop} : ∀ {l : List Oper} (hnd : ∀ o ∈ l, ∀ c, o.op ≠ .defer c) {pj : PJ} {tm : Tm} {m : List (Ck C)} {K : PJ → Tm → List (Ck C) → Tr} {a : Act} {w : World},
 (sopsG E Y ops l pj tm m K).holds → ActOK (ads m) E.n tm a → MemOK (G.Sp pj ds) G.w0 w m → FixOK G.A0 G.fx m →
 (∀ pj' tm' m' a' w', (K pj' tm' m').holds → ActOK (ads m') E.n tm' a' → MemOK (G.Sp pj' ds) G.w0 w' m' → FixOK G.A0 G.fx m' → Q .normal (wa a' (G.dm ds)) w') → wpListIn (FR G.r) 0 P ops Q l (wa a (G.dm ds)) w
 | [], _, pj, tm, m, K, a, w, hs, h, hm, hx, hq => hq _ _ _ _ _ hs h hm hx
 | o :: r, hnd, pj, tm, m, K, a, w, hs, h, hm, hx, hq => by
   have hndr : ∀ o ∈ r, ∀ c, o.op ≠ .defer c := fun o ho => hnd o (zg _ ho)
   have ht : (wa a (G.dm ds)).tmps = a.tmps := rfl
   have plain : stepP E ops o tm m (fun tm' m' => fTm1 tm' fun tm' => fM m' fun m' => sopsG E Y ops r pj tm' m' K) → wpListIn (FR G.r) 0 P ops Q (o :: r) (wa a (G.dm ds)) w := by
    intro hs
    obtain ⟨h1, h2⟩ := stepP_ok (Q := fun _ _ _ => False) (next := fun a' w' => wpListIn (FR G.r) 0 P ops Q r (wa a' (G.dm ds)) w') hs h hm (fun tm' m' a' w' hk h' hm' hads => by
     simp only [fTm1_eq, fM_eq] at hk
     exact sopsG_ok hY hndr hk h' hm' (hx.grow hads.1 hads.2) hq)
    unfold wpListIn
    rw [ht]
    split
    · rename_i hw
      refine Oper.wpIn_mono ?_ (wpIn_of_wp (r := G.r) (n := 0) (ds := G.dm ds) (hnd o (xj ..)) (h1 hw) fun e b w hb => hb.elim)
      rintro a' w' ⟨b, hb, rfl⟩; exact hb
    · rename_i hw
      refine ⟨fun f _ => FR_fn _ f, ?_⟩
      rw [wa_put]
      exact h2 (by simpa using hw)
   simp only [sopsG] at hs
   unfold stepY at hs
   split at hs
   · exact plain hs
   · rename_i l go
     split at hs
     · exact plain hs
     · rename_i l' az hyo
       split at hs
       · exact hs.elim
       obtain ⟨hl, hs⟩ := hs
       have hl : l' = l := hl
       subst hl
       -- the call
       unfold yieldOf at hyo
       split at hyo <;> try contradiction
       rename_i hg
       split at hyo <;> try contradiction
       rename_i c hop
       split at hyo <;> try contradiction
       rename_i fo hcal
       split at hyo <;> try contradiction
       rename_i l2 as2 hf has
       simp only [Option.some.injEq, Prod.mk.injEq] at hyo
       obtain ⟨rfl, rfl⟩ := hyo
       have hnil : AlOK tm [] := by intro p hp; cases hp
       have ef := ev_ok h hm.glob hnil _ _ hf
       have eas := optAll_ok (g := SV.va (ads m)) (ev_ok h hm.glob hnil) has
       unfold wpListIn
       rw [ht, if_pos (by simp [Region.wanted, hg])]
       refine ⟨fun f _ => FR_fn _ f, ?_⟩
       rw [wa_eval, Oper.semAt_eq _ _ _ (hnd o (xj ..))]
       obtain ⟨fn, tmps, assign, body, hy, hR⟩ := hY _ _ rfl as2 tm m _ w ds (fun e w'' => match e with
        | .returned v => wpListIn (FR G.r) 0 P ops Q r ((wa a (G.dm ds)).put o.dst v) w''
        | _ => False) hs hm hx (by
        intro b pj' m' w' hk hm' hx' hfx
        split at hk
        · rename_i tm' hp
          show wpListIn (FR G.r) 0 P ops Q r ((wa a (G.dm ds)).put o.dst (.bool b)) w'
          rw [wa_put]
          have hA : ActOK (ads m') E.n tm a := h.fixed (fun c hc => ((hfx c hc).2).symm)
          have hA' := put_ok hA hp (by simp) (.bool b) (by simp [mkc, SV.va, SB.val_lit])
          simp only [fTm1_eq, fM_eq] at hk
          exact sopsG_ok hY hndr hk hA' hm' hx' hq
        · exact hk.elim)
       have hexec : (execOp a.eval o).run P w = .ok (.round l2 fn tmps assign body) w := by
        have hargs : c.args.map a.eval = (SV.vas (ads m) as2).toArray := by
         apply xq
         simp [SV.vas_eq, eas]
        obtain ⟨dst, op, type, pos, after, guard⟩ := o
        simp only at hop
        subst hop
        obtain ⟨callee, args, argTypes⟩ := c
        simp only at hcal
        subst hcal
        simp only at hargs
        simp only [execOp, resolve, ef, SV.va, SV.vas, hargs, Deferred.ofValue]
        simp [invoke, hy]
       rw [hexec]
       refine ⟨fun hd => (by rw [FR_depth] at hd; cases hd), hR.mono ?_⟩
       intro e w'' he
       cases e with
       | returned v => exact he
       | panicked _ => exact he.elim
       | outgrown => exact he.elim
def sregG {P : Program} (E : Env P C) (Y : Option (Nat × Yf C)) (id : Nat) (ops : Array Oper) (draw : Bool) (pj : PJ) (tm : Tm) (m : List (Ck C)) (K : PJ → Tm → List (Ck C) → Tr) : Tr :=
 match noDefer ops.toList with
 | false => .no
 | true => match draw with
   | false => sopsG E Y ops ops.toList pj tm m K
   | true => match findPlan id E.plans with
     | none => .and (.lf (Region.lexB .any ops = true)) (sopsQ E ops ops.toList tm m (K pj))
     | some (F, pl) => .and (.lf (planned ops pl = true)) (.and (inMem (frozen tm F) m) (splan E ops (frozen tm F) m pl tm m (K pj)))
def sexecG {P : Program} (E : Env P C) (L : List (Inv' C)) (fx : List Nat) (Y : Option (Nat × Yf C)) (RF : Rf C) : Code → PJ → Tm → List (Ck C) → (Ex → PJ → Tm → List (Ck C) → Tr) → Tr
 | .skip, pj, tm, m, K => K .nor pj tm m
 | .region id ops draw, pj, tm, m, K => sregG E Y id ops draw pj tm m fun pj' tm' m' => K .nor pj' tm' m'
 | .seq a b, pj, tm, m, K => match findJ b L with
   | [] => sexecG E L fx Y RF a pj tm m fun e pj' tm' m' => match e with
     | .nor => sexecG E L fx Y RF b pj' tm' m' K
     | e => K e pj' tm' m'
   | I0 :: Ir => match pj with
     | some _ => .no
     | none => fL (I0 :: Ir) fun Is => fLN (writes a) fun ws =>
       .and (sexecG E L fx Y RF a none tm m fun e pj' tm' m' => match e with
        | .nor => match pj' with
          | some _ => .no
          | none => Tr.lf (Stands Is fun I' x' => I'.inv x' ∧ (linked (noP (I'.mem x' m) m ++ linkP ws tm (I'.tm x')) (subPx fx tm' m' (I'.tm x' ++ keepTm (keysOf (I'.tm x') ++ ws) tm) (I'.mem x' m) (unifTm tm' (I'.tm x')))).holds)
        | e => K e pj' tm' m')
       (allI Is fun I => .all fun x => ifNo (linkNo ws tm (I.tm x)) (ifNo (notApp (I.mem x m) m) (.imp (I.inv x) (linkT (linkP ws tm (I.tm x)) (fTm (I.tm x ++ keepTm (keysOf (I.tm x) ++ ws) tm) fun tmL => fM (I.mem x m) fun mL => sexecG E L fx Y RF b none tmL mL K)))))
 | .cond c x y, pj, tm, m, K => match ev tm m [] c with
   | some (.bool .t) => sexecG E L fx Y RF x pj tm m K
   | some (.bool .f) => sexecG E L fx Y RF y pj tm m K
   | some (.bool (.tm b)) => .and (.imp (b = true) (sexecG E L fx Y RF x pj tm m K)) (.imp (b = false) (sexecG E L fx Y RF y pj tm m K))
   | _ => .no
 | .block id c, pj, tm, m, K => sexecG E L fx Y RF c pj tm m fun e pj' tm' m' => match e with
   | .exit i => match zo i id with
     | true => K .nor pj' tm' m'
     | false => K (.exit i) pj' tm' m'
   | e => K e pj' tm' m'
 | .loop c, pj, tm, m, K => match pj with
   | some _ => .no
   | none => fL (findInvs (firstId c) L) fun Is => fLN (writes c) fun ws =>
     .and (.lf (Stands Is fun I x0 => I.inv x0 ∧ (linked (noP (I.mem x0 m) m ++ linkP ws tm (I.tm x0)) (subPx fx tm m (I.tm x0 ++ keepTm (keysOf (I.tm x0) ++ ws) tm) (I.mem x0 m) (unifTm tm (I.tm x0)))).holds))
      (allI Is fun I => .all fun x => ifNo (linkNo ws tm (I.tm x)) (ifNo (notApp (I.mem x m) m) (.imp (I.inv x) (linkT (linkP ws tm (I.tm x)) (fTm (I.tm x ++ keepTm (keysOf (I.tm x) ++ ws) tm) fun tmL => fM (I.mem x m) fun mL => sexecG E L fx Y RF c none tmL mL fun e pj' tm' m' => match e with
        | .nor => match pj' with
          | some _ => .no
          | none => Tr.lf (Stands Is fun I' x' => I'.inv x' ∧ I'.meas x' < I.meas x ∧ (linked (noP (I'.mem x' m) m ++ linkP ws tm (I'.tm x')) (subPx fx tm' m' (I'.tm x' ++ keepTm (keysOf (I'.tm x') ++ ws) tm) (I'.mem x' m) (unifTm tm' (I'.tm x')))).holds)
        | e => K e pj' tm' m')))))
 | .exit id, pj, tm, m, K => K (.exit id) pj tm m
 | .ret, pj, tm, m, K => K .ret pj tm m
 | .rangeFunc g ps az bd, pj, tm, m, K => match pj with
   | some _ => .no
   | none => RF g ps az bd tm m fun e tm' m' => K e none tm' m'
 | _, _, _, _, _ => .no
theorem wpIn_loop' {F : Fence} {n : Nat} {P : Program} {Q : Exit → Act → World → Prop} {a : Act} {w : World} {c : Code} (I : Nat → Act → World → Prop) (k0 : Nat) (h₀ : I k0 a w)
 (round : ∀ k a w, I k a w → c.wpIn F n P (Exit.then (fun a' w' => ∃ k', k' < k ∧ I k' a' w') Q) a w) : (Code.loop c).wpIn F n P Q a w := by
 intro b k cs hro hb hr
 have key : ∀ j a w, I j a w → ∃ e a' w', Q e a' w' ∧ ArrivesIn (Machine.fenced P F) P (lone (b.atR a (.code c :: .inLoop c :: k)) cs w) b k cs e a' w' := by
  intro j
  induction j using Nat.strongRecOn with
  | _ j ih =>
    intro a w hI
    obtain ⟨e, a₁, w₁, hq, harr⟩ := round j a w hI b (.inLoop c :: k) cs hro hb hr
    cases e with
    | normal =>
      obtain ⟨j', hlt, hI₁⟩ := hq
      obtain ⟨e₂, a₂, w₂, hq₂, harr₂⟩ := ih j' hlt a₁ w₁ hI₁
      exact ⟨e₂, a₂, w₂, hq₂, .of_steps (StepsIn.trans harr (.one (fenced_calm hb hr rfl) stepR_inLoop)) harr₂⟩
    | exit id => exact ⟨_, a₁, w₁, hq, .pass (x := .inLoop c) rfl (fun _ _ => .inl (by simp)) harr⟩
    | goto l => exact ⟨_, a₁, w₁, hq, .pass (x := .inLoop c) rfl (fun _ _ => .inl (by simp)) harr⟩
    | ret => exact ⟨_, a₁, w₁, hq, .pass (x := .inLoop c) rfl (fun _ _ => .inl (by simp)) harr⟩
    | panic ch => exact ⟨_, a₁, w₁, hq, .pass (x := .inLoop c) rfl (fun _ _ => .inl (by simp)) harr⟩
    | outgrown => exact ⟨_, a₁, w₁, hq, .pass (x := .inLoop c) rfl (fun _ _ => .inl (by simp)) harr⟩
 obtain ⟨e, a', w', hq, harr⟩ := key k0 a w h₀
 exact ⟨e, a', w', hq, .of_steps (.one (fenced_calm hb hr rfl) stepR_loop) harr⟩
theorem sexecG_ok {P : Program} (hmix : P.follows .mixedOrders = true) {G : Gs} {E : Env P C} {L : List (Inv' C)} {Y : Option (Nat × Yf C)} {RF : Rf C} (hY : YOK P G Y) (hR : ROK P E.n G RF) :
 ∀ {c : Code} {pj : PJ} {tm : Tm} {m : List (Ck C)} {K : Ex → PJ → Tm → List (Ck C) → Tr} {a : Act} {w : World} {ds : List Nat} {Q : Exit → Act → World → Prop},
 (sexecG E L G.fx Y RF c pj tm m K).holds → ActOK (ads m) E.n tm a → MemOK (G.Sp pj ds) G.w0 w m → FixOK G.A0 G.fx m →
 (∀ e pj' tm' m' a' w' ds', (K e pj' tm' m').holds → ActOK (ads m') E.n tm' a' → MemOK (G.Sp pj' ds') G.w0 w' m' → FixOK G.A0 G.fx m' → Q (Ex.of e) (wa a' (G.dm ds')) w') → c.wpIn (FR G.r) 0 P Q (wa a (G.dm ds)) w := by
 intro c
 induction c with
 | skip => intro pj tm m K a w ds Q hs h hm hx hq; exact wpIn_skip (hq _ _ _ _ _ _ _ hs h hm hx)
 | region id ops draw =>
   intro pj tm m K a w ds Q hs h hm hx hq
   simp only [sexecG, sregG] at hs
   split at hs
   · exact hs.elim
   rename_i hnd
   have hnd' := noDefer_ok hnd
   cases draw with
   | false => exact wpIn_region_list (sopsG_ok hY hnd' hs h hm hx (fun pj' tm' m' a' w' hk h' hm' hx' => hq _ _ _ _ _ _ _ hk h' hm' hx'))
   | true =>
     have hndi : ∀ (i : Nat) (o : Oper), ops[i]? = some o → ∀ c, o.op ≠ .defer c := fun i o ho => hnd' o (by
      have := uk (l := ops.toList) (i := i) (by simpa using ho)
      exact this)
     have fin : ∀ (Q0 : Act → World → Prop), (∀ a' w', Q0 a' w' → Q .normal (wa a' (G.dm ds)) w') →
      wpAny P .any ops (fun e a w => match e with | .normal => Q0 a w | _ => False) ops.size (xw ops.size false) a { w with drawn := w.drawn + 1 } → (Code.region id ops true).wpIn (FR G.r) 0 P Q (wa a (G.dm ds)) w := by
      intro Q0 h0 hA
      refine Go.wpIn_mono (wpIn_region_any hmix (wpAnyIn_of hndi (fun _ _ h => h) _ _ _ _ hA)) ?_
      rintro e a' w' ⟨b, hb, rfl⟩
      cases e with
      | normal => exact h0 _ _ hb
      | _ => exact hb.elim
     simp only at hs
     split at hs
     · obtain ⟨hB, hs⟩ := hs
       have hB' : Region.lexB .any ops = true := hB
       simp only [Region.lexB, zx] at hB'
       refine fin (fun a' w' => Q .normal (wa a' (G.dm ds)) w') (fun _ _ h => h) ?_
       refine wpAny_of_quiet (C := fun w => MemOK (G.Sp pj ds) G.w0 w m) (Q := fun a' => ∀ w', MemOK (G.Sp pj ds) G.w0 w' m → Q .normal (wa a' (G.dm ds)) w') (fun _ w' hw' h => h w' hw') _ _ _ _ hm.drew ?_
       have := wpAnyQ_lex (C := fun w => MemOK (G.Sp pj ds) G.w0 w m) (md := .any) hB'.1 ops.toList 0 (xw ops.size false) a (by simp) (by simpa using hB'.2)
        (sopsQ_ok (Q := fun a' => ∀ w', MemOK (G.Sp pj ds) G.w0 w' m → Q .normal (wa a' (G.dm ds)) w') hm.glob hs h (fun tm' m' a' hk h' hiff hgr w' hm' => hq _ _ _ _ _ _ _ hk h' ((hiff w').1 hm') (hx.grow hgr.1 hgr.2)))
       simpa using this
     · exact fin (fun a' w' => ∃ tm' m', (K .nor pj tm' m').holds ∧ ActOK (ads m') E.n tm' a' ∧ MemOK (G.Sp pj ds) G.w0 w' m' ∧ FixOK G.A0 G.fx m')
        (fun a' w' ⟨tm', m', hk, h', hm', hx'⟩ => hq _ _ _ _ _ _ _ hk h' hm' hx') (by
          refine draw_any hs.1 hs.2.1 hs.2.2 h hm (fun tm' m' a' w' hk h' hm' hg => ⟨tm', m', hk, h', hm', hx.grow hg.1 hg.2⟩))
 | seq x y ihx ihy =>
   intro pj tm m K a w ds Q hs h hm hx hq
   simp only [sexecG] at hs
   split at hs
   · refine wpIn_seq (ihx hs h hm hx fun e pj' tm' m' a' w' ds' hk h' hm' hx' => ?_)
     cases e with
     | nor => exact ihy hk h' hm' hx' hq
     | exit i => exact hq _ _ _ _ _ _ _ hk h' hm' hx'
     | ret => exact hq _ _ _ _ _ _ _ hk h' hm' hx'
   · rename_i I0 Ir _
     split at hs
     · exact hs.elim
     simp only [fL_eq, fLN_eq] at hs
     obtain ⟨hs, hround⟩ := hs
     have hround := allI_ok hround
     refine wpIn_seq (ihx hs h hm hx fun e pj' tm' m' a' w' ds' hk h' hm' hx' => ?_)
     cases e with
     | nor =>
       simp only at hk
       split at hk
       · exact hk.elim
       obtain ⟨I, hI, x, hix, hs'⟩ := hk
       obtain ⟨hlx, hs'⟩ := linked_ok hs'
       obtain ⟨hna, hlx⟩ := noP_ok hlx
       obtain ⟨ha', hm'', hx''⟩ := subPx_ok hs' h' hm' hx'
       have hro := (ifNo_h (hround I hI x)).resolve_left (fun hno => linkNo_ok hno hlx)
       have hro := (ifNo_h hro).resolve_left (fun hno => by rw [hna] at hno; cases hno)
       have hro := linkT_ok (hro hix) hlx
       simp only [fTm_eq, fM_eq] at hro
       exact ihy hro ha' hm'' hx'' hq
     | exit i => exact hq _ _ _ _ _ _ _ hk h' hm' hx'
     | ret => exact hq _ _ _ _ _ _ _ hk h' hm' hx'
 | cond c x y ihx ihy =>
   intro pj tm m K a w ds Q hs h hm hx hq
   have hnil : AlOK tm [] := by intro p hp; cases hp
   simp only [sexecG] at hs
   split at hs <;> try (first | contradiction | exact False.elim hs)
   · rename_i hc
     exact wpIn_cond (t := true) (by rw [wa_eval]; exact ev_ok h hm.glob hnil _ _ hc) (ihx hs h hm hx hq)
   · rename_i hc
     exact wpIn_cond (t := false) (by rw [wa_eval]; exact ev_ok h hm.glob hnil _ _ hc) (ihy hs h hm hx hq)
   · rename_i b hc
     cases b with
     | true => exact wpIn_cond (t := true) (by rw [wa_eval]; exact ev_ok h hm.glob hnil _ _ hc) (ihx (hs.1 rfl) h hm hx hq)
     | false => exact wpIn_cond (t := false) (by rw [wa_eval]; exact ev_ok h hm.glob hnil _ _ hc) (ihy (hs.2 rfl) h hm hx hq)
 | block id c ih =>
   intro pj tm m K a w ds Q hs h hm hx hq
   refine wpIn_block (ih hs h hm hx fun e pj' tm' m' a' w' ds' hk h' hm' hx' => ?_)
   cases e with
   | nor => exact hq _ _ _ _ _ _ _ hk h' hm' hx'
   | exit i =>
     simp only [Ex.of, Exit.inBlock]
     simp only at hk
     split at hk
     · rename_i hb
       rw [if_pos (zr hb)]
       exact hq _ _ _ _ _ _ _ hk h' hm' hx'
     · rename_i hb
       rw [if_neg (Nat.ne_of_beq_eq_false hb)]
       exact hq _ _ _ _ _ _ _ hk h' hm' hx'
   | ret => exact hq _ _ _ _ _ _ _ hk h' hm' hx'
 | loop c ih =>
   intro pj tm m K a w ds Q hs h hm hx hq
   simp only [sexecG, fL_eq, fLN_eq] at hs
   split at hs
   · exact hs.elim
   obtain ⟨⟨I0, hI0, x0, hi0, hs0⟩, hround⟩ := hs
   have hround := allI_ok hround
   obtain ⟨hl0, hs0⟩ := linked_ok hs0
   obtain ⟨hn0, hl0⟩ := noP_ok hl0
   obtain ⟨ha0, hm0, hx0⟩ := subPx_ok hs0 h hm hx
   refine wpIn_loop' (fun n a w => ∃ I ∈ findInvs (firstId c) L, ∃ x, ∃ b ds, a = wa b (G.dm ds) ∧ (I.inv x ∧ notApp (I.mem x m) m = false ∧ allOf (linkP (writes c) tm (I.tm x))) ∧ I.meas x = n ∧ ActOK (ads (I.mem x m)) E.n (I.tm x ++ keepTm (keysOf (I.tm x) ++ writes c) tm) b ∧ MemOK (G.Sp none ds) G.w0 w (I.mem x m) ∧ FixOK G.A0 G.fx (I.mem x m)) (I0.meas x0) ⟨I0, hI0, x0, a, ds, rfl, ⟨hi0, hn0, hl0⟩, rfl, ha0, hm0, hx0⟩ ?_
   rintro n a1 w1 ⟨I, hI, x, b, ds1, rfl, ⟨hix, hna, hlx⟩, rfl, hax, hmx, hxx⟩
   have hro := (ifNo_h (hround I hI x)).resolve_left (fun hno => linkNo_ok hno hlx)
   have hro := (ifNo_h hro).resolve_left (fun hno => by rw [hna] at hno; cases hno)
   have hro := linkT_ok (hro hix) hlx
   simp only [fTm_eq, fM_eq] at hro
   refine ih hro hax hmx hxx fun e pj' tm' m' a' w' ds' hk h' hm' hx' => ?_
   cases e with
   | nor =>
     simp only at hk
     split at hk
     · exact hk.elim
     obtain ⟨I', hI', x', hi', hlt, hs'⟩ := hk
     obtain ⟨hl', hs'⟩ := linked_ok hs'
     obtain ⟨hn', hl'⟩ := noP_ok hl'
     obtain ⟨ha', hm'', hx''⟩ := subPx_ok hs' h' hm' hx'
     exact ⟨I'.meas x', hlt, I', hI', x', a', ds', rfl, ⟨hi', hn', hl'⟩, rfl, ha', hm'', hx''⟩
   | exit i => exact hq _ _ _ _ _ _ _ hk h' hm' hx'
   | ret => exact hq _ _ _ _ _ _ _ hk h' hm' hx'
 | exit id => intro pj tm m K a w ds Q hs h hm hx hq; exact wpIn_exit (hq _ _ _ _ _ _ _ hs h hm hx)
 | ret => intro pj tm m K a w ds Q hs h hm hx hq; exact wpIn_ret (hq _ _ _ _ _ _ _ hs h hm hx)
 | rangeFunc g ps az bd _ _ =>
   intro pj tm m K a w ds Q hs h hm hx hq
   simp only [sexecG] at hs
   split at hs
   · exact hs.elim
   exact hR _ _ _ _ _ _ _ _ _ _ _ hs h hm hx fun e tm' m' a' w' ds' hk h' hm' hx' => hq _ _ _ _ _ _ _ hk h' hm' hx'
 | scope _ _ => intro pj tm m K a w ds Q hs; exact False.elim hs
 | label _ => intro pj tm m K a w ds Q hs; exact False.elim hs
 | goto _ => intro pj tm m K a w ds Q hs; exact False.elim hs
 | refuse _ => intro pj tm m K a w ds Q hs; exact False.elim hs
end Go.Vx
namespace Go.Vx
open Go
variable {C : Nat → Codec}
theorem heap_put_other {w : World} {l k : Nat} {o : Obj} (h : k ≠ l) : (w.putObj l o).heap[k]? = w.heap[k]? := World.putObj_heap_other h
theorem MemOK.pinNew {s rd : Nat → Prop} {ps : List (Nat × Obj)} {w0 w : World} {m : List (Ck C)} (h : MemOK ⟨s, ps, rd⟩ w0 w m) (o : Obj) : MemOK ⟨s, (w.heap.size, o) :: ps, rd⟩ w0 (w.alloc o) m := by
 have hb : ∀ k, k < w.heap.size → (w.alloc o).heap[k]? = w.heap[k]? := fun k hk => heap_alloc_lt w o hk
 refine ⟨h.os, h.tape, h.output, by have := h.size; simp; omega, ?_, h.inS, ?_, ?_, h.apart, ?_, ?_⟩
 · intro k hk hno; rw [hb k (za hk h.size)]; exact h.keep k hk hno
 · intro c hc ho; exact Ck.ok_same (h.ok c hc ho) (hb _ (h.lt c hc ho))
 · intro c hc hw hl a ha
   rw [World.frozen?_of_block (w := w) (by rw [ha]; exact hb _ (h.lt c hc (Ck.live_iff.1 hl).2))]
   exact h.wrok c hc hw hl a ha
 · intro c hc ho; have := h.lt c hc ho; simp; omega
 · have hm := h.more
   refine ⟨fun g v hv => ?_, fun g p hp => ?_, fun p hp => ?_, ?_, fun c hc t x hx => ?_⟩
   rotate_left 4
   · obtain ⟨g1, g2⟩ := hm.deep c hc t x hx
     refine ⟨(C t).good_keep w _ x (fun b hb' => hb b (g2 b hb').lt) g1, fun b hb' => ?_⟩
     have hB := g2 b hb'
     refine ⟨by have := hB.lt; simp; omega, hB.old, hB.no, fun p hp => ?_⟩
     rcases List.mem_cons.1 hp with rfl | hp
     · exact fun e => absurd hB.lt (by simp only at e; omega)
     · exact hB.pin p hp
   · obtain ⟨h1, h2, h3⟩ := hm.gv g v hv
     exact ⟨(World.cell?_of_block (w := w) (a := ⟨g, 0, none⟩) (hb g (za h2 h.size))).trans h1, h2, h3⟩
   · obtain ⟨h1, h2, h3⟩ := hm.gp g p hp
     exact ⟨(hb _ (za h2 h.size)).trans h1, h2, h3⟩
   · rcases List.mem_cons.1 hp with rfl | hp
     · exact ⟨World.alloc_heap_new w o, h.size, fun c hc hl => Nat.ne_of_lt (h.lt c hc (Ck.live_iff.1 hl).2)⟩
     · obtain ⟨h1, h2, h3⟩ := hm.pin p hp
       exact ⟨(hb _ (heap_size_of h1)).trans h1, h2, h3⟩
   · have : w.heap.size ∉ ps.map (·.1) := by
      intro hmem
      obtain ⟨p, hp, he⟩ := List.mem_map.1 hmem
      have := heap_size_of (hm.pin p hp).1
      omega
     simpa [this] using hm.nod
theorem MemOK.repin {s rd : Nat → Prop} {ps : List (Nat × Obj)} {w0 w : World} {m : List (Ck C)} {l : Nat} {o : Obj} (h : MemOK ⟨s, (l, o) :: ps, rd⟩ w0 w m) (o' : Obj) : MemOK ⟨s, (l, o') :: ps, rd⟩ w0 (w.putObj l o') m := by
 have hm := h.more
 obtain ⟨hl1, hl2, hl3⟩ := hm.pin (l, o) (by simp)
 simp only at hl1 hl2 hl3
 have hb : ∀ k, k ≠ l → (w.putObj l o').heap[k]? = w.heap[k]? := fun k hk => heap_put_other hk
 have hlv : ∀ c ∈ m, c.alive = false → ∀ w', Ck.ok (ads m) w' c := by
  intro c _ hc w'
  unfold Ck.alive at hc; unfold Ck.ok
  split at hc <;> first | cases hc | skip
  rename_i hd; rw [hd]; trivial
 refine ⟨h.os, h.tape, h.output, by have := h.size; simpa using this, ?_, h.inS, ?_, ?_, h.apart, ?_, ?_⟩
 · intro k hk hno
   rw [hb k (by omega)]
   exact h.keep k hk hno
 · intro c hc ho
   cases hcl : c.alive with
   | false => exact hlv c hc hcl _
   | true => exact Ck.ok_same (h.ok c hc ho) (hb _ (hl3 c hc (Ck.live_iff.2 ⟨hcl, ho⟩)))
 · intro c hc hw hl a ha
   rw [World.frozen?_of_block (w := w) (by rw [ha]; exact hb _ (hl3 c hc hl))]
   exact h.wrok c hc hw hl a ha
 · intro c hc ho; have := h.lt c hc ho; simpa using this
 · have hnod := hm.nod
   simp only [ym, us] at hnod
   refine ⟨fun g v hv => ?_, fun g p hp => ?_, fun p hp => ?_, by simpa using hm.nod, fun c hc t x hx => ?_⟩
   rotate_left 3
   · obtain ⟨g1, g2⟩ := hm.deep c hc t x hx
     refine ⟨(C t).good_keep w _ x (fun b hb' => hb b (fun e => (g2 b hb').pin (l, o) (by simp) e.symm)) g1, fun b hb' => ?_⟩
     have hB := g2 b hb'
     refine ⟨by have := hB.lt; simpa using this, hB.old, hB.no, fun p hp => ?_⟩
     rcases List.mem_cons.1 hp with rfl | hp
     · exact hB.pin (l, o) (by simp)
     · exact hB.pin p (zg _ hp)
   · obtain ⟨h1, h2, h3⟩ := hm.gv g v hv
     exact ⟨(World.cell?_of_block (w := w) (a := ⟨g, 0, none⟩) (hb g (by omega))).trans h1, h2, h3⟩
   · obtain ⟨h1, h2, h3⟩ := hm.gp g p hp
     exact ⟨(hb _ (by omega)).trans h1, h2, h3⟩
   · rcases List.mem_cons.1 hp with rfl | hp
     · exact ⟨World.putObj_heap_same (heap_size_of hl1), hl2, hl3⟩
     · obtain ⟨h1, h2, h3⟩ := hm.pin p (zg _ hp)
       refine ⟨(hb _ ?_).trans h1, h2, h3⟩
       rintro he
       exact hnod.1 (he ▸ List.mem_map.2 ⟨p, hp, rfl⟩)
theorem MemOK.unpin {s rd : Nat → Prop} {ps : List (Nat × Obj)} {w0 w : World} {m : List (Ck C)} {l : Nat} {o : Obj} (h : MemOK ⟨s, (l, o) :: ps, rd⟩ w0 w m) : MemOK ⟨s, ps, rd⟩ w0 w m := by
 have hm := h.more
 refine ⟨h.os, h.tape, h.output, h.size, h.keep, h.inS, h.ok, h.wrok, h.apart, h.lt, hm.gv, hm.gp, fun p hp => hm.pin p (zg _ hp), ?_, fun c hc t x hx => ?_⟩
 rotate_left
 · obtain ⟨g1, g2⟩ := hm.deep c hc t x hx
   exact ⟨g1, fun b hb => ⟨(g2 b hb).lt, (g2 b hb).old, (g2 b hb).no, fun p hp => (g2 b hb).pin p (zg _ hp)⟩⟩
 have := hm.nod
 simp only [ym, us] at this
 exact this.2
structure It (P : Program) (C : Nat → Codec) where
 f : Nat
 fn : Func
 c : Code
 E : Env P C
 L : List (Inv' C)
 hf : P.funcs[f]? = some fn
 hb : fn.body = some c
 hname : (fn.name == "runtime.NumGoroutine") = false
 hn : fn.ntmps = E.n
def findIt {P : Program} (f : Nat) : List (It P C) → Option (It P C)
 | [] => none
 | x :: r => match zo x.f f with
   | true => some x
   | false => findIt f r
theorem findIt_f {P : Program} {f : Nat} : ∀ {l : List (It P C)} {it : It P C}, findIt f l = some it → it.f = f
 | [], _, h => by cases h
 | x :: r, it, h => by
   simp only [findIt] at h
   split at h
   · rename_i he; simp only [Option.some.injEq] at h; subst h; exact zr he
   · exact findIt_f h
def noRf : Rf C := fun _ _ _ _ _ _ _ => .no
theorem noRf_ok {P : Program} {n : Nat} {G : Gs} : ROK (C := C) P n G noRf := fun _ _ _ _ _ _ _ _ _ _ _ h => h.elim
theorem noY_ok {P : Program} {G : Gs} : YOK (C := C) P G none := fun _ _ h => by cases h
def putAll (n : Nat) : Tm → List Nat → List SV → Option Tm
 | tm, [], [] => some tm
 | tm, p :: r, v :: s => match put? n tm (some p) [] v with
   | some tm' => putAll n tm' r s
   | none => none
 | _, _, _ => none
theorem putAll_len {n : Nat} : ∀ {ps : List Nat} {vs : List SV} {tm tm' : Tm}, putAll n tm ps vs = some tm' → ps.length = vs.length
 | [], [], _, _, _ => rfl
 | p :: r, v :: s, tm, tm', h => by
   simp only [putAll] at h
   split at h
   · simp [putAll_len h]
   · cases h
 | [], _ :: _, _, _, h => by simp [putAll] at h
 | _ :: _, [], _, _, h => by simp [putAll] at h
theorem putAll_ok {ad : Nat → Ad} {n : Nat} : ∀ {ps : List Nat} {vs : List SV} {tm tm' : Tm} {a : Act}, ActOK ad n tm a → putAll n tm ps vs = some tm' →
 ActOK ad n tm' { tmps := (ps.zip (SV.vas ad vs)).foldl (fun t (p, v) => t.setIfInBounds p v) a.tmps, defers := [] }
 | [], [], tm, tm', a, h, hp => by
   simp only [putAll, Option.some.injEq] at hp; subst hp
   exact ⟨rfl, h.size, h.tmps, h.inv⟩
 | p :: r, v :: s, tm, tm', a, h, hp => by
   simp only [putAll] at hp
   split at hp
   · rename_i tm1 h1
     have hA := put_ok h h1 (by simp) (v.va ad) (by simp [mkc])
     exact putAll_ok (a := a.put (some p) (v.va ad)) hA hp
   · cases hp
 | [], _ :: _, _, _, _, _, h => by simp [putAll] at h
 | _ :: _, [], _, _, _, _, h => by simp [putAll] at h
def PJ.code : Ex → Code
 | .nor => .skip
 | .exit i => .exit i
 | .ret => .ret
def PJ.back : PJ → Ex
 | none => .nor
 | some e => e
def goR {P : Program} (E : Env P C) (L : List (Inv' C)) (tmC : Tm) (ps : Array Tmp) (asg bd : Code) : Yf C := fun vs tmI m Kc =>
 match tmLt m.length tmI, putAll E.n tmC ps.toList vs with
 | true, some tmb => sexecG E L (tmNm tmI ++ tmNm tmC) none noRf asg none tmb m fun e _ tma ma => match e with
   | .nor => sexecG E L (tmNm tmI ++ tmNm tmC) none noRf bd none tma ma fun e _ tm2 m2 => match e with
     | .nor => Kc true none m2
     | .exit i => Kc false (some (.exit i)) m2
     | .ret => Kc false (some .ret) m2
   | _ => .no
 | _, _ => .no
def rangeF {P : Program} (E : Env P C) (L : List (Inv' C)) (its : List (It P C)) : Rf C := fun g ps asg bd tm m K =>
 match ev tm m [] g with
 | some (.fn (.func gf) [] cap) => match findIt gf its with
   | some it => match tmLt m.length tm && SV.lts m.length cap && si (cap.length + 1) it.E.n && noCnds cap with
     | false => .no
     | true => .all fun (l : Nat) => fTm (initTm 0 (.fn (.yield l) [] [] :: cap)) fun tmI => sexecG it.E it.L (tmNm tm) (some (l, goR E L tm ps asg bd)) noRf it.c none tmI m fun e pj tmI' m' => match e with
       | .exit _ => .no
       | _ => match retSV P it.fn tmI' m' with
         | some (qs, _) => conj qs (K pj.back tm m')
         | none => .no
   | none => .no
 | _ => .no
theorem tmLt_nm {n : Nat} : ∀ {tm : Tm}, tmLt n tm = true → ∀ c ∈ tmNm tm, c < n := by
 have hv : ∀ (v : SV), SV.lt n v = true → ∀ c ∈ v.nm, c < n := by
  intro v
  induction v using SV.rec (motive_2 := fun vs => SV.lts n vs = true → ∀ c ∈ SV.nms vs, c < n) with
  | ptr c i f => intro h k hk; simp only [SV.lt] at h; simp only [SV.nm, ux] at hk; subst hk; simpa using h
  | sl c i f m => intro h k hk; simp only [SV.lt] at h; simp only [SV.nm, ux] at hk; subst hk; simpa using h
  | mp c => intro h k hk; simp only [SV.lt] at h; simp only [SV.nm, ux] at hk; subst hk; simpa using h
  | agg vs ih => intro h k hk; simp only [SV.lt] at h; simp only [SV.nm] at hk; exact ih h k hk
  | tup vs ih => intro h k hk; simp only [SV.lt] at h; simp only [SV.nm] at hk; exact ih h k hk
  | ifc t v ih => intro h k hk; simp only [SV.lt] at h; simp only [SV.nm] at hk; exact ih h k hk
  | fn f a b iha ihb =>
    intro h k hk
    simp only [SV.lt, zx] at h
    simp only [SV.nm, wj] at hk
    rcases hk with hk | hk
    · exact iha h.1 k hk
    · exact ihb h.2 k hk
  | cnd cs v ih => intro h k hk; simp only [SV.lt] at h; simp only [SV.nm] at hk; exact ih h k hk
  | nil => rename_i k hk; cases hk
  | cons v r ihv ihr =>
    rename_i h k hk
    simp only [SV.lts, zx] at h
    simp only [SV.nms, wj] at hk
    rcases hk with hk | hk
    · exact ihv h.1 k hk
    · exact ihr h.2 k hk
  | _ => intro _ k hk; simp [SV.nm] at hk
 intro tm
 induction tm with
 | nil => intro _ c hc; cases hc
 | cons p r ih =>
   obtain ⟨k, v⟩ := p
   intro h c hc
   simp only [tmLt, zx] at h
   simp only [tmNm, wj] at hc
   rcases hc with hc | hc
   · exact hv v h.1 c hc
   · exact ih h.2 c hc
def recOf (rec : LoopState → Option Code → Loop) : PJ → Obj
 | none => .loop (rec .ready none)
 | some e => .loop (rec .done (some (PJ.code e)))
theorem goR_ok {P : Program} (hmix : P.follows .mixedOrders = true) {E : Env P C} {L : List (Inv' C)} {tmC : Tm} {ps : Array Tmp} {asg bd : Code} {s rd : Nat → Prop} {old : List (Nat × Obj)} {w0 : World} {A0 : Nat → Ad} {a0 : Act} {l : Nat} {fn : FuncId} {D : Nat}
 {rec : LoopState → Option Code → Loop} (hrec : ∀ st pe, rec st pe = { state := st, pending := pe, fn := fn, tmps := a0.tmps, params := ps, assign := asg, body := bd, defers := D }) (ha0 : ActOK A0 E.n tmC a0) :
 YOK P ⟨none, fun pj _ => ⟨s, (l, recOf rec pj) :: old, rd⟩, w0, fun _ => [], A0, tmNm tmC⟩ (some (l, goR E L tmC ps asg bd)) := by
 intro l' go hgo vs tmI m Kc w ds R h hm hx hK
 simp only [Option.some.injEq, Prod.mk.injEq] at hgo
 obtain ⟨rfl, rfl⟩ := hgo
 unfold goR at h
 split at h
 rotate_left
 · exact h.elim
 rename_i tmb hlt hput
 simp only at hm hx hK
 have hpin := (hm.more.pin (l, recOf rec none) (by simp)).1
 simp only [recOf] at hpin
 have hlen := putAll_len hput
 have hy := run_yield (P := P) (args := (SV.vas (ads m) vs).toArray) hpin (by rw [hrec]; simp [SV.vas_eq, ← hlen])
 refine ⟨_, _, _, _, hy, ?_⟩
 simp only [hrec]
 have hact : ActOK (ads m) E.n tmC a0 := ha0.fixed (fun c hc => ((hx c hc).2).symm)
 have hactb := putAll_ok hact hput
 have hz : (ps.zip (SV.vas (ads m) vs).toArray).foldl (fun tmps (x : Tmp × Value) => tmps.setIfInBounds x.1 x.2) a0.tmps = (ps.toList.zip (SV.vas (ads m) vs)).foldl (fun t (x : Nat × Value) => t.setIfInBounds x.1 x.2) a0.tmps := by
  rw [← Array.foldl_toList]
  simp
 obtain ⟨G1, hG1⟩ : ∃ G1 : Gs, G1 = ⟨some l, fun _ _ => ⟨s, (l, .loop (rec .ready none)) :: old, rd⟩, w0, fun _ => [], ads m, tmNm tmI ++ tmNm tmC⟩ := ⟨_, rfl⟩
 obtain ⟨G2, hG2⟩ : ∃ G2 : Gs, G2 = ⟨some l, fun _ _ => ⟨s, (l, .loop (rec .busy none)) :: old, rd⟩, w0, fun _ => [], ads m, tmNm tmI ++ tmNm tmC⟩ := ⟨_, rfl⟩
 have hfx : FixOK (ads m) (tmNm tmI ++ tmNm tmC) m := by
  intro c hc
  rcases List.mem_append.1 hc with hc | hc
  · exact ⟨tmLt_nm hlt c hc, rfl⟩
  · exact ⟨(hx c hc).1, rfl⟩
 have back : ∀ m' : List (Ck C), FixOK (ads m) (tmNm tmI ++ tmNm tmC) m' → FixOK A0 (tmNm tmC) m' ∧ (∀ c ∈ tmNm tmI, c < m'.length ∧ ads m' c = ads m c) := by
  intro m' h'
  refine ⟨fun c hc => ?_, fun c hc => h' c (List.mem_append.2 (.inl hc))⟩
  obtain ⟨h1, h2⟩ := h' c (List.mem_append.2 (.inr hc))
  exact ⟨h1, h2.trans (hx c hc).2⟩
 refine roundIn_of_wpIn (FR_fn none fn) ?_
 have h1 := sexecG_ok (P := P) hmix (G := G1) (E := E) (L := L) (Y := none) (RF := noRf) noY_ok noRf_ok (c := asg) (pj := none) (tm := tmb) (m := m) (ds := []) (w := w)
  (a := { tmps := (ps.toList.zip (SV.vas (ads m) vs)).foldl (fun t (x : Nat × Value) => t.setIfInBounds x.1 x.2) a0.tmps, defers := [] })
  (Q := Exit.then (fun a₁ w₁ => ∃ w₂, (Instr.beginRound l).run P w₁ = .ok () w₂ ∧ bd.wpIn (Fence.wide.inRound l) 0 P (roundPost P l R) a₁ w₂) (fun _ _ _ => False))
  (by subst hG1; exact h) hactb (by subst hG1; exact hm) (by subst hG1; exact hfx) ?_
 · have e : wa ({ tmps := (ps.toList.zip (SV.vas (ads m) vs)).foldl (fun t (x : Nat × Value) => t.setIfInBounds x.1 x.2) a0.tmps, defers := [] } : Act) (G1.dm []) = { tmps := (ps.toList.zip (SV.vas (ads m) vs)).foldl (fun t (x : Nat × Value) => t.setIfInBounds x.1 x.2) a0.tmps, defers := [] } := by subst hG1; rfl
   rw [e] at h1
   rw [hz]
   have e2 : FR G1.r = Fence.wide.inRound l := by subst hG1; rfl
   rw [e2] at h1
   exact h1
 intro e pj' tma ma a1 w1 ds' hk ha1 hm1 hx1
 subst hG1
 cases e with
 | exit i => exact hk.elim
 | ret => exact hk.elim
 | nor =>
   simp only at hk hm1 hx1
   have hpin1 := (hm1.more.pin (l, .loop (rec .ready none)) (by simp)).1
   have hbr := run_beginRound (P := P) hpin1 (by rw [hrec])
   have hm2 := hm1.repin (.loop { rec .ready none with state := .busy })
   have ebusy : ({ rec .ready none with state := .busy } : Loop) = rec .busy none := by rw [hrec, hrec]
   rw [ebusy] at hm2 hbr
   refine ⟨_, hbr, ?_⟩
   have h2 := sexecG_ok (P := P) hmix (G := G2) (E := E) (L := L) (Y := none) (RF := noRf) noY_ok noRf_ok (c := bd) (pj := none) (tm := tma) (m := ma) (ds := []) (w := w1.putObj l (.loop (rec .busy none))) (a := a1)
    (Q := roundPost P l R) (by subst hG2; exact hk) ha1 (by subst hG2; exact hm2) (by subst hG2; exact hx1) ?_
   · have e : wa a1 (G2.dm []) = wa a1 [] := by subst hG2; rfl
     rw [e] at h2
     have e2 : FR G2.r = Fence.wide.inRound l := by subst hG2; rfl
     rw [e2] at h2
     exact h2
   intro e pj2 tm2 m2 a2 w2 ds2 hk2 ha2 hm3 hx2
   subst hG2
   simp only at hm3 hx2
   have hpin2 := (hm3.more.pin (l, .loop (rec .busy none)) (by simp)).1
   obtain ⟨b1, b2⟩ := back m2 hx2
   have fin : ∀ (jump : Option Code) (pj : PJ), (jump.isNone = true ↔ pj = none) → pj.map PJ.code = jump → (Kc jump.isNone pj m2).holds → ∃ v w', (Instr.endRound l jump).run P w2 = .ok v w' ∧ R (.returned v) w' := by
    intro jump pj hj hpj hkc
    have her := run_endRound (P := P) jump hpin2
    refine ⟨_, _, her, hK _ pj m2 _ hkc ?_ b1 b2⟩
    have hm4 := hm3.repin (.loop { rec .busy none with state := if jump.isNone then .ready else .done, pending := jump })
    have e : (Obj.loop { rec .busy none with state := if jump.isNone then .ready else .done, pending := jump }) = recOf rec pj := by
     cases pj with
     | none =>
       simp only [Option.map_none] at hpj
       subst hpj
       simp [recOf, hrec]
     | some e =>
       simp only [yu] at hpj
       subst hpj
       simp [recOf, hrec]
    rw [e] at hm4 ⊢
    exact hm4
   cases e with
   | nor => exact fin none none (by simp) rfl hk2
   | exit i => exact fin (some (.exit i)) (some (.exit i)) (by simp) rfl hk2
   | ret => exact fin (some .ret) (some .ret) (by simp) rfl hk2
theorem init_ok {ad : Nat → Ad} {n : Nat} {args : List SV} (hlen : si args.length n = true) (hnc : noCnds args = true) :
 ActOK ad n (initTm 0 args) { tmps := (SV.vas ad args).toArray ++ xw (n - (SV.vas ad args).toArray.size) Go.undef, defers := [] } := by
 have hlen : args.length ≤ n := Nat.le_of_ble_eq_true hlen
 have hsz : (SV.vas ad args).toArray.size = args.length := by simp [SV.vas_eq]
 refine ⟨rfl, by simp [SV.vas_eq]; omega, fun t => ?_, ?_⟩
 · rcases get_init args 0 t with h1 | ⟨_, v, h2, h3⟩
   · exact .inl h1
   · right
     simp only [Nat.sub_zero] at h2
     have hlt : t < args.length := (List.getElem?_eq_some_iff.1 h2).1
     rw [h3, Array.getElem?_append_left (by rw [hsz]; exact hlt)]
     simp [SV.vas_eq, h2]
 · intro t cs v hg
   exfalso
   rcases get_init args 0 t with h1 | ⟨_, u, h2, h3⟩
   · rw [h1] at hg; cases hg
   · rw [h3] at hg
     exact notCnd_ok (noCnds_ok hnc u (uk h2)) cs v hg
def mark (D : Nat) : Deferred := { target := .collected D, args := #[] }
def mpin (D : Nat) : Nat × Obj := (D, .deferred (some []))
theorem rangeF_ok {P : Program} (hmix : P.follows .mixedOrders = true) {E : Env P C} {L : List (Inv' C)} {its : List (It P C)} {s rd : Nat → Prop} {w0 : World} :
 ROK P E.n ⟨none, fun _ ds => ⟨s, ds.map mpin, rd⟩, w0, fun ds => ds.map mark, noAd, []⟩ (rangeF E L its) := by
 intro g ps asg bd tm m K a w Q ds h ha hm hx hq
 simp only at hm hq
 unfold rangeF at h
 split at h <;> try (first | contradiction | exact False.elim h)
 rename_i gf cap hg
 split at h
 rotate_left
 · exact h.elim
 rename_i it hit
 split at h
 · exact h.elim
 rename_i hc
 simp only [zx] at hc
 obtain ⟨⟨⟨c1, c2⟩, c3⟩, c4⟩ := hc
 have hf := findIt_f hit
 subst hf
 have hnil : AlOK tm [] := by intro p hp; cases hp
 have eg : (wa a (ds.map mark)).eval g = .func (.func it.f) #[] (SV.vas (ads m) cap).toArray := by
  rw [wa_eval, ev_ok ha hm.glob hnil _ _ hg]; rfl
 refine wpIn_rangeFunc ?_
 intro fn _
 obtain ⟨rec, hrec⟩ : ∃ rec : LoopState → Option Code → Loop, rec = fun st pe => { state := st, pending := pe, fn, tmps := a.tmps, params := ps, assign := asg, body := bd, defers := w.heap.size } := ⟨_, rfl⟩
 have hrec' : ∀ st pe, rec st pe = { state := st, pending := pe, fn := fn, tmps := a.tmps, params := ps, assign := asg, body := bd, defers := w.heap.size } := fun _ _ => by rw [hrec]
 obtain ⟨W1, hW1⟩ : ∃ W1, (w.alloc (.deferred (some []))).alloc (.loop (rec .ready none)) = W1 := ⟨_, rfl⟩
 have hm1 : MemOK ⟨s, (w.heap.size + 1, recOf rec none) :: (mpin w.heap.size) :: ds.map mpin, rd⟩ w0 W1 m := by
  have := (hm.pinNew (.deferred (some []))).pinNew (.loop (rec .ready none))
  rw [World.size_alloc, hW1] at this
  exact this
 refine ⟨w.heap.size + 1, [mark w.heap.size], W1, { target := .fn (.func it.f) (SV.vas (ads m) cap).toArray, args := #[.func (.yield (w.heap.size + 1)) #[] #[]] }, W1, it.f,
  #[.func (.yield (w.heap.size + 1)) #[] #[]] ++ (SV.vas (ads m) cap).toArray, W1, ?_, ?_, ?_, ?_, fun hd => (by rw [FR_depth] at hd; cases hd), ?_⟩
 · rw [← hW1, hrec]; exact run_enterLoop_outer _ _ _ _ _
 · simp only [resolve, eg, Deferred.ofValue]
   simp [Act.eval]
 · intro f' _; exact FR_fn _ f'
 · simp [invoke, run_callFunc it.hf it.hb it.hname]
 · have hin := h (w.heap.size + 1)
   simp only [fTm_eq] at hin
   refine callsIn_of_wp it.hf it.hb (FR_fn _ _) ?_
   obtain ⟨GI, hGI⟩ : ∃ GI : Gs, GI = ⟨none, fun pj _ => ⟨s, (w.heap.size + 1, recOf rec pj) :: mpin w.heap.size :: ds.map mpin, rd⟩, w0, fun _ => [], ads m, tmNm tm⟩ := ⟨_, rfl⟩
   have hy : YOK P GI (some (w.heap.size + 1, goR E L tm ps asg bd)) := by
    subst hGI
    exact goR_ok hmix hrec' ha
   have hargs : (#[Value.func (.yield (w.heap.size + 1)) #[] #[]] ++ (SV.vas (ads m) cap).toArray) = (SV.vas (ads m) (.fn (.yield (w.heap.size + 1)) [] [] :: cap)).toArray := by
    apply xq; simp [SV.vas, SV.va]
   rw [hargs]
   have hinit := init_ok (ad := ads m) (n := it.E.n) (args := .fn (.yield (w.heap.size + 1)) [] [] :: cap) (by simpa using c3) (by simp [noCnds, notCnd, c4])
   rw [← it.hn] at hinit
   rw [it.hn] at hinit
   have h3 := sexecG_ok (P := P) hmix (G := GI) (E := it.E) (L := it.L) (Y := some (w.heap.size + 1, goR E L tm ps asg bd)) (RF := noRf) hy noRf_ok (c := it.c) (pj := none) (m := m) (ds := []) (w := W1)
    (Q := bodyPost P it.fn (rangePost (FR none) 0 P (w.heap.size + 1) Q { wa a (ds.map mark) with defers := [mark w.heap.size] ++ (wa a (ds.map mark)).defers }))
    (by subst hGI; exact hin) hinit (by subst hGI; exact hm1) (by subst hGI; exact fun c hc => ⟨tmLt_nm c1 c hc, rfl⟩) ?_
   · have e2 : FR GI.r = FR none := by subst hGI; rfl
     have e3 : ∀ b : Act, b.defers = [] → wa b (GI.dm []) = b := by
      intro b hb; subst hGI
      show ({ b with defers := b.defers ++ [] } : Act) = b
      cases b; simp at hb ⊢
     rw [e2, e3 _ rfl, ← it.hn] at h3
     exact h3
   intro e pj tmI' m' a' w' ds' hk ha' hm' hx'
   have fin : (match retSV P it.fn tmI' m' with | some (qs, _) => conj qs (K pj.back tm m') | none => .no : Tr).holds →
    (wa a' (GI.dm ds')).defers = [] ∧ ∃ v, (results it.fn (wa a' (GI.dm ds')).tmps).run P w' = .ok v w' ∧
      rangePost (FR none) 0 P (w.heap.size + 1) Q { wa a (ds.map mark) with defers := [mark w.heap.size] ++ (wa a (ds.map mark)).defers } (.returned v) w' := by
    intro hk
    split at hk <;> try (first | contradiction | exact False.elim hk)
    rename_i qs r hr
    obtain ⟨hp, hK⟩ := (conj_iff _ _).1 hk
    refine ⟨by subst hGI; show a'.defers ++ [] = []; rw [ha'.defers]; rfl, _, retSV_ok (S := GI.Sp pj ds') ha' hm' hr hp, ?_⟩
    subst hGI
    simp only at hm' hx'
    have hpin := (hm'.more.pin (w.heap.size + 1, recOf rec pj) (by simp)).1
    have hA : ActOK (ads m') E.n tm a := ha.fixed (fun c hc => ((hx' c hc).2).symm)
    have hdf : ({ wa a (ds.map mark) with defers := [mark w.heap.size] ++ (wa a (ds.map mark)).defers } : Act) = wa a ((w.heap.size :: ds).map mark) := by
     show ({ tmps := a.tmps, defers := [mark w.heap.size] ++ (a.defers ++ ds.map mark) } : Act) = { tmps := a.tmps, defers := a.defers ++ ((w.heap.size :: ds).map mark) }
     rw [ha.defers]; rfl
    rw [hdf]
    have hend : ∀ (o : Obj), MemOK ⟨s, (w.heap.size :: ds).map mpin, rd⟩ w0 (w'.putObj (w.heap.size + 1) o) m' := fun o => (hm'.repin o).unpin
    cases pj with
    | none =>
      simp only [recOf] at hpin
      refine ⟨none, _, by have := run_endLoop (P := P) hpin (by rw [hrec]; simp); rw [hrec] at this; exact this, ?_⟩
      refine hq .nor tm m' a _ (w.heap.size :: ds) hK hA ?_ (fun c hc => by cases hc)
      exact hend _
    | some e =>
      simp only [recOf] at hpin
      refine ⟨some (PJ.code e), _, by have := run_endLoop (P := P) hpin (by rw [hrec]; simp); rw [hrec] at this; exact this, ?_⟩
      have hQ : ∀ w4, MemOK ⟨s, (w.heap.size :: ds).map mpin, rd⟩ w0 w4 m' → Q (Ex.of e) (wa a ((w.heap.size :: ds).map mark)) w4 := fun w4 hm4 => hq e tm m' a w4 (w.heap.size :: ds) hK hA hm4 (fun c hc => by cases hc)
      cases e with
      | nor => exact wpIn_skip (hQ _ (hend _))
      | exit i => exact wpIn_exit (hQ _ (hend _))
      | ret => exact wpIn_ret (hQ _ (hend _))
   cases e with
   | nor => exact fin hk
   | exit i => exact hk.elim
   | ret => exact fin hk
def fexecR {P : Program} (E : Env P C) (L : List (Inv' C)) (its : List (It P C)) (fn : Func) (c : Code) (args : List SV) (mem : List (Ck C)) (G : SV → List (Ck C) → Tr) : Tr :=
 fTm (initTm 0 args) fun tm0 => fM mem fun mem0 => sexecG E L [] none (rangeF E L its) c none tm0 mem0 fun e _ tm m => match e with
  | .exit _ => .no
  | _ => match retSV P fn tm m with
    | some (ps, r) => conj ps (fSV r fun r => fM m fun m => G r m)
    | none => .no
theorem leaves_marks {P : Program} {fn : Func} {tmps : Array Value} {R : Ending → World → Prop} {s rd : Nat → Prop} {w0 : World} {m : List (Ck C)} : ∀ (ds : List Nat) (w : World), MemOK ⟨s, ds.map mpin, rd⟩ w0 w m →
 (∀ w', MemOK ⟨s, [], rd⟩ w0 w' m → ∃ v, (results fn tmps).run P w' = .ok v w' ∧ R (.returned v) w') → LeavesInM (FR none) 0 P fn tmps R (ds.map mark) .returning w
 | [], w, hm, h => h w hm
 | D :: ds, w, hm, h => by
   refine ⟨by simp, .inl ⟨D, _, rfl, run_takeDeferred (hm.more.pin (mpin D) (by simp)).1, ?_⟩⟩
   exact leaves_marks ds _ ((hm.repin (.deferred none)).unpin) h
theorem fexecR_ok {P : Program} (hmix : P.follows .mixedOrders = true) {E : Env P C} {L : List (Inv' C)} {its : List (It P C)} {f : FuncId} {fn : Func} {c : Code} {args : List SV} {mem : List (Ck C)} {G : SV → List (Ck C) → Tr}
 (hf : P.funcs[f]? = some fn) (hb : fn.body = some c) (hn : fn.ntmps = E.n) (hlen : si args.length E.n = true) (hnc : noCnds args = true) (h : fexecR E L its fn c args mem G) (w : World) (hm : MemOK (wrS mem) w w mem) :
 Calls P f (SV.vas (ads mem) args).toArray w fun e w' => ∃ r m', e = .returned (r.va (ads m')) ∧ MemOK (wrS mem) w w' m' ∧ G r m' := by
 refine (callsIn_wide (n := 0)).1 (callsIn_of_wp_marks hf hb trivial ?_)
 have hinit := init_ok (ad := ads mem) (n := E.n) hlen hnc
 unfold fexecR at h
 simp only [fTm_eq, fM_eq, fSV_eq] at h
 have h3 := sexecG_ok (P := P) hmix (G := ⟨none, fun _ ds => ⟨(wrS mem).set, ds.map mpin, (wrS mem).rd⟩, w, fun ds => ds.map mark, noAd, []⟩) (E := E) (L := L) (Y := none) (RF := rangeF E L its) noY_ok (rangeF_ok hmix) (c := c) (pj := none) (m := mem) (ds := []) (w := w)
  (Q := bodyPostM Fence.wide 0 P fn (fun e w' => ∃ r m', e = .returned (r.va (ads m')) ∧ MemOK (wrS mem) w w' m' ∧ G r m')) h hinit hm (fun c hc => by cases hc) ?_
 · rw [← hn] at h3
   exact h3
 intro e pj' tm m a w' ds hk ha hm' _
 have fin : (match retSV P fn tm m with | some (ps, r) => conj ps (G r m) | none => .no : Tr).holds → LeavesInM Fence.wide 0 P fn a.tmps (fun e w' => ∃ r m', e = .returned (r.va (ads m')) ∧ MemOK (wrS mem) w w' m' ∧ G r m') (wa a (ds.map mark)).defers .returning w' := by
  intro hk
  split at hk <;> try (first | contradiction | exact False.elim hk)
  rename_i ps r hr
  obtain ⟨hp, hG⟩ := (conj_iff _ _).1 hk
  have e : (wa a (ds.map mark)).defers = ds.map mark := by show a.defers ++ _ = _; rw [ha.defers]; rfl
  rw [e]
  exact leaves_marks ds w' hm' fun w'' hm'' => ⟨_, retSV_ok ha hm'' hr hp, r, m, rfl, hm'', hG⟩
 cases e with
 | nor => exact fin hk
 | exit i => exact hk.elim
 | ret => exact fin hk
theorem loc_fnR {P : Program} (hmix : P.follows .mixedOrders = true) {E : Env P C} {L : List (Inv' C)} (its : List (It P C)) {f : FuncId} {fn : Func} {c : Code} {args : List SV} {mem : List (Ck C)} {alts : List (Alt C)}
 (hf : P.funcs[f]? = some fn) (hb : fn.body = some c) (hname : (fn.name == "runtime.NumGoroutine") = false) (hn : fn.ntmps = E.n) (hlen : si args.length E.n = true) (hnc : noCnds args = true)
 (h : fexecR E L its fn c args mem fun r m => .lf (Ends alts fun A y => (finP mem r m (A.res y) (A.out y)).holds)) :
 LocG P (.fn f) mem args fun r m' => Ends alts fun A y => r = A.res y ∧ m' = A.out y := by
 intro w hm
 refine ⟨f, _, run_callFunc hf hb hname _ w, (fexecR_ok hmix hf hb hn hlen hnc h w hm).mono ?_⟩
 rintro e w' ⟨r, m', rfl, hm', A, hA, y, hy, hfin⟩
 obtain ⟨hm'', hv, hx⟩ := finP_ok hfin hm' hm
 exact ⟨A.res y, A.out y, by rw [hv], hm'', hx, A, hA, y, hy, rfl, rfl⟩
end Go.Vx
namespace Go.Vx.Sc
open Go Go.Proofs
variable [Gl]
abbrev bnsE {c d : Codec} (v : List (Ent' c d)) : List Nat := v.map (·.2.2)
abbrev lftE {c d : Codec} (M v : List (Ent' c d)) : List (Ent' c d) := leftOf c d M (bnsE v)
abbrev VisE {c d : Codec} (M v : List (Ent' c d)) : Prop := (v ++ lftE M v).Perm M
section
variable {c d : Codec} {M : List (Ent' c d)} {clk : Nat}
theorem VisE.nil : VisE M [] := by
 show ([] ++ leftOf c d M []).Perm M
 unfold leftOf
 rw [List.nil_append, List.filter_eq_self.2 (fun e _ => by simp)]
theorem VisE.add (h : Births M clk) {v : List (Ent' c d)} (hv : VisE M v) {e : Ent' c d} (he : e ∈ M ∧ ¬ e.2.2 ∈ bnsE v) : VisE M (v ++ [e]) ∧ (lftE M (v ++ [e])).length < (lftE M v).length := by
 have hp := leftOf_perm he.1 he.2 h.nd
 have e1 : bnsE (v ++ [e]) = bnsE v ++ [e.2.2] := by simp
 have e2 : lftE M (v ++ [e]) = leftOf c d M (bnsE v ++ [e.2.2]) := congrArg (leftOf c d M) e1
 constructor
 · show (v ++ [e] ++ lftE M (v ++ [e])).Perm M
   rw [e2, List.append_assoc]
   exact ((List.Perm.append_left v hp.symm).trans hv)
 · rw [e2, hp.length_eq]; exact wi _
theorem VisE.done {v : List (Ent' c d)} (hv : VisE M v) (h : ∀ e ∈ M, e.2.2 ∈ bnsE v) : v.Perm M := by
 have : lftE M v = [] := by
  show leftOf c d M (bnsE v) = []
  unfold leftOf
  rw [List.filter_eq_nil_iff]
  intro e he
  simpa using h e he
 have hv' : (v ++ lftE M v).Perm M := hv
 rw [this, zk] at hv'
 exact hv'
theorem VisE.len {v : List (Ent' c d)} (hv : VisE M v) : v.length ≤ M.length := by
 have hv : (v ++ lftE M v).Perm M := hv
 rw [← hv.length_eq, List.length_append]; omega
theorem matE (h : Births M clk) {v : List Nat} {e : Ent' c d} (he : e ∈ M) : mat c d (lastS (v ++ [e.2.2])) M = e := by
 rw [lastS_add]; exact mat_of h.nd he
theorem entryE {v : List Nat} {e : Ent' c d} (he : e ∈ M) : v ++ [e.2.2] ≠ [] ∧ mhasS c d M (lastS (v ++ [e.2.2])) = true := by
 refine ⟨by simp, ?_⟩
 rw [lastS_add]; exact mhasS_of he
end
theorem by3 : Tryd.prog.types[3].bytes = 8 := by kernel_rfl
abbrev MpB := List (Int × Bool × Nat)
def KnB (M : MpB) (clk : Nat) : Inv' C0 := ⟨1, MpB, fun _ => [], fun v m => match m with
 | bx :: mp :: bs :: it :: _ => [bx, mp, ⟨bs.block, bs.base, bs.sz, bs.wr, bs.gl, .one [.nils]⟩, ⟨it.block, it.base, it.sz, it.wr, it.gl, .it 1 (bnsE (c := C0 3) (d := C0 4) v) clk⟩]
 | m => m, fun v => VisE (c := C0 3) (d := C0 4) M v ∧ (v.map fun e => e.1) = [], fun v => (lftE (c := C0 3) (d := C0 4) M v).length⟩
def KyB (M : MpB) (clk : Nat) : Inv' C0 := ⟨1, MpB × Nat × Nat × List Int × Nat × Nat, fun _ => [], fun y m => match m with
 | bx :: mp :: bs :: it :: _ => [bx, mp, ⟨bs.block, bs.base, bs.sz, bs.wr, bs.gl, .one [.sl 4 0 y.2.2.2.2.1 y.2.2.2.2.2]⟩, ⟨it.block, it.base, it.sz, it.wr, it.gl, .it 1 (bnsE (c := C0 3) (d := C0 4) y.1) clk⟩, ⟨y.2.1, y.2.2.1, 1, true, none, .rows 3 y.2.2.2.1⟩]
 | m => m, fun y => VisE (c := C0 3) (d := C0 4) M y.1 ∧ Gth (y.1.map fun e => e.1) (true, y.2), fun y => (lftE (c := C0 3) (d := C0 4) M y.1).length⟩
noncomputable def itB (M : MpB) (clk : Nat) : It Tryd.prog C0 := ⟨96, Tryd.f96, _, ⟨[], [], 14, [], [], []⟩, [KnB M clk, KyB M clk], Tryd.func96, rfl, (by kernel_rfl), (by kernel_rfl)⟩
def KsB (M : MpB) (y : Sq Int) : Prop := ∃ A, A.Perm (M.map fun e => e.1) ∧ Gth A y
abbrev mpB (bx qx bm : Nat) (M : MpB) (clk : Nat) : List (Ck C0) := [⟨bx, qx, 1, false, none, .one [.mp 1]⟩, ⟨bm, 0, 0, false, none, .mp 3 4 M clk⟩]
abbrev moB (bx qx bm : Nat) (M : MpB) (clk : Nat) (y : Sq Int) : List (Ck C0) := mpB bx qx bm M clk ++ [⟨y.2.1, y.2.2.1, 1, true, some y.1, .rows 3 y.2.2.2.1⟩]
set_option maxHeartbeats 4000000 in
theorem appB_ok (bx qx bm : Nat) (M : MpB) (clk : Nat) (h : Births (c := C0 3) (d := C0 4) M clk) (hl : M.length < 1000000000) :
 Does (C := C0) Tryd.prog (.fn 105) (mpB bx qx bm M clk) [.nils, .fn (.func 96) [] [.ptr 0 0 0]]
  [⟨Sq Int, fun y => KsB M y, fun y => .sl 2 0 y.2.2.2.2.1 y.2.2.2.2.2, fun y => moB bx qx bm M clk y⟩] := by
 refine loc_fnR (P := Tryd.prog) (E := ⟨[], [], 13, [], [], []⟩) (L := []) mix [itB M clk] Tryd.func105 rfl (by kernel_rfl) (by kernel_rfl) rfl rfl ?_
 ((conv => arg 1; reduce); with_reducible repeat' first | exact ty | refine ta ?_ ?_ | refine ti fun _ => ?_ | refine tf fun _ => ?_ | refine tl ?_)
 all_goals try exact vlk
 · rename_i b1 b2 b3
   refine Stands.one ([] : MpB) ⟨⟨VisE.nil, rfl⟩, ?_⟩
   ((conv => arg 1; reduce); with_reducible repeat' first | exact ty | refine ta ?_ ?_ | refine ti fun _ => ?_ | refine tf fun _ => ?_ | refine tl ?_)
   all_goals first | exact vlk | (simp; done)
 · exact ⟨rfl, rfl, h.old⟩
 · rename_i b1 b2 b3 y hy hd
   change MpB at y
   obtain ⟨hv, hG⟩ := hy
   have hp : (y.map fun e => e.1).Perm (M.map fun e => e.1) := (hv.done hd).map fun e => e.1
   have hG : (y.map fun e => e.1) = [] := hG
   rw [hG] at hp
   refine Ends.one ((false, 0, 0, [], 0, 0) : Sq Int) ⟨_, hp, Gth.nil⟩ ?_
   exact vgk
 · rename_i b1 b2 b3 y hy e he
   exact ⟨rfl, rfl, entryE (c := C0 3) (d := C0 4) he.1⟩
 · rw [by3]
   exact ⟨zy 1, by decide⟩
 · rename_i b1 b2 b3 y hy e he b4 b5 sp
   change MpB at y
   obtain ⟨hv, hG⟩ := hy
   obtain ⟨k1, k2⟩ := hv.add h he
   have hm := matE (v := bnsE (c := C0 3) (d := C0 4) y) h he.1
   change List Int at sp
   refine Stands.next (Stands.one ((y ++ [e], (b5, 0, e.1 :: sp, 1, 1 + sp.length)) : MpB × Nat × Nat × List Int × Nat × Nat) ⟨⟨k1, ?_⟩, k2, ?_⟩)
   · show Gth ((y ++ [e]).map fun e => e.1) _
     rw [yy, hG]
     exact ⟨rfl, rfl, by show 1 ≤ 1 + sp.length; omega, by show 1 + sp.length ≤ (e.1 :: sp).length; rw [xz]; omega, fun h => by cases h⟩
   ((conv => arg 1; reduce); with_reducible repeat' first | exact ty | refine ta ?_ ?_ | refine ti fun _ => ?_ | refine tf fun _ => ?_ | refine tl ?_)
   all_goals first | exact vlk | (rw [hm]; rfl) | (simp; done)
 · exact ⟨rfl, rfl, h.old⟩
 · rename_i b1 b2 b3 y hy hd
   refine Ends.one ((true, y.2) : Sq Int) ⟨_, (hy.1.done hd).map fun e => e.1, hy.2⟩ ?_
   exact vgk
 · rename_i b1 b2 b3 y hy e he
   exact ⟨rfl, rfl, entryE (c := C0 3) (d := C0 4) he.1⟩
 · rename_i b1 b2 b3 y hy e he b4
   obtain ⟨v, b', q', l', n', c'⟩ := y
   obtain ⟨hv, g1, g2, g3, g4, g5⟩ := hy
   have g2 : (v.map fun e => e.1).length = n' := g2
   have g3 : n' ≤ c' := g3
   have g4 : c' ≤ l'.length := g4
   have g6 : v.length ≤ M.length := VisE.len (c := C0 3) (d := C0 4) hv
   have g2 : v.length = n' := by rw [← g2, zt]
   rw [by3]
   exact ⟨g3, by show 0 + c' ≤ l'.length; omega, zy 1, by show (n' + 1) * 8 ≤ _; omega⟩
 · rename_i b1 b2 b3 y hy e he b4 b5 b6 sp cap h1 h2
   obtain ⟨v, b', q', l', n', c'⟩ := y
   obtain ⟨hv, hG⟩ := hy
   obtain ⟨k1, k2⟩ := hv.add h he
   have hm := matE (v := bnsE (c := C0 3) (d := C0 4) v) h he.1
   change List Int at sp
   refine Stands.next (Stands.one ((v ++ [e], (b5, b6, l'.take n' ++ [e.1] ++ sp, n' + 1, cap)) : MpB × Nat × Nat × List Int × Nat × Nat) ⟨⟨k1, ?_⟩, k2, ?_⟩)
   · show Gth ((v ++ [e]).map fun e => e.1) _
     rw [yy]
     exact hG.snoc h1 h2
   ((conv => arg 1; reduce); with_reducible repeat' first | exact ty | refine ta ?_ ?_ | refine ti fun _ => ?_ | refine tf fun _ => ?_ | refine tl ?_)
   all_goals first | exact vlk | (rw [hm]; rfl) | (simp; done)
noncomputable def fcAppB : Fc Tryd.prog C0 where
 tg := .fn 105
 X := Nat × Nat × Nat × MpB × Nat
 args := fun (bx, qx, bm, M, clk) => [.nils, .fn (.func 96) [] [.ptr 0 0 0]]
 mem := fun (bx, qx, bm, M, clk) => mpB bx qx bm M clk
 pre := fun (bx, qx, bm, M, clk) => Births (c := C0 3) (d := C0 4) M clk ∧ M.length < 1000000000
 alts := fun (bx, qx, bm, M, clk) => [⟨Sq Int, fun y => KsB M y, fun y => .sl 2 0 y.2.2.2.2.1 y.2.2.2.2.2, fun y => moB bx qx bm M clk y⟩]
 mat vs m := match vs with
  | [.nils, .fn (.func 96) _ [.ptr p _ _]] => match nth m p with
    | ⟨bx, qx, _, _, _, .one [.mp w]⟩ => match nth m w with
      | ⟨bm, _, _, _, _, .mp 3 4 M clk⟩ => some ((bx, qx, bm, M, clk), [p, w])
      | _ => none
    | _ => none
  | _ => none
 ok := fun (bx, qx, bm, M, clk) h => appB_ok bx qx bm M clk h.1 h.2
set_option maxHeartbeats 4000000 in
theorem collB_ok (bx qx bm : Nat) (M : MpB) (clk : Nat) (h : Births (c := C0 3) (d := C0 4) M clk) (hl : M.length < 1000000000) :
 Does (C := C0) Tryd.prog (.fn 94) (mpB bx qx bm M clk) [.fn (.func 96) [] [.ptr 0 0 0]]
  [⟨Sq Int, fun y => KsB M y, fun y => .sl 2 0 y.2.2.2.2.1 y.2.2.2.2.2, fun y => moB bx qx bm M clk y⟩] := by
 refine loc_fn (P := Tryd.prog) (E := ⟨[fcAppB], [], 5, [], [], []⟩) (L := []) mix Tryd.func94 rfl (by kernel_rfl) (by kernel_rfl) rfl rfl ?_
 ((conv => arg 1; reduce); with_reducible repeat' first | exact ty | refine ta ?_ ?_ | refine ti fun _ => ?_ | refine tf fun _ => ?_ | refine tl ?_)
 all_goals try exact vlk
 · exact ⟨h, hl⟩
 · rename_i y hy
   refine Ends.one (y : Sq Int) hy ?_
   exact vgk
noncomputable def fcCollB : Fc Tryd.prog C0 where
 tg := .fn 94
 X := Nat × Nat × Nat × MpB × Nat
 args := fun (bx, qx, bm, M, clk) => [.fn (.func 96) [] [.ptr 0 0 0]]
 mem := fun (bx, qx, bm, M, clk) => mpB bx qx bm M clk
 pre := fun (bx, qx, bm, M, clk) => Births (c := C0 3) (d := C0 4) M clk ∧ M.length < 1000000000
 alts := fun (bx, qx, bm, M, clk) => [⟨Sq Int, fun y => KsB M y, fun y => .sl 2 0 y.2.2.2.2.1 y.2.2.2.2.2, fun y => moB bx qx bm M clk y⟩]
 mat vs m := match vs with
  | [.fn (.func 96) _ [.ptr p _ _]] => match nth m p with
    | ⟨bx, qx, _, _, _, .one [.mp w]⟩ => match nth m w with
      | ⟨bm, _, _, _, _, .mp 3 4 M clk⟩ => some ((bx, qx, bm, M, clk), [p, w])
      | _ => none
    | _ => none
  | _ => none
 ok := fun (bx, qx, bm, M, clk) h => collB_ok bx qx bm M clk h.1 h.2
abbrev MpG := List (Int × Rw Pg × Nat)
def KnG (M : MpG) (clk : Nat) : Inv' C0 := ⟨1, MpG, fun _ => [], fun v m => match m with
 | bx :: mp :: bs :: it :: _ => [bx, mp, ⟨bs.block, bs.base, bs.sz, bs.wr, bs.gl, .one [.nils]⟩, ⟨it.block, it.base, it.sz, it.wr, it.gl, .it 1 (bnsE (c := C0 3) (d := C0 63) v) clk⟩]
 | m => m, fun v => VisE (c := C0 3) (d := C0 63) M v ∧ (v.map fun e => e.1) = [], fun v => (lftE (c := C0 3) (d := C0 63) M v).length⟩
def KyG (M : MpG) (clk : Nat) : Inv' C0 := ⟨1, MpG × Nat × Nat × List Int × Nat × Nat, fun _ => [], fun y m => match m with
 | bx :: mp :: bs :: it :: _ => [bx, mp, ⟨bs.block, bs.base, bs.sz, bs.wr, bs.gl, .one [.sl 4 0 y.2.2.2.2.1 y.2.2.2.2.2]⟩, ⟨it.block, it.base, it.sz, it.wr, it.gl, .it 1 (bnsE (c := C0 3) (d := C0 63) y.1) clk⟩, ⟨y.2.1, y.2.2.1, 1, true, none, .rows 3 y.2.2.2.1⟩]
 | m => m, fun y => VisE (c := C0 3) (d := C0 63) M y.1 ∧ Gth (y.1.map fun e => e.1) (true, y.2), fun y => (lftE (c := C0 3) (d := C0 63) M y.1).length⟩
noncomputable def itG (M : MpG) (clk : Nat) : It Tryd.prog C0 := ⟨97, Tryd.f97, _, ⟨[], [], 14, [], [], []⟩, [KnG M clk, KyG M clk], Tryd.func97, rfl, (by kernel_rfl), (by kernel_rfl)⟩
def KsG (M : MpG) (y : Sq Int) : Prop := ∃ A, A.Perm (M.map fun e => e.1) ∧ Gth A y
abbrev mpG (bx qx bm : Nat) (M : MpG) (clk : Nat) : List (Ck C0) := [⟨bx, qx, 1, false, none, .one [.mp 1]⟩, ⟨bm, 0, 0, false, none, .mp 3 63 M clk⟩]
abbrev moG (bx qx bm : Nat) (M : MpG) (clk : Nat) (y : Sq Int) : List (Ck C0) := mpG bx qx bm M clk ++ [⟨y.2.1, y.2.2.1, 1, true, some y.1, .rows 3 y.2.2.2.1⟩]
set_option maxHeartbeats 4000000 in
theorem appG_ok (bx qx bm : Nat) (M : MpG) (clk : Nat) (h : Births (c := C0 3) (d := C0 63) M clk) (hl : M.length < 1000000000) :
 Does (C := C0) Tryd.prog (.fn 105) (mpG bx qx bm M clk) [.nils, .fn (.func 97) [] [.ptr 0 0 0]]
  [⟨Sq Int, fun y => KsG M y, fun y => .sl 2 0 y.2.2.2.2.1 y.2.2.2.2.2, fun y => moG bx qx bm M clk y⟩] := by
 refine loc_fnR (P := Tryd.prog) (E := ⟨[], [], 13, [], [], []⟩) (L := []) mix [itG M clk] Tryd.func105 rfl (by kernel_rfl) (by kernel_rfl) rfl rfl ?_
 ((conv => arg 1; reduce); with_reducible repeat' first | exact ty | refine ta ?_ ?_ | refine ti fun _ => ?_ | refine tf fun _ => ?_ | refine tl ?_)
 all_goals try exact vlk
 · rename_i b1 b2 b3
   refine Stands.one ([] : MpG) ⟨⟨VisE.nil, rfl⟩, ?_⟩
   ((conv => arg 1; reduce); with_reducible repeat' first | exact ty | refine ta ?_ ?_ | refine ti fun _ => ?_ | refine tf fun _ => ?_ | refine tl ?_)
   all_goals first | exact vlk | (simp; done)
 · exact ⟨rfl, rfl, h.old⟩
 · rename_i b1 b2 b3 y hy hd
   change MpG at y
   obtain ⟨hv, hG⟩ := hy
   have hp : (y.map fun e => e.1).Perm (M.map fun e => e.1) := (hv.done hd).map fun e => e.1
   have hG : (y.map fun e => e.1) = [] := hG
   rw [hG] at hp
   refine Ends.one ((false, 0, 0, [], 0, 0) : Sq Int) ⟨_, hp, Gth.nil⟩ ?_
   exact vgk
 · rename_i b1 b2 b3 y hy e he
   exact ⟨rfl, rfl, entryE (c := C0 3) (d := C0 63) he.1⟩
 · rw [by3]
   exact ⟨zy 1, by decide⟩
 · rename_i b1 b2 b3 y hy e he b4 b5 sp
   change MpG at y
   obtain ⟨hv, hG⟩ := hy
   obtain ⟨k1, k2⟩ := hv.add h he
   have hm := matE (v := bnsE (c := C0 3) (d := C0 63) y) h he.1
   change List Int at sp
   refine Stands.next (Stands.one ((y ++ [e], (b5, 0, e.1 :: sp, 1, 1 + sp.length)) : MpG × Nat × Nat × List Int × Nat × Nat) ⟨⟨k1, ?_⟩, k2, ?_⟩)
   · show Gth ((y ++ [e]).map fun e => e.1) _
     rw [yy, hG]
     exact ⟨rfl, rfl, by show 1 ≤ 1 + sp.length; omega, by show 1 + sp.length ≤ (e.1 :: sp).length; rw [xz]; omega, fun h => by cases h⟩
   ((conv => arg 1; reduce); with_reducible repeat' first | exact ty | refine ta ?_ ?_ | refine ti fun _ => ?_ | refine tf fun _ => ?_ | refine tl ?_)
   all_goals first | exact vlk | (rw [hm]; rfl) | (simp; done)
 · exact ⟨rfl, rfl, h.old⟩
 · rename_i b1 b2 b3 y hy hd
   refine Ends.one ((true, y.2) : Sq Int) ⟨_, (hy.1.done hd).map fun e => e.1, hy.2⟩ ?_
   exact vgk
 · rename_i b1 b2 b3 y hy e he
   exact ⟨rfl, rfl, entryE (c := C0 3) (d := C0 63) he.1⟩
 · rename_i b1 b2 b3 y hy e he b4
   obtain ⟨v, b', q', l', n', c'⟩ := y
   obtain ⟨hv, g1, g2, g3, g4, g5⟩ := hy
   have g2 : (v.map fun e => e.1).length = n' := g2
   have g3 : n' ≤ c' := g3
   have g4 : c' ≤ l'.length := g4
   have g6 : v.length ≤ M.length := VisE.len (c := C0 3) (d := C0 63) hv
   have g2 : v.length = n' := by rw [← g2, zt]
   rw [by3]
   exact ⟨g3, by show 0 + c' ≤ l'.length; omega, zy 1, by show (n' + 1) * 8 ≤ _; omega⟩
 · rename_i b1 b2 b3 y hy e he b4 b5 b6 sp cap h1 h2
   obtain ⟨v, b', q', l', n', c'⟩ := y
   obtain ⟨hv, hG⟩ := hy
   obtain ⟨k1, k2⟩ := hv.add h he
   have hm := matE (v := bnsE (c := C0 3) (d := C0 63) v) h he.1
   change List Int at sp
   refine Stands.next (Stands.one ((v ++ [e], (b5, b6, l'.take n' ++ [e.1] ++ sp, n' + 1, cap)) : MpG × Nat × Nat × List Int × Nat × Nat) ⟨⟨k1, ?_⟩, k2, ?_⟩)
   · show Gth ((v ++ [e]).map fun e => e.1) _
     rw [yy]
     exact hG.snoc h1 h2
   ((conv => arg 1; reduce); with_reducible repeat' first | exact ty | refine ta ?_ ?_ | refine ti fun _ => ?_ | refine tf fun _ => ?_ | refine tl ?_)
   all_goals first | exact vlk | (rw [hm]; rfl) | (simp; done)
noncomputable def fcAppG : Fc Tryd.prog C0 where
 tg := .fn 105
 X := Nat × Nat × Nat × MpG × Nat
 args := fun (bx, qx, bm, M, clk) => [.nils, .fn (.func 97) [] [.ptr 0 0 0]]
 mem := fun (bx, qx, bm, M, clk) => mpG bx qx bm M clk
 pre := fun (bx, qx, bm, M, clk) => Births (c := C0 3) (d := C0 63) M clk ∧ M.length < 1000000000
 alts := fun (bx, qx, bm, M, clk) => [⟨Sq Int, fun y => KsG M y, fun y => .sl 2 0 y.2.2.2.2.1 y.2.2.2.2.2, fun y => moG bx qx bm M clk y⟩]
 mat vs m := match vs with
  | [.nils, .fn (.func 97) _ [.ptr p _ _]] => match nth m p with
    | ⟨bx, qx, _, _, _, .one [.mp w]⟩ => match nth m w with
      | ⟨bm, _, _, _, _, .mp 3 63 M clk⟩ => some ((bx, qx, bm, M, clk), [p, w])
      | _ => none
    | _ => none
  | _ => none
 ok := fun (bx, qx, bm, M, clk) h => appG_ok bx qx bm M clk h.1 h.2
set_option maxHeartbeats 4000000 in
theorem collG_ok (bx qx bm : Nat) (M : MpG) (clk : Nat) (h : Births (c := C0 3) (d := C0 63) M clk) (hl : M.length < 1000000000) :
 Does (C := C0) Tryd.prog (.fn 94) (mpG bx qx bm M clk) [.fn (.func 97) [] [.ptr 0 0 0]]
  [⟨Sq Int, fun y => KsG M y, fun y => .sl 2 0 y.2.2.2.2.1 y.2.2.2.2.2, fun y => moG bx qx bm M clk y⟩] := by
 refine loc_fn (P := Tryd.prog) (E := ⟨[fcAppG], [], 5, [], [], []⟩) (L := []) mix Tryd.func94 rfl (by kernel_rfl) (by kernel_rfl) rfl rfl ?_
 ((conv => arg 1; reduce); with_reducible repeat' first | exact ty | refine ta ?_ ?_ | refine ti fun _ => ?_ | refine tf fun _ => ?_ | refine tl ?_)
 all_goals try exact vlk
 · exact ⟨h, hl⟩
 · rename_i y hy
   refine Ends.one (y : Sq Int) hy ?_
   exact vgk
noncomputable def fcCollG : Fc Tryd.prog C0 where
 tg := .fn 94
 X := Nat × Nat × Nat × MpG × Nat
 args := fun (bx, qx, bm, M, clk) => [.fn (.func 97) [] [.ptr 0 0 0]]
 mem := fun (bx, qx, bm, M, clk) => mpG bx qx bm M clk
 pre := fun (bx, qx, bm, M, clk) => Births (c := C0 3) (d := C0 63) M clk ∧ M.length < 1000000000
 alts := fun (bx, qx, bm, M, clk) => [⟨Sq Int, fun y => KsG M y, fun y => .sl 2 0 y.2.2.2.2.1 y.2.2.2.2.2, fun y => moG bx qx bm M clk y⟩]
 mat vs m := match vs with
  | [.fn (.func 97) _ [.ptr p _ _]] => match nth m p with
    | ⟨bx, qx, _, _, _, .one [.mp w]⟩ => match nth m w with
      | ⟨bm, _, _, _, _, .mp 3 63 M clk⟩ => some ((bx, qx, bm, M, clk), [p, w])
      | _ => none
    | _ => none
  | _ => none
 ok := fun (bx, qx, bm, M, clk) h => collG_ok bx qx bm M clk h.1 h.2
abbrev MpS := List (Int × Slot × Nat)
def KsS (M : MpS) (y : Sq Int) : Prop := ∃ A, A.Perm (M.map fun e => e.1) ∧ Gth A y
end Go.Vx.Sc
namespace Go.Vx.Sc
open Go Go.Proofs
variable [Gl]
section
variable {d : Codec}
theorem mput_keys (k : Int) (x : d.α) (clk : Nat) : ∀ (M : List (Ent' (C0 3) d)), (mputGo (C0 3) d k x clk M).map (fun e => (e.1 : Int)) = if k ∈ M.map (fun e => (e.1 : Int)) then M.map (fun e => (e.1 : Int)) else M.map (fun e => (e.1 : Int)) ++ [k]
 | [] => rfl
 | e :: r => by
   simp only [mputGo]
   have hb : (C0 3).beq k e.1 = decide (k = (e.1 : Int)) := rfl
   rw [hb]
   by_cases h : k = (e.1 : Int)
   · rw [decide_eq_true h]
     simp only [ym]
     rw [if_pos (by rw [← h]; exact xj ..), h]
   · rw [decide_eq_false h]
     simp only [ym]
     rw [mput_keys k x clk r]
     by_cases h2 : k ∈ r.map (fun e => (e.1 : Int))
     · rw [if_pos h2, if_pos (zg _ h2)]
     · rw [if_neg h2, if_neg (by rw [we]; rintro (h3 | h3); exact h h3; exact h2 h3)]
       rfl
theorem mput_ent {k : Int} {x : d.α} {clk : Nat} : ∀ {M : List (Ent' (C0 3) d)}, (M.map (fun e => (e.1 : Int))).Nodup → ∀ {e : Ent' (C0 3) d}, e ∈ mputGo (C0 3) d k x clk M → ((e.1 : Int) = k ∧ e.2.1 = x) ∨ ((e.1 : Int) ≠ k ∧ e ∈ M)
 | [], _, e, h => by
   rw [List.mem_singleton.1 h]; exact .inl ⟨rfl, rfl⟩
 | y :: r, hn, e, h => by
   simp only [ym, us] at hn
   simp only [mputGo] at h
   have hb : (C0 3).beq k y.1 = decide (k = (y.1 : Int)) := rfl
   rw [hb] at h
   by_cases hk : k = (y.1 : Int)
   · rw [decide_eq_true hk] at h
     rcases List.mem_cons.1 h with rfl | h
     · exact .inl ⟨rfl, rfl⟩
     · exact .inr ⟨fun e' => hn.1 (by rw [← hk, ← e']; exact List.mem_map.2 ⟨e, h, rfl⟩), zg _ h⟩
   · rw [decide_eq_false hk] at h
     rcases List.mem_cons.1 h with rfl | h
     · exact .inr ⟨fun e' => hk e'.symm, xj ..⟩
     · rcases mput_ent hn.2 h with h | ⟨h1, h2⟩
       · exact .inl h
       · exact .inr ⟨h1, zg _ h2⟩
theorem mhas_keys (M : List (Ent' (C0 3) d)) (k : Int) : mhas (C0 3) d M k = decide (k ∈ M.map (fun e => (e.1 : Int))) := by
 rw [mhas_any]
 induction M with
 | nil => rfl
 | cons e r ih =>
   simp only [py, ih]
   have hb : (C0 3).beq k e.1 = decide (k = (e.1 : Int)) := rfl
   rw [hb]
   simp only [ym, we, Bool.decide_or]
theorem mput_born {k : Int} {x : d.α} {clk : Nat} {M : List (Ent' (C0 3) d)} (h : Births M clk) : Births (mput (C0 3) d M k x clk) (mclk (C0 3) d M k clk) := by
 cases hh : mhas (C0 3) d M k with
 | false =>
   rw [mput_new hh, mclk_new hh]
   exact h.add k x
 | true =>
   have e1 : mclk (C0 3) d M k clk = clk := by unfold mclk; rw [hh]; rfl
   rw [e1]
   have key : ∀ (M : List (Ent' (C0 3) d)), mhas (C0 3) d M k = true → (mputGo (C0 3) d k x clk M).map (·.2.2) = M.map (·.2.2) := by
    intro M
    induction M with
    | nil => intro h; cases h
    | cons e r ih =>
      intro hm
      rw [mhas_any, py] at hm
      simp only [mputGo]
      cases hb : (C0 3).beq k e.1 with
      | true => rfl
      | false =>
        rw [hb, Bool.false_or, ← mhas_any] at hm
        simp only [ym, ih hm]
   have e2 := key M hh
   refine ⟨by unfold mput; rw [e2]; exact h.nd, fun e he => ?_⟩
   have : e.2.2 ∈ (mput (C0 3) d M k x clk).map (·.2.2) := List.mem_map.2 ⟨e, he, rfl⟩
   unfold mput at this
   rw [e2] at this
   obtain ⟨e', he', h'⟩ := List.mem_map.1 this
   rw [← h']; exact h.old e' he'
theorem mget_ent {M : List (Ent' (C0 3) d)} {k : Int} (h : k ∈ M.map (fun e => (e.1 : Int))) : ∃ e ∈ M, (e.1 : Int) = k ∧ mget (C0 3) d M k = e.2.1 := by
 rw [mget_find]
 induction M with
 | nil => cases h
 | cons e r ih =>
   simp only [qo]
   have hb : (C0 3).beq k e.1 = decide (k = (e.1 : Int)) := rfl
   rw [hb]
   by_cases hk : k = (e.1 : Int)
   · rw [decide_eq_true hk]
     exact ⟨e, xj .., hk.symm, rfl⟩
   · rw [decide_eq_false hk]
     rcases List.mem_cons.1 h with h | h
     · exact absurd h hk
     · obtain ⟨e', h1, h2⟩ := ih h
       exact ⟨e', zg _ h1, h2⟩
theorem mget_no {M : List (Ent' (C0 3) d)} {k : Int} (h : k ∉ M.map (fun e => (e.1 : Int))) : mget (C0 3) d M k = d.dflt := by
 have := mhas_keys M k
 rw [decide_eq_false h] at this
 unfold mhas at this
 unfold mget
 cases hm : mfix (C0 3) d k M 0 with
 | none => rfl
 | some p => rw [hm] at this; cases this
structure MKeys (M : List (Ent' (C0 3) d)) (clk : Nat) (S : List Int) : Prop where
 born : Births M clk
 nd : (M.map (fun e => (e.1 : Int))).Nodup
 mem : ∀ k, k ∈ M.map (fun e => (e.1 : Int)) ↔ k ∈ S
theorem MKeys.nil : MKeys ([] : List (Ent' (C0 3) d)) 0 [] := ⟨Births.nil 0, List.nodup_nil, fun _ => Iff.rfl⟩
theorem MKeys.put {M : List (Ent' (C0 3) d)} {clk : Nat} {S : List Int} (h : MKeys M clk S) (k : Int) (x : d.α) : MKeys (mput (C0 3) d M k x clk) (mclk (C0 3) d M k clk) (S ++ [k]) := by
 have e : (mput (C0 3) d M k x clk).map (fun e => (e.1 : Int)) = _ := mput_keys k x clk M
 refine ⟨mput_born h.born, ?_, fun j => ?_⟩
 · rw [e]
   split
   · exact h.nd
   · rename_i hk
     rw [pd]
     exact ⟨h.nd, by simp, fun a ha b hb e' => hk (by rw [ux] at hb; rw [← hb, ← e']; exact ha)⟩
 · rw [e]
   split
   · rename_i hk
     rw [h.mem, wj, ux]
     refine ⟨.inl, fun hj => hj.elim id fun hj => ?_⟩
     rw [hj]; exact (h.mem k).1 hk
   · rw [wj, wj, h.mem]
theorem MKeys.len {M : List (Ent' (C0 3) d)} {clk : Nat} {S : List Int} (h : MKeys M clk S) : M.length ≤ S.length := by
 have : ∀ (A B : List Int), A.Nodup → (∀ x ∈ A, x ∈ B) → A.length ≤ B.length := by
  intro A
  induction A with
  | nil => intro B _ _; exact zn _
  | cons a r ih =>
    intro B hn hs
    rw [us] at hn
    have hb := hs a (by simp)
    have := ih (B.erase a) hn.2 fun x hx => (List.mem_erase_of_ne (fun e => hn.1 (by rw [← e]; exact hx))).2 (hs x (by simp [hx]))
    rw [List.length_erase_of_mem hb] at this
    have := List.length_pos_of_mem hb
    simp only [xz]; omega
 have := this _ S h.nd fun k hk => (h.mem k).1 hk
 rwa [zt] at this
end
structure MSet (M : MpB) (clk : Nat) (S : List Int) : Prop where
 keys : MKeys (d := C0 4) M clk S
 val : ∀ e ∈ M, e.2.1 = true
theorem MSet.nil : MSet [] 0 [] := ⟨MKeys.nil, fun e he => by cases he⟩
theorem MSet.put {M : MpB} {clk : Nat} {S : List Int} (h : MSet M clk S) (k : Int) : MSet (mput (C0 3) (C0 4) M k true clk) (mclk (C0 3) (C0 4) M k clk) (S ++ [k]) := by
 refine ⟨h.keys.put k true, fun e he => ?_⟩
 rcases mput_ent h.keys.nd he with ⟨_, h2⟩ | ⟨_, h2⟩
 · exact h2
 · exact h.val e h2
theorem MSet.get {M : MpB} {clk : Nat} {S : List Int} (h : MSet M clk S) (k : Int) : mgetB M k = decide (k ∈ S) := by
 by_cases hk : k ∈ S
 · rw [decide_eq_true hk]
   obtain ⟨e, h1, _, h3⟩ := mget_ent (d := C0 4) ((h.keys.mem k).2 hk)
   show mget (C0 3) (C0 4) M k = true
   rw [h3]; exact h.val e h1
 · rw [decide_eq_false hk]
   exact mget_no (d := C0 4) fun hm => hk ((h.keys.mem k).1 hm)
abbrev Rise (A : List Int) : Prop := A.Pairwise (· < ·)
theorem rise_one : ∀ {A B : List Int}, Rise A → Rise B → (∀ k, k ∈ A ↔ k ∈ B) → A = B
 | [], [], _, _, _ => rfl
 | [], b :: B, _, _, h => by have := (h b).2 (by simp); cases this
 | a :: A, [], _, _, h => by have := (h a).1 (by simp); cases this
 | a :: A, b :: B, hA, hB, h => by
   unfold Rise at hA hB
   rw [List.pairwise_cons] at hA hB
   have e : a = b := by
    rcases List.mem_cons.1 ((h a).1 (by simp)) with h1 | h1
    · exact h1
    · rcases List.mem_cons.1 ((h b).2 (by simp)) with h2 | h2
      · exact h2.symm
      · have := hB.1 a h1
        have := hA.1 b h2
        omega
   subst e
   rw [rise_one hA.2 hB.2 fun k => ?_]
   have := h k
   simp only [we] at this
   refine ⟨fun hk => ?_, fun hk => ?_⟩
   · rcases this.1 (.inr hk) with h1 | h1
     · have := hA.1 k hk; omega
     · exact h1
   · rcases this.2 (.inr hk) with h1 | h1
     · have := hB.1 k hk; omega
     · exact h1
def upTo (n : Nat) : List Int := (List.range n).map Int.ofNat
theorem mem_upTo {n : Nat} {k : Int} : k ∈ upTo n ↔ 0 ≤ k ∧ k < (n : Int) := by
 unfold upTo
 rw [List.mem_map]
 constructor
 · rintro ⟨a, h1, rfl⟩
   have := List.mem_range.1 h1
   exact ⟨Int.natCast_nonneg a, by show (a : Int) < n; omega⟩
 · rintro ⟨h1, h2⟩
   exact ⟨k.toNat, List.mem_range.2 (by omega), Int.toNat_of_nonneg h1⟩
theorem rise_upTo (n : Nat) : Rise (upTo n) := by
 unfold upTo
 rw [Rise, List.pairwise_map]
 exact (List.pairwise_lt_range (n := n)).imp fun h => Int.ofNat_lt.2 h
theorem Rise.filter {A : List Int} (h : Rise A) (f : Int → Bool) : Rise (A.filter f) := List.Pairwise.filter f h
end Go.Vx.Sc
