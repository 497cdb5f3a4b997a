/-
  Round 23: the point of bytes.
  Round 23: the chapter's examples.
  Round 23: what pieces of bytes are.
  Round 23: Pieces and Join, one way each.
  Round 23: PointPieces, way by way.
  Round 23: joining rows of which one is empty.
  Round 23: PointPieces, where a row is empty.
  Round 23: PointPieces, all ways.
  Rows of bytes that came in: az they lie, what they hold, how long they can be.
  Conditions: none.
-/
import Derived.Test.YtmdnpfocihfkdaaDoorM5
import Derived.Test.YtmdnpfocihfkdaaDoorM6
import Derived.Test.YtmdnpfocihfkdaaDoorM7
import Derived.Deep.Matrix
set_option linter.unusedSectionVars false
set_option maxRecDepth 100000
set_option linter.unusedVariables false
set_option linter.unusedSimpArgs false
namespace Go.Vx
open Go Go.Proofs
variable [Gl]

abbrev rdE (s : Rs) (k : Nat) : List SV := [.sl k s.1 s.2.1 s.2.2.1, .bool (.tm s.2.2.2)]
def Op9 (R : List Int) (i n c : Nat) : Inv' C0 := ⟨9, Nat × Rs × Bool × Nat × Nat × List Pl × Nat, fun x => [(7, .int .i64 (R.getD 4 0 - (x.1 : Int)))], fun x m => match m with
  | [a, rs, e, r, p] => [a, rs, e, ⟨r.block, r.base, 2, true, none, .one (rdE x.2.1 0)⟩, ⟨p.block, p.base, 6, true, none, .one (hdE (hdR R) (.sl 5 0 x.1 x.2.2.2.2.2.2) .nils)⟩, ⟨x.2.2.2.1, x.2.2.2.2.1, 2, true, some x.2.2.1, .rows 87 x.2.2.2.2.2.1⟩]
  | m => m, fun x => x.1 ≤ nB R ∧ x.2.1 = rdr i n c (5 + 2 * x.1) ∧ Grw (blks R x.1) x.2.2.2.2.2.1 x.2.2.1 x.1 x.2.2.2.2.2.2, fun x => nB R - x.1⟩
def Op13 (R : List Int) (i n c : Nat) : Inv' C0 := ⟨13, Nat × Rs × Bool × Nat × Nat × List Slot × Nat, fun x => [(8, .int .i64 (R.getD (5 + 2 * nB R) 0 - (x.1 : Int)))], fun x m => match m with
  | [a, rs, e, r, p, bl] => match p.cells with
    | .one [_, _, _, _, sb, _] => [a, rs, e, ⟨r.block, r.base, 2, true, none, .one (rdE x.2.1 0)⟩, ⟨p.block, p.base, 6, true, none, .one (hdE (hdR R) sb (.sl 6 0 x.1 x.2.2.2.2.2.2))⟩, bl, ⟨x.2.2.2.1, x.2.2.2.2.1, 9, true, some x.2.2.1, .rows 88 x.2.2.2.2.2.1⟩]
    | _ => m
  | m => m, fun x => x.1 ≤ nS R ∧ x.2.1 = rdr i n c (6 + 2 * nB R + 9 * x.1) ∧ Grw (slts R x.1) x.2.2.2.2.2.1 x.2.2.1 x.1 x.2.2.2.2.2.2, fun x => nS R - x.1⟩
set_option maxHeartbeats 16000000 in
theorem open_ok (o : Bool) (b q : Nat) (l : List Int) (i n c : Nat) (h1 : n ≤ c) (h2 : i + c ≤ l.length) (h3 : n < 140737488355000) (ho : o = false → n = 0 ∧ c = 0) (hb : Bys ((l.drop i).take n)) (hn : n ≤ 1000000) :
    Does (C := C0) Tryd.prog (.fn 16) [⟨b, q, 1, false, some o, .rows 5 l⟩] [.sl 0 i n c]
    [⟨Unit, fun _ => ∀ h A B, ¬ IsPt ((l.drop i).take n) h A B, fun _ => .tup [ptv (0, 0, 0, 0) .nils .nils, eV 0], fun _ => [⟨b, q, 1, false, some o, .rows 5 l⟩]⟩,
     ⟨Hd × (Bool × Nat × Nat × List Pl × Nat × Nat) × (Bool × Nat × Nat × List Slot × Nat × Nat), fun y => IsPt ((l.drop i).take n) y.1 (y.2.1.2.2.2.1.take y.2.1.2.2.2.2.1) (y.2.2.2.2.2.1.take y.2.2.2.2.2.2.1) ∧ Sq.ok y.2.1 ∧ Sq.ok y.2.2,
      fun y => .tup [ptv y.1 (.sl 1 0 y.2.1.2.2.2.2.1 y.2.1.2.2.2.2.2) (.sl 2 0 y.2.2.2.2.2.2.1 y.2.2.2.2.2.2.2), .nili],
      fun y => [⟨b, q, 1, false, some o, .rows 5 l⟩, ⟨y.2.1.2.1, y.2.1.2.2.1, 2, true, some y.2.1.1, .rows 87 y.2.1.2.2.2.1⟩, ⟨y.2.2.2.1, y.2.2.2.2.1, 9, true, some y.2.2.1, .rows 88 y.2.2.2.2.2.1⟩]⟩] := by
  have hbl : ((l.drop i).take n).length = n := rows_len (by omega)
  have hRl : (nsOf ((l.drop i).take n)).length = (n - 4) / 4 := by rw [nsOf_len, hbl]
  refine loc_fn (P := Tryd.prog) (E := ⟨[fcGet], [pcPmay, pcCrc], 132, [(2, [], [.p 0, .p 1, .e 2, .p 3]), (5, [3], [.p 0, .p 2, .p 3, .p 4, .p 5, .e 1, .e 6, .p 7]), (6, [], [.p 0, .p 1, .e 2, .p 3]),
    (11, [4], [.p 0, .p 2, .p 4, .p 1, .e 3, .e 5, .p 6, .e 7, .e 8, .p 9, .f 10]), (19, [], [.p 0, .p 1, .e 2, .p 3])], [], []⟩) (L := [Op9 (nsOf ((l.drop i).take n)) i (n - 4) c, Op13 (nsOf ((l.drop i).take n)) i (n - 4) c]) mix Tryd.func16 rfl (by kernel_rfl) (by kernel_rfl) rfl rfl ?_
  ((conv => (arg 1; reduce)); with_reducible repeat' (first | exact Tr.yes_h | refine Tr.and_h ?_ ?_ | refine Tr.imp_h fun _ => ?_ | refine Tr.all_h fun _ => ?_ | refine Tr.lf_h ?_))
  all_goals try (first | first | (show Region.lexB _ _ = true; kernel_rfl) | (show planned _ _ = true; kernel_rfl) | exact rfl | exact True.intro | ((try dsimp only [imp, C0, cG, cInt, cPl, cSlot, cPg, rwCodec, cRaw] at *); (try refine inR64 ?_ ?_) <;> (try simp only [List.length_set, List.length_append, List.length_take, List.length_drop]) <;> omega))
  · rename_i b0 h4
    have h4 := of_decide_eq_true h4
    refine Ends.one () (fun h A B hp => ?_) ?_
    · have := (isPt_facts hp (by rw [hbl]; omega)).1
      rw [hbl] at this
      omega
    ((conv => (arg 1; reduce)); with_reducible repeat' (first | exact Tr.yes_h | refine Tr.and_h ?_ ?_ | refine Tr.imp_h fun _ => ?_ | refine Tr.all_h fun _ => ?_ | refine Tr.lf_h ?_))
    all_goals (first | first | (show Region.lexB _ _ = true; kernel_rfl) | (show planned _ _ = true; kernel_rfl) | exact rfl | exact True.intro | ((try dsimp only [imp, C0, cG, cInt, cPl, cSlot, cPg, rwCodec, cRaw] at *); (try refine inR64 ?_ ?_) <;> (try simp only [List.length_set, List.length_append, List.length_take, List.length_drop]) <;> omega))
  · rename_i b0 h4
    have h4 : 4 ≤ n := by have := of_decide_eq_false h4; omega
    have e4 : ((n : Int) - 4).toNat = n - 4 := by omega
    omega
  · rename_i b0 h4 be
    have h4 : 4 ≤ n := by have := of_decide_eq_false h4; omega
    have e4 : ((n : Int) - 4).toNat = n - 4 := by omega
    omega
  · rename_i b0 h4 be br
    have h4 : 4 ≤ n := by have := of_decide_eq_false h4; omega
    have e4 : ((n : Int) - 4).toNat = n - 4 := by omega
    rw [e4]
    exact end_pre h4 h1 h2 h3 (fun h => (ho h).2) hb
  · rename_i b0 h4 be br ye hye
    have h4 : 4 ≤ n := by have := of_decide_eq_false h4; omega
    have e4 : ((n : Int) - 4).toNat = n - 4 := by omega
    rw [e4]
    refine ⟨by show i + (n - 4) ≤ l.length; omega, by show n - 4 < 4611686018427387904; omega, fun h => ⟨by have := (ho h).1; omega, (ho h).2⟩⟩
  · rename_i b0 h4 be br ye hye h5
    have h4 : 4 ≤ n := by have := of_decide_eq_false h4; omega
    have e4 : ((n : Int) - 4).toNat = n - 4 := by omega
    have hye2 : ye.2 = nm ((l.drop i).take n) (((l.drop i).take n).length - 4) := by
      rw [e4] at hye
      rw [show ye = _ from hye]
      show gv l _ = _
      rw [hbl]
      exact end_get h4 h1 h2
    have hcr : (l.drop i).take (n - 4) = ((l.drop i).take n).take (((l.drop i).take n).length - 4) := by rw [hbl, List.take_take]; congr 1; omega
    have h5 : ¬ ye.2 = crc ((l.drop i).take ((n : Int) - 4).toNat) := of_decide_eq_true h5
    rw [e4, hcr, hye2] at h5
    refine Ends.one () (fun h A B hp => ?_) ?_
    · exact h5 (isPt_facts (bv := ((l.drop i).take n)) hp (by rw [hbl]; omega)).2.2.1
    ((conv => (arg 1; reduce)); with_reducible repeat' (first | exact Tr.yes_h | refine Tr.and_h ?_ ?_ | refine Tr.imp_h fun _ => ?_ | refine Tr.all_h fun _ => ?_ | refine Tr.lf_h ?_))
    all_goals (first | first | (show Region.lexB _ _ = true; kernel_rfl) | (show planned _ _ = true; kernel_rfl) | exact rfl | exact True.intro | ((try dsimp only [imp, C0, cG, cInt, cPl, cSlot, cPg, rwCodec, cRaw] at *); (try refine inR64 ?_ ?_) <;> (try simp only [List.length_set, List.length_append, List.length_take, List.length_drop]) <;> omega))
  · rename_i b0 h4 be br ye hye h5
    have h4 : 4 ≤ n := by have := of_decide_eq_false h4; omega
    have e4 : ((n : Int) - 4).toNat = n - 4 := by omega
    rw [e4]
    exact got_pre h4 h1 h2 h3 (fun h => (ho h).2) hb (s := (i, n - 4, c, false)) (rdr_zero i (n - 4) c).symm
  · rename_i b0 h4 be br ye hye h5 y1 hy1
    have h4 : 4 ≤ n := by have := of_decide_eq_false h4; omega
    have e4 : ((n : Int) - 4).toNat = n - 4 := by omega
    rw [e4] at hy1
    have g1 := got h4 h1 h2 (s := (i, n - 4, c, false)) (rdr_zero i (n - 4) c).symm hy1
    exact got_pre h4 h1 h2 h3 (fun h => (ho h).2) hb (s := y1.1) (congrArg Prod.fst g1)
  · rename_i b0 h4 be br ye hye h5 y1 hy1 y2 hy2
    have h4 : 4 ≤ n := by have := of_decide_eq_false h4; omega
    have e4 : ((n : Int) - 4).toNat = n - 4 := by omega
    rw [e4] at hy1
    have g1 := got h4 h1 h2 (s := (i, n - 4, c, false)) (rdr_zero i (n - 4) c).symm hy1
    have g2 := got h4 h1 h2 (s := y1.1) (congrArg Prod.fst g1) hy2
    exact got_pre h4 h1 h2 h3 (fun h => (ho h).2) hb (s := y2.1) (congrArg Prod.fst g2)
  · rename_i b0 h4 be br ye hye h5 y1 hy1 y2 hy2 y3 hy3
    have h4 : 4 ≤ n := by have := of_decide_eq_false h4; omega
    have e4 : ((n : Int) - 4).toNat = n - 4 := by omega
    rw [e4] at hy1
    have g1 := got h4 h1 h2 (s := (i, n - 4, c, false)) (rdr_zero i (n - 4) c).symm hy1
    have g2 := got h4 h1 h2 (s := y1.1) (congrArg Prod.fst g1) hy2
    have g3 := got h4 h1 h2 (s := y2.1) (congrArg Prod.fst g2) hy3
    exact got_pre h4 h1 h2 h3 (fun h => (ho h).2) hb (s := y3.1) (congrArg Prod.fst g3)
  · rename_i b0 h4 be br ye hye h5 y1 hy1 y2 hy2 y3 hy3 y4 hy4 bp
    have h4 : 4 ≤ n := by have := of_decide_eq_false h4; omega
    have e4 : ((n : Int) - 4).toNat = n - 4 := by omega
    rw [e4] at hy1
    have g1 := got h4 h1 h2 (s := (i, n - 4, c, false)) (rdr_zero i (n - 4) c).symm hy1
    have g2 := got h4 h1 h2 (s := y1.1) (congrArg Prod.fst g1) hy2
    have g3 := got h4 h1 h2 (s := y2.1) (congrArg Prod.fst g2) hy3
    have g4 := got h4 h1 h2 (s := y3.1) (congrArg Prod.fst g3) hy4
    exact got_pre h4 h1 h2 h3 (fun h => (ho h).2) hb (s := y4.1) (congrArg Prod.fst g4)
  · rename_i b0 h4 be br ye hye h5 y1 hy1 y2 hy2 y3 hy3 y4 hy4 bp y5 hy5
    have h4 : 4 ≤ n := by have := of_decide_eq_false h4; omega
    have e4 : ((n : Int) - 4).toNat = n - 4 := by omega
    rw [e4] at hy1
    have g1 := got h4 h1 h2 (s := (i, n - 4, c, false)) (rdr_zero i (n - 4) c).symm hy1
    have g2 := got h4 h1 h2 (s := y1.1) (congrArg Prod.fst g1) hy2
    have g3 := got h4 h1 h2 (s := y2.1) (congrArg Prod.fst g2) hy3
    have g4 := got h4 h1 h2 (s := y3.1) (congrArg Prod.fst g3) hy4
    have g5 := got h4 h1 h2 (s := y4.1) (congrArg Prod.fst g4) hy5
    subst g5 g4 g3 g2 g1
    refine Stands.one (0, rdr i (n - 4) c 5, false, 0, 0, [], 0) ⟨⟨Nat.zero_le _, rfl, ?_⟩, ?_⟩
    · rw [blks_zero]; exact ⟨rfl, rfl, Nat.le_refl _, Nat.le_refl _, fun _ => ⟨rfl, rfl⟩⟩
    ((conv => (arg 1; reduce)); with_reducible repeat' (first | exact Tr.yes_h | refine Tr.and_h ?_ ?_ | refine Tr.imp_h fun _ => ?_ | refine Tr.all_h fun _ => ?_ | refine Tr.lf_h ?_))
    all_goals first | (first | first | (show Region.lexB _ _ = true; kernel_rfl) | (show planned _ _ = true; kernel_rfl) | exact rfl | exact True.intro | ((try dsimp only [imp, C0, cG, cInt, cPl, cSlot, cPg, rwCodec, cRaw] at *); (try refine inR64 ?_ ?_) <;> (try simp only [List.length_set, List.length_append, List.length_take, List.length_drop]) <;> omega)) | (show (nsOf _).getD 4 0 = (nsOf _).getD 4 0 - ((0 : Nat) : Int); omega)
  · rename_i b0 h4 be br ye hye h5 y1 hy1 y2 hy2 y3 hy3 y4 hy4 bp y5 hy5 v hv h6
    have h4 : 4 ≤ n := by have := of_decide_eq_false h4; omega
    have e4 : ((n : Int) - 4).toNat = n - 4 := by omega
    obtain ⟨j, s, on, vb, vq, vl, vc⟩ := v
    obtain ⟨e1, e2, e3⟩ : j ≤ nB (nsOf ((l.drop i).take n)) ∧ s = rdr i (n - 4) c (5 + 2 * j) ∧ Grw (blks (nsOf ((l.drop i).take n)) j) vl on j vc := hv
    have h6 : (decide (0 < (nsOf ((l.drop i).take n)).getD 4 0 - (j : Int)) && !s.2.2.2) = true := h6
    rw [e2, rdr_bad, ← hRl] at h6
    simp only [Bool.and_eq_true, decide_eq_true_iff, Bool.not_eq_true', decide_eq_false_iff_not] at h6
    have hj := nB_lt h6.1 h6.2
    have hnb := nB_le (nsOf ((l.drop i).take n))
    exact got_pre h4 h1 h2 h3 (fun h => (ho h).2) hb (s := s) e2
  · rename_i b0 h4 be br ye hye h5 y1 hy1 y2 hy2 y3 hy3 y4 hy4 bp y5 hy5 v hv h6 z1 hz1
    have h4 : 4 ≤ n := by have := of_decide_eq_false h4; omega
    have e4 : ((n : Int) - 4).toNat = n - 4 := by omega
    obtain ⟨j, s, on, vb, vq, vl, vc⟩ := v
    obtain ⟨e1, e2, e3⟩ : j ≤ nB (nsOf ((l.drop i).take n)) ∧ s = rdr i (n - 4) c (5 + 2 * j) ∧ Grw (blks (nsOf ((l.drop i).take n)) j) vl on j vc := hv
    have h6 : (decide (0 < (nsOf ((l.drop i).take n)).getD 4 0 - (j : Int)) && !s.2.2.2) = true := h6
    rw [e2, rdr_bad, ← hRl] at h6
    simp only [Bool.and_eq_true, decide_eq_true_iff, Bool.not_eq_true', decide_eq_false_iff_not] at h6
    have hj := nB_lt h6.1 h6.2
    have hnb := nB_le (nsOf ((l.drop i).take n))
    have k1 := got h4 h1 h2 (s := s) e2 hz1
    exact got_pre h4 h1 h2 h3 (fun h => (ho h).2) hb (s := z1.1) (congrArg Prod.fst k1)
  · rename_i b0 h4 be br ye hye h5 y1 hy1 y2 hy2 y3 hy3 y4 hy4 bp y5 hy5 v hv h6 z1 hz1 z2 hz2 bk
    have h4 : 4 ≤ n := by have := of_decide_eq_false h4; omega
    have e4 : ((n : Int) - 4).toNat = n - 4 := by omega
    obtain ⟨j, s, on, vb, vq, vl, vc⟩ := v
    obtain ⟨e1, e2, e3⟩ : j ≤ nB (nsOf ((l.drop i).take n)) ∧ s = rdr i (n - 4) c (5 + 2 * j) ∧ Grw (blks (nsOf ((l.drop i).take n)) j) vl on j vc := hv
    have h6 : (decide (0 < (nsOf ((l.drop i).take n)).getD 4 0 - (j : Int)) && !s.2.2.2) = true := h6
    rw [e2, rdr_bad, ← hRl] at h6
    simp only [Bool.and_eq_true, decide_eq_true_iff, Bool.not_eq_true', decide_eq_false_iff_not] at h6
    have hj := nB_lt h6.1 h6.2
    have hnb := nB_le (nsOf ((l.drop i).take n))
    obtain ⟨f1, f2, f3, f4, f5⟩ := e3
    rw [by87]
    exact ⟨f3, by show 0 + vc ≤ vl.length; omega, Nat.le_refl 1, by show (j + 1) * 16 ≤ _; omega⟩
  · rename_i b0 h4 be br ye hye h5 y1 hy1 y2 hy2 y3 hy3 y4 hy4 bp y5 hy5 v hv h6 z1 hz1 z2 hz2 bk
    have h4 : 4 ≤ n := by have := of_decide_eq_false h4; omega
    have e4 : ((n : Int) - 4).toNat = n - 4 := by omega
    obtain ⟨j, s, on, vb, vq, vl, vc⟩ := v
    obtain ⟨e1, e2, e3⟩ : j ≤ nB (nsOf ((l.drop i).take n)) ∧ s = rdr i (n - 4) c (5 + 2 * j) ∧ Grw (blks (nsOf ((l.drop i).take n)) j) vl on j vc := hv
    have h6 : (decide (0 < (nsOf ((l.drop i).take n)).getD 4 0 - (j : Int)) && !s.2.2.2) = true := h6
    rw [e2, rdr_bad, ← hRl] at h6
    simp only [Bool.and_eq_true, decide_eq_true_iff, Bool.not_eq_true', decide_eq_false_iff_not] at h6
    have hj := nB_lt h6.1 h6.2
    have hnb := nB_le (nsOf ((l.drop i).take n))
    exact e3.2.2.2.2
  · rename_i b0 h4 be br ye hye h5 y1 hy1 y2 hy2 y3 hy3 y4 hy4 bp y5 hy5 v hv h6 z1 hz1 z2 hz2 bk b9 q9 sp cap m1 m2
    have h4 : 4 ≤ n := by have := of_decide_eq_false h4; omega
    have e4 : ((n : Int) - 4).toNat = n - 4 := by omega
    obtain ⟨j, s, on, vb, vq, vl, vc⟩ := v
    obtain ⟨e1, e2, e3⟩ : j ≤ nB (nsOf ((l.drop i).take n)) ∧ s = rdr i (n - 4) c (5 + 2 * j) ∧ Grw (blks (nsOf ((l.drop i).take n)) j) vl on j vc := hv
    have h6 : (decide (0 < (nsOf ((l.drop i).take n)).getD 4 0 - (j : Int)) && !s.2.2.2) = true := h6
    rw [e2, rdr_bad, ← hRl] at h6
    simp only [Bool.and_eq_true, decide_eq_true_iff, Bool.not_eq_true', decide_eq_false_iff_not] at h6
    have hj := nB_lt h6.1 h6.2
    have hnb := nB_le (nsOf ((l.drop i).take n))
    have hu := ns_u32 (bv := ((l.drop i).take n)) hb 4
    exact inR64 (by have := hu.1; show _ ≤ (nsOf ((l.drop i).take n)).getD 4 0 - (j : Int) - 1; omega) (by have := hu.2; show (nsOf ((l.drop i).take n)).getD 4 0 - (j : Int) - 1 ≤ _; omega)
  · rename_i b0 h4 be br ye hye h5 y1 hy1 y2 hy2 y3 hy3 y4 hy4 bp y5 hy5 v hv h6 z1 hz1 z2 hz2 bk b9 q9 sp cap m1 m2
    have h4 : 4 ≤ n := by have := of_decide_eq_false h4; omega
    have e4 : ((n : Int) - 4).toNat = n - 4 := by omega
    obtain ⟨j, s, on, vb, vq, vl, vc⟩ := v
    obtain ⟨e1, e2, e3⟩ : j ≤ nB (nsOf ((l.drop i).take n)) ∧ s = rdr i (n - 4) c (5 + 2 * j) ∧ Grw (blks (nsOf ((l.drop i).take n)) j) vl on j vc := hv
    have h6 : (decide (0 < (nsOf ((l.drop i).take n)).getD 4 0 - (j : Int)) && !s.2.2.2) = true := h6
    rw [e2, rdr_bad, ← hRl] at h6
    simp only [Bool.and_eq_true, decide_eq_true_iff, Bool.not_eq_true', decide_eq_false_iff_not] at h6
    have hj := nB_lt h6.1 h6.2
    have hnb := nB_le (nsOf ((l.drop i).take n))
    have k1 := got h4 h1 h2 (s := s) e2 hz1
    have k2 := got h4 h1 h2 (s := z1.1) (congrArg Prod.fst k1) hz2
    subst k2 k1 e2
    have e5 := e3.app (x := blkAt (nsOf ((l.drop i).take n)) j) (sp := sp) m1 m2
    rw [← blks_next] at e5
    refine Stands.one (j + 1, rdr i (n - 4) c (5 + 2 * j + 1 + 1), true, b9, q9, vl.take j ++ [blkAt (nsOf ((l.drop i).take n)) j] ++ sp, cap) ⟨⟨hj, rfl, e5⟩, ?_, ?_⟩
    · show nB (nsOf ((l.drop i).take n)) - (j + 1) < nB (nsOf ((l.drop i).take n)) - j
      omega
    ((conv => (arg 1; reduce)); with_reducible repeat' (first | exact Tr.yes_h | refine Tr.and_h ?_ ?_ | refine Tr.imp_h fun _ => ?_ | refine Tr.all_h fun _ => ?_ | refine Tr.lf_h ?_))
    all_goals (first | first | (show Region.lexB _ _ = true; kernel_rfl) | (show planned _ _ = true; kernel_rfl) | exact rfl | exact True.intro | ((try dsimp only [imp, C0, cG, cInt, cPl, cSlot, cPg, rwCodec, cRaw] at *); (try refine inR64 ?_ ?_) <;> (try simp only [List.length_set, List.length_append, List.length_take, List.length_drop]) <;> omega))
  · rename_i b0 h4 be br ye hye h5 y1 hy1 y2 hy2 y3 hy3 y4 hy4 bp y5 hy5 v hv h6
    have h4 : 4 ≤ n := by have := of_decide_eq_false h4; omega
    have e4 : ((n : Int) - 4).toNat = n - 4 := by omega
    obtain ⟨j, s, on, vb, vq, vl, vc⟩ := v
    obtain ⟨e1, e2, e3⟩ : j ≤ nB (nsOf ((l.drop i).take n)) ∧ s = rdr i (n - 4) c (5 + 2 * j) ∧ Grw (blks (nsOf ((l.drop i).take n)) j) vl on j vc := hv
    have h6 : (decide (0 < (nsOf ((l.drop i).take n)).getD 4 0 - (j : Int)) && !s.2.2.2) = false := h6
    rw [e2, rdr_bad, ← hRl] at h6
    have hj := nB_eq e1 h6
    exact got_pre h4 h1 h2 h3 (fun h => (ho h).2) hb (s := s) e2
  · rename_i b0 h4 be br ye hye h5 y1 hy1 y2 hy2 y3 hy3 y4 hy4 bp y5 hy5 v hv h6 w1 hw1
    have h4 : 4 ≤ n := by have := of_decide_eq_false h4; omega
    have e4 : ((n : Int) - 4).toNat = n - 4 := by omega
    obtain ⟨j, s, on, vb, vq, vl, vc⟩ := v
    obtain ⟨e1, e2, e3⟩ : j ≤ nB (nsOf ((l.drop i).take n)) ∧ s = rdr i (n - 4) c (5 + 2 * j) ∧ Grw (blks (nsOf ((l.drop i).take n)) j) vl on j vc := hv
    have h6 : (decide (0 < (nsOf ((l.drop i).take n)).getD 4 0 - (j : Int)) && !s.2.2.2) = false := h6
    rw [e2, rdr_bad, ← hRl] at h6
    have hj := nB_eq e1 h6
    have kw := got h4 h1 h2 (s := s) e2 hw1
    subst kw e2 hj
    refine Stands.one (0, rdr i (n - 4) c (5 + 2 * nB (nsOf ((l.drop i).take n)) + 1), false, 0, 0, [], 0) ⟨⟨Nat.zero_le _, ?_, ?_⟩, ?_⟩
    · show rdr i (n - 4) c (5 + 2 * nB (nsOf ((l.drop i).take n)) + 1) = rdr i (n - 4) c (6 + 2 * nB (nsOf ((l.drop i).take n)) + 9 * 0)
      congr 1; omega
    · rw [slts_zero]; exact ⟨rfl, rfl, Nat.le_refl _, Nat.le_refl _, fun _ => ⟨rfl, rfl⟩⟩
    ((conv => (arg 1; reduce)); with_reducible repeat' (first | exact Tr.yes_h | refine Tr.and_h ?_ ?_ | refine Tr.imp_h fun _ => ?_ | refine Tr.all_h fun _ => ?_ | refine Tr.lf_h ?_))
    all_goals (first | first | (show Region.lexB _ _ = true; kernel_rfl) | (show planned _ _ = true; kernel_rfl) | exact rfl | exact True.intro | ((try dsimp only [imp, C0, cG, cInt, cPl, cSlot, cPg, rwCodec, cRaw] at *); (try refine inR64 ?_ ?_) <;> (try simp only [List.length_set, List.length_append, List.length_take, List.length_drop]) <;> omega))
  · rename_i b0 h4 be br ye hye h5 y1 hy1 y2 hy2 y3 hy3 y4 hy4 bp y5 hy5 v hv h6 w1 hw1 u hu h7
    have h4 : 4 ≤ n := by have := of_decide_eq_false h4; omega
    have e4 : ((n : Int) - 4).toNat = n - 4 := by omega
    obtain ⟨j, s, on, vb, vq, vl, vc⟩ := u
    obtain ⟨e1, e2, e3⟩ : j ≤ nS (nsOf ((l.drop i).take n)) ∧ s = rdr i (n - 4) c (6 + 2 * nB (nsOf ((l.drop i).take n)) + 9 * j) ∧ Grw (slts (nsOf ((l.drop i).take n)) j) vl on j vc := hu
    have h7 : (decide (0 < (nsOf ((l.drop i).take n)).getD (5 + 2 * nB (nsOf ((l.drop i).take n))) 0 - (j : Int)) && !s.2.2.2) = true := h7
    rw [e2, rdr_bad, ← hRl] at h7
    simp only [Bool.and_eq_true, decide_eq_true_iff, Bool.not_eq_true', decide_eq_false_iff_not] at h7
    have hj := nS_lt h7.1 h7.2
    have hns := nS_le (nsOf ((l.drop i).take n))
    exact got_pre h4 h1 h2 h3 (fun h => (ho h).2) hb (s := s) e2
  · rename_i b0 h4 be br ye hye h5 y1 hy1 y2 hy2 y3 hy3 y4 hy4 bp y5 hy5 v hv h6 w1 hw1 u hu h7 z1 hz1
    have h4 : 4 ≤ n := by have := of_decide_eq_false h4; omega
    have e4 : ((n : Int) - 4).toNat = n - 4 := by omega
    obtain ⟨j, s, on, vb, vq, vl, vc⟩ := u
    obtain ⟨e1, e2, e3⟩ : j ≤ nS (nsOf ((l.drop i).take n)) ∧ s = rdr i (n - 4) c (6 + 2 * nB (nsOf ((l.drop i).take n)) + 9 * j) ∧ Grw (slts (nsOf ((l.drop i).take n)) j) vl on j vc := hu
    have h7 : (decide (0 < (nsOf ((l.drop i).take n)).getD (5 + 2 * nB (nsOf ((l.drop i).take n))) 0 - (j : Int)) && !s.2.2.2) = true := h7
    rw [e2, rdr_bad, ← hRl] at h7
    simp only [Bool.and_eq_true, decide_eq_true_iff, Bool.not_eq_true', decide_eq_false_iff_not] at h7
    have hj := nS_lt h7.1 h7.2
    have hns := nS_le (nsOf ((l.drop i).take n))
    have k1 := got h4 h1 h2 (s := s) e2 hz1
    exact got_pre h4 h1 h2 h3 (fun h => (ho h).2) hb (s := z1.1) (congrArg Prod.fst k1)
  · rename_i b0 h4 be br ye hye h5 y1 hy1 y2 hy2 y3 hy3 y4 hy4 bp y5 hy5 v hv h6 w1 hw1 u hu h7 z1 hz1 z2 hz2
    have h4 : 4 ≤ n := by have := of_decide_eq_false h4; omega
    have e4 : ((n : Int) - 4).toNat = n - 4 := by omega
    obtain ⟨j, s, on, vb, vq, vl, vc⟩ := u
    obtain ⟨e1, e2, e3⟩ : j ≤ nS (nsOf ((l.drop i).take n)) ∧ s = rdr i (n - 4) c (6 + 2 * nB (nsOf ((l.drop i).take n)) + 9 * j) ∧ Grw (slts (nsOf ((l.drop i).take n)) j) vl on j vc := hu
    have h7 : (decide (0 < (nsOf ((l.drop i).take n)).getD (5 + 2 * nB (nsOf ((l.drop i).take n))) 0 - (j : Int)) && !s.2.2.2) = true := h7
    rw [e2, rdr_bad, ← hRl] at h7
    simp only [Bool.and_eq_true, decide_eq_true_iff, Bool.not_eq_true', decide_eq_false_iff_not] at h7
    have hj := nS_lt h7.1 h7.2
    have hns := nS_le (nsOf ((l.drop i).take n))
    have k1 := got h4 h1 h2 (s := s) e2 hz1
    have k2 := got h4 h1 h2 (s := z1.1) (congrArg Prod.fst k1) hz2
    exact got_pre h4 h1 h2 h3 (fun h => (ho h).2) hb (s := z2.1) (congrArg Prod.fst k2)
  · rename_i b0 h4 be br ye hye h5 y1 hy1 y2 hy2 y3 hy3 y4 hy4 bp y5 hy5 v hv h6 w1 hw1 u hu h7 z1 hz1 z2 hz2 z3 hz3 bs
    have h4 : 4 ≤ n := by have := of_decide_eq_false h4; omega
    have e4 : ((n : Int) - 4).toNat = n - 4 := by omega
    obtain ⟨j, s, on, vb, vq, vl, vc⟩ := u
    obtain ⟨e1, e2, e3⟩ : j ≤ nS (nsOf ((l.drop i).take n)) ∧ s = rdr i (n - 4) c (6 + 2 * nB (nsOf ((l.drop i).take n)) + 9 * j) ∧ Grw (slts (nsOf ((l.drop i).take n)) j) vl on j vc := hu
    have h7 : (decide (0 < (nsOf ((l.drop i).take n)).getD (5 + 2 * nB (nsOf ((l.drop i).take n))) 0 - (j : Int)) && !s.2.2.2) = true := h7
    rw [e2, rdr_bad, ← hRl] at h7
    simp only [Bool.and_eq_true, decide_eq_true_iff, Bool.not_eq_true', decide_eq_false_iff_not] at h7
    have hj := nS_lt h7.1 h7.2
    have hns := nS_le (nsOf ((l.drop i).take n))
    have k1 := got h4 h1 h2 (s := s) e2 hz1
    have k2 := got h4 h1 h2 (s := z1.1) (congrArg Prod.fst k1) hz2
    have k3 := got h4 h1 h2 (s := z2.1) (congrArg Prod.fst k2) hz3
    exact got_pre h4 h1 h2 h3 (fun h => (ho h).2) hb (s := z3.1) (congrArg Prod.fst k3)
  · rename_i b0 h4 be br ye hye h5 y1 hy1 y2 hy2 y3 hy3 y4 hy4 bp y5 hy5 v hv h6 w1 hw1 u hu h7 z1 hz1 z2 hz2 z3 hz3 bs z4 hz4
    have h4 : 4 ≤ n := by have := of_decide_eq_false h4; omega
    have e4 : ((n : Int) - 4).toNat = n - 4 := by omega
    obtain ⟨j, s, on, vb, vq, vl, vc⟩ := u
    obtain ⟨e1, e2, e3⟩ : j ≤ nS (nsOf ((l.drop i).take n)) ∧ s = rdr i (n - 4) c (6 + 2 * nB (nsOf ((l.drop i).take n)) + 9 * j) ∧ Grw (slts (nsOf ((l.drop i).take n)) j) vl on j vc := hu
    have h7 : (decide (0 < (nsOf ((l.drop i).take n)).getD (5 + 2 * nB (nsOf ((l.drop i).take n))) 0 - (j : Int)) && !s.2.2.2) = true := h7
    rw [e2, rdr_bad, ← hRl] at h7
    simp only [Bool.and_eq_true, decide_eq_true_iff, Bool.not_eq_true', decide_eq_false_iff_not] at h7
    have hj := nS_lt h7.1 h7.2
    have hns := nS_le (nsOf ((l.drop i).take n))
    have k1 := got h4 h1 h2 (s := s) e2 hz1
    have k2 := got h4 h1 h2 (s := z1.1) (congrArg Prod.fst k1) hz2
    have k3 := got h4 h1 h2 (s := z2.1) (congrArg Prod.fst k2) hz3
    have k4 := got h4 h1 h2 (s := z3.1) (congrArg Prod.fst k3) hz4
    exact got_pre h4 h1 h2 h3 (fun h => (ho h).2) hb (s := z4.1) (congrArg Prod.fst k4)
  · rename_i b0 h4 be br ye hye h5 y1 hy1 y2 hy2 y3 hy3 y4 hy4 bp y5 hy5 v hv h6 w1 hw1 u hu h7 z1 hz1 z2 hz2 z3 hz3 bs z4 hz4 z5 hz5
    have h4 : 4 ≤ n := by have := of_decide_eq_false h4; omega
    have e4 : ((n : Int) - 4).toNat = n - 4 := by omega
    obtain ⟨j, s, on, vb, vq, vl, vc⟩ := u
    obtain ⟨e1, e2, e3⟩ : j ≤ nS (nsOf ((l.drop i).take n)) ∧ s = rdr i (n - 4) c (6 + 2 * nB (nsOf ((l.drop i).take n)) + 9 * j) ∧ Grw (slts (nsOf ((l.drop i).take n)) j) vl on j vc := hu
    have h7 : (decide (0 < (nsOf ((l.drop i).take n)).getD (5 + 2 * nB (nsOf ((l.drop i).take n))) 0 - (j : Int)) && !s.2.2.2) = true := h7
    rw [e2, rdr_bad, ← hRl] at h7
    simp only [Bool.and_eq_true, decide_eq_true_iff, Bool.not_eq_true', decide_eq_false_iff_not] at h7
    have hj := nS_lt h7.1 h7.2
    have hns := nS_le (nsOf ((l.drop i).take n))
    have k1 := got h4 h1 h2 (s := s) e2 hz1
    have k2 := got h4 h1 h2 (s := z1.1) (congrArg Prod.fst k1) hz2
    have k3 := got h4 h1 h2 (s := z2.1) (congrArg Prod.fst k2) hz3
    have k4 := got h4 h1 h2 (s := z3.1) (congrArg Prod.fst k3) hz4
    have k5 := got h4 h1 h2 (s := z4.1) (congrArg Prod.fst k4) hz5
    exact got_pre h4 h1 h2 h3 (fun h => (ho h).2) hb (s := z5.1) (congrArg Prod.fst k5)
  · rename_i b0 h4 be br ye hye h5 y1 hy1 y2 hy2 y3 hy3 y4 hy4 bp y5 hy5 v hv h6 w1 hw1 u hu h7 z1 hz1 z2 hz2 z3 hz3 bs z4 hz4 z5 hz5 z6 hz6
    have h4 : 4 ≤ n := by have := of_decide_eq_false h4; omega
    have e4 : ((n : Int) - 4).toNat = n - 4 := by omega
    obtain ⟨j, s, on, vb, vq, vl, vc⟩ := u
    obtain ⟨e1, e2, e3⟩ : j ≤ nS (nsOf ((l.drop i).take n)) ∧ s = rdr i (n - 4) c (6 + 2 * nB (nsOf ((l.drop i).take n)) + 9 * j) ∧ Grw (slts (nsOf ((l.drop i).take n)) j) vl on j vc := hu
    have h7 : (decide (0 < (nsOf ((l.drop i).take n)).getD (5 + 2 * nB (nsOf ((l.drop i).take n))) 0 - (j : Int)) && !s.2.2.2) = true := h7
    rw [e2, rdr_bad, ← hRl] at h7
    simp only [Bool.and_eq_true, decide_eq_true_iff, Bool.not_eq_true', decide_eq_false_iff_not] at h7
    have hj := nS_lt h7.1 h7.2
    have hns := nS_le (nsOf ((l.drop i).take n))
    have k1 := got h4 h1 h2 (s := s) e2 hz1
    have k2 := got h4 h1 h2 (s := z1.1) (congrArg Prod.fst k1) hz2
    have k3 := got h4 h1 h2 (s := z2.1) (congrArg Prod.fst k2) hz3
    have k4 := got h4 h1 h2 (s := z3.1) (congrArg Prod.fst k3) hz4
    have k5 := got h4 h1 h2 (s := z4.1) (congrArg Prod.fst k4) hz5
    have k6 := got h4 h1 h2 (s := z5.1) (congrArg Prod.fst k5) hz6
    exact got_pre h4 h1 h2 h3 (fun h => (ho h).2) hb (s := z6.1) (congrArg Prod.fst k6)
  · rename_i b0 h4 be br ye hye h5 y1 hy1 y2 hy2 y3 hy3 y4 hy4 bp y5 hy5 v hv h6 w1 hw1 u hu h7 z1 hz1 z2 hz2 z3 hz3 bs z4 hz4 z5 hz5 z6 hz6 z7 hz7
    have h4 : 4 ≤ n := by have := of_decide_eq_false h4; omega
    have e4 : ((n : Int) - 4).toNat = n - 4 := by omega
    obtain ⟨j, s, on, vb, vq, vl, vc⟩ := u
    obtain ⟨e1, e2, e3⟩ : j ≤ nS (nsOf ((l.drop i).take n)) ∧ s = rdr i (n - 4) c (6 + 2 * nB (nsOf ((l.drop i).take n)) + 9 * j) ∧ Grw (slts (nsOf ((l.drop i).take n)) j) vl on j vc := hu
    have h7 : (decide (0 < (nsOf ((l.drop i).take n)).getD (5 + 2 * nB (nsOf ((l.drop i).take n))) 0 - (j : Int)) && !s.2.2.2) = true := h7
    rw [e2, rdr_bad, ← hRl] at h7
    simp only [Bool.and_eq_true, decide_eq_true_iff, Bool.not_eq_true', decide_eq_false_iff_not] at h7
    have hj := nS_lt h7.1 h7.2
    have hns := nS_le (nsOf ((l.drop i).take n))
    have k1 := got h4 h1 h2 (s := s) e2 hz1
    have k2 := got h4 h1 h2 (s := z1.1) (congrArg Prod.fst k1) hz2
    have k3 := got h4 h1 h2 (s := z2.1) (congrArg Prod.fst k2) hz3
    have k4 := got h4 h1 h2 (s := z3.1) (congrArg Prod.fst k3) hz4
    have k5 := got h4 h1 h2 (s := z4.1) (congrArg Prod.fst k4) hz5
    have k6 := got h4 h1 h2 (s := z5.1) (congrArg Prod.fst k5) hz6
    have k7 := got h4 h1 h2 (s := z6.1) (congrArg Prod.fst k6) hz7
    exact got_pre h4 h1 h2 h3 (fun h => (ho h).2) hb (s := z7.1) (congrArg Prod.fst k7)
  · rename_i b0 h4 be br ye hye h5 y1 hy1 y2 hy2 y3 hy3 y4 hy4 bp y5 hy5 v hv h6 w1 hw1 u hu h7 z1 hz1 z2 hz2 z3 hz3 bs z4 hz4 z5 hz5 z6 hz6 z7 hz7 z8 hz8
    have h4 : 4 ≤ n := by have := of_decide_eq_false h4; omega
    have e4 : ((n : Int) - 4).toNat = n - 4 := by omega
    obtain ⟨j, s, on, vb, vq, vl, vc⟩ := u
    obtain ⟨e1, e2, e3⟩ : j ≤ nS (nsOf ((l.drop i).take n)) ∧ s = rdr i (n - 4) c (6 + 2 * nB (nsOf ((l.drop i).take n)) + 9 * j) ∧ Grw (slts (nsOf ((l.drop i).take n)) j) vl on j vc := hu
    have h7 : (decide (0 < (nsOf ((l.drop i).take n)).getD (5 + 2 * nB (nsOf ((l.drop i).take n))) 0 - (j : Int)) && !s.2.2.2) = true := h7
    rw [e2, rdr_bad, ← hRl] at h7
    simp only [Bool.and_eq_true, decide_eq_true_iff, Bool.not_eq_true', decide_eq_false_iff_not] at h7
    have hj := nS_lt h7.1 h7.2
    have hns := nS_le (nsOf ((l.drop i).take n))
    have k1 := got h4 h1 h2 (s := s) e2 hz1
    have k2 := got h4 h1 h2 (s := z1.1) (congrArg Prod.fst k1) hz2
    have k3 := got h4 h1 h2 (s := z2.1) (congrArg Prod.fst k2) hz3
    have k4 := got h4 h1 h2 (s := z3.1) (congrArg Prod.fst k3) hz4
    have k5 := got h4 h1 h2 (s := z4.1) (congrArg Prod.fst k4) hz5
    have k6 := got h4 h1 h2 (s := z5.1) (congrArg Prod.fst k5) hz6
    have k7 := got h4 h1 h2 (s := z6.1) (congrArg Prod.fst k6) hz7
    have k8 := got h4 h1 h2 (s := z7.1) (congrArg Prod.fst k7) hz8
    exact got_pre h4 h1 h2 h3 (fun h => (ho h).2) hb (s := z8.1) (congrArg Prod.fst k8)
  · rename_i b0 h4 be br ye hye h5 y1 hy1 y2 hy2 y3 hy3 y4 hy4 bp y5 hy5 v hv h6 w1 hw1 u hu h7 z1 hz1 z2 hz2 z3 hz3 bs z4 hz4 z5 hz5 z6 hz6 z7 hz7 z8 hz8 z9 hz9 bk
    have h4 : 4 ≤ n := by have := of_decide_eq_false h4; omega
    have e4 : ((n : Int) - 4).toNat = n - 4 := by omega
    obtain ⟨j, s, on, vb, vq, vl, vc⟩ := u
    obtain ⟨e1, e2, e3⟩ : j ≤ nS (nsOf ((l.drop i).take n)) ∧ s = rdr i (n - 4) c (6 + 2 * nB (nsOf ((l.drop i).take n)) + 9 * j) ∧ Grw (slts (nsOf ((l.drop i).take n)) j) vl on j vc := hu
    have h7 : (decide (0 < (nsOf ((l.drop i).take n)).getD (5 + 2 * nB (nsOf ((l.drop i).take n))) 0 - (j : Int)) && !s.2.2.2) = true := h7
    rw [e2, rdr_bad, ← hRl] at h7
    simp only [Bool.and_eq_true, decide_eq_true_iff, Bool.not_eq_true', decide_eq_false_iff_not] at h7
    have hj := nS_lt h7.1 h7.2
    have hns := nS_le (nsOf ((l.drop i).take n))
    obtain ⟨f1, f2, f3, f4, f5⟩ := e3
    rw [by88]
    exact ⟨f3, by show 0 + vc ≤ vl.length; omega, Nat.le_refl 1, by show (j + 1) * 72 ≤ _; omega⟩
  · rename_i b0 h4 be br ye hye h5 y1 hy1 y2 hy2 y3 hy3 y4 hy4 bp y5 hy5 v hv h6 w1 hw1 u hu h7 z1 hz1 z2 hz2 z3 hz3 bs z4 hz4 z5 hz5 z6 hz6 z7 hz7 z8 hz8 z9 hz9 bk
    have h4 : 4 ≤ n := by have := of_decide_eq_false h4; omega
    have e4 : ((n : Int) - 4).toNat = n - 4 := by omega
    obtain ⟨j, s, on, vb, vq, vl, vc⟩ := u
    obtain ⟨e1, e2, e3⟩ : j ≤ nS (nsOf ((l.drop i).take n)) ∧ s = rdr i (n - 4) c (6 + 2 * nB (nsOf ((l.drop i).take n)) + 9 * j) ∧ Grw (slts (nsOf ((l.drop i).take n)) j) vl on j vc := hu
    have h7 : (decide (0 < (nsOf ((l.drop i).take n)).getD (5 + 2 * nB (nsOf ((l.drop i).take n))) 0 - (j : Int)) && !s.2.2.2) = true := h7
    rw [e2, rdr_bad, ← hRl] at h7
    simp only [Bool.and_eq_true, decide_eq_true_iff, Bool.not_eq_true', decide_eq_false_iff_not] at h7
    have hj := nS_lt h7.1 h7.2
    have hns := nS_le (nsOf ((l.drop i).take n))
    exact e3.2.2.2.2
  · rename_i b0 h4 be br ye hye h5 y1 hy1 y2 hy2 y3 hy3 y4 hy4 bp y5 hy5 v hv h6 w1 hw1 u hu h7 z1 hz1 z2 hz2 z3 hz3 bs z4 hz4 z5 hz5 z6 hz6 z7 hz7 z8 hz8 z9 hz9 bk b9 q9 sp cap m1 m2
    have h4 : 4 ≤ n := by have := of_decide_eq_false h4; omega
    have e4 : ((n : Int) - 4).toNat = n - 4 := by omega
    obtain ⟨j, s, on, vb, vq, vl, vc⟩ := u
    obtain ⟨e1, e2, e3⟩ : j ≤ nS (nsOf ((l.drop i).take n)) ∧ s = rdr i (n - 4) c (6 + 2 * nB (nsOf ((l.drop i).take n)) + 9 * j) ∧ Grw (slts (nsOf ((l.drop i).take n)) j) vl on j vc := hu
    have h7 : (decide (0 < (nsOf ((l.drop i).take n)).getD (5 + 2 * nB (nsOf ((l.drop i).take n))) 0 - (j : Int)) && !s.2.2.2) = true := h7
    rw [e2, rdr_bad, ← hRl] at h7
    simp only [Bool.and_eq_true, decide_eq_true_iff, Bool.not_eq_true', decide_eq_false_iff_not] at h7
    have hj := nS_lt h7.1 h7.2
    have hns := nS_le (nsOf ((l.drop i).take n))
    have hu := ns_u32 (bv := ((l.drop i).take n)) hb (5 + 2 * nB (nsOf ((l.drop i).take n)))
    exact inR64 (by have := hu.1; show _ ≤ (nsOf ((l.drop i).take n)).getD (5 + 2 * nB (nsOf ((l.drop i).take n))) 0 - (j : Int) - 1; omega) (by have := hu.2; show (nsOf ((l.drop i).take n)).getD (5 + 2 * nB (nsOf ((l.drop i).take n))) 0 - (j : Int) - 1 ≤ _; omega)
  · rename_i b0 h4 be br ye hye h5 y1 hy1 y2 hy2 y3 hy3 y4 hy4 bp y5 hy5 v hv h6 w1 hw1 u hu h7 z1 hz1 z2 hz2 z3 hz3 bs z4 hz4 z5 hz5 z6 hz6 z7 hz7 z8 hz8 z9 hz9 bk b9 q9 sp cap m1 m2
    have h4 : 4 ≤ n := by have := of_decide_eq_false h4; omega
    have e4 : ((n : Int) - 4).toNat = n - 4 := by omega
    obtain ⟨j, s, on, vb, vq, vl, vc⟩ := u
    obtain ⟨e1, e2, e3⟩ : j ≤ nS (nsOf ((l.drop i).take n)) ∧ s = rdr i (n - 4) c (6 + 2 * nB (nsOf ((l.drop i).take n)) + 9 * j) ∧ Grw (slts (nsOf ((l.drop i).take n)) j) vl on j vc := hu
    have h7 : (decide (0 < (nsOf ((l.drop i).take n)).getD (5 + 2 * nB (nsOf ((l.drop i).take n))) 0 - (j : Int)) && !s.2.2.2) = true := h7
    rw [e2, rdr_bad, ← hRl] at h7
    simp only [Bool.and_eq_true, decide_eq_true_iff, Bool.not_eq_true', decide_eq_false_iff_not] at h7
    have hj := nS_lt h7.1 h7.2
    have hns := nS_le (nsOf ((l.drop i).take n))
    have k1 := got h4 h1 h2 (s := s) e2 hz1
    have k2 := got h4 h1 h2 (s := z1.1) (congrArg Prod.fst k1) hz2
    have k3 := got h4 h1 h2 (s := z2.1) (congrArg Prod.fst k2) hz3
    have k4 := got h4 h1 h2 (s := z3.1) (congrArg Prod.fst k3) hz4
    have k5 := got h4 h1 h2 (s := z4.1) (congrArg Prod.fst k4) hz5
    have k6 := got h4 h1 h2 (s := z5.1) (congrArg Prod.fst k5) hz6
    have k7 := got h4 h1 h2 (s := z6.1) (congrArg Prod.fst k6) hz7
    have k8 := got h4 h1 h2 (s := z7.1) (congrArg Prod.fst k7) hz8
    have k9 := got h4 h1 h2 (s := z8.1) (congrArg Prod.fst k8) hz9
    subst k9 k8 k7 k6 k5 k4 k3 k2 k1 e2
    have e5 := e3.app (x := slotAt (nsOf ((l.drop i).take n)) (6 + 2 * nB (nsOf ((l.drop i).take n))) j) (sp := sp) m1 m2
    rw [← slts_next] at e5
    refine Stands.one (j + 1, rdr i (n - 4) c (6 + 2 * nB (nsOf ((l.drop i).take n)) + 9 * j + 1 + 1 + 1 + 1 + 1 + 1 + 1 + 1 + 1), true, b9, q9, vl.take j ++ [slotAt (nsOf ((l.drop i).take n)) (6 + 2 * nB (nsOf ((l.drop i).take n))) j] ++ sp, cap) ⟨⟨hj, rfl, e5⟩, ?_, ?_⟩
    · show nS (nsOf ((l.drop i).take n)) - (j + 1) < nS (nsOf ((l.drop i).take n)) - j
      omega
    ((conv => (arg 1; reduce)); with_reducible repeat' (first | exact Tr.yes_h | refine Tr.and_h ?_ ?_ | refine Tr.imp_h fun _ => ?_ | refine Tr.all_h fun _ => ?_ | refine Tr.lf_h ?_))
    all_goals (first | first | (show Region.lexB _ _ = true; kernel_rfl) | (show planned _ _ = true; kernel_rfl) | exact rfl | exact True.intro | ((try dsimp only [imp, C0, cG, cInt, cPl, cSlot, cPg, rwCodec, cRaw] at *); (try refine inR64 ?_ ?_) <;> (try simp only [List.length_set, List.length_append, List.length_take, List.length_drop]) <;> omega))
  · rename_i b0 h4 be br ye hye h5 y1 hy1 y2 hy2 y3 hy3 y4 hy4 bp y5 hy5 v hv h6 w1 hw1 u hu h7 h8
    have h4 : 4 ≤ n := by have := of_decide_eq_false h4; omega
    have e4 : ((n : Int) - 4).toNat = n - 4 := by omega
    obtain ⟨jb, sb, onb, bb, qb, lb, cb⟩ := v
    obtain ⟨r1, r2, r3⟩ : jb ≤ nB (nsOf ((l.drop i).take n)) ∧ sb = rdr i (n - 4) c (5 + 2 * jb) ∧ Grw (blks (nsOf ((l.drop i).take n)) jb) lb onb jb cb := hv
    have h6 : (decide (0 < (nsOf ((l.drop i).take n)).getD 4 0 - (jb : Int)) && !sb.2.2.2) = false := h6
    rw [r2, rdr_bad, ← hRl] at h6
    have hjb := nB_eq r1 h6
    obtain ⟨j, s, on, vb, vq, vl, vc⟩ := u
    obtain ⟨e1, e2, e3⟩ : j ≤ nS (nsOf ((l.drop i).take n)) ∧ s = rdr i (n - 4) c (6 + 2 * nB (nsOf ((l.drop i).take n)) + 9 * j) ∧ Grw (slts (nsOf ((l.drop i).take n)) j) vl on j vc := hu
    have h7 : (decide (0 < (nsOf ((l.drop i).take n)).getD (5 + 2 * nB (nsOf ((l.drop i).take n))) 0 - (j : Int)) && !s.2.2.2) = false := h7
    rw [e2, rdr_bad, ← hRl] at h7
    have hjs := nS_eq e1 h7
    have hnb := nB_le (nsOf ((l.drop i).take n))
    have hns := nS_le (nsOf ((l.drop i).take n))
    exact ⟨⟨r3.2.2.1, Nat.le_trans r3.2.2.1 r3.2.2.2.1, r3.2.2.2.2⟩, ⟨e3.2.2.1, Nat.le_trans e3.2.2.1 e3.2.2.2.1, e3.2.2.2.2⟩, by show jb ≤ _; omega, by show j ≤ _; omega⟩
  · rename_i b0 h4 be br ye hye h5 y1 hy1 y2 hy2 y3 hy3 y4 hy4 bp y5 hy5 v hv h6 w1 hw1 u hu h7 h8
    have h4 : 4 ≤ n := by have := of_decide_eq_false h4; omega
    have e4 : ((n : Int) - 4).toNat = n - 4 := by omega
    obtain ⟨jb, sb, onb, bb, qb, lb, cb⟩ := v
    obtain ⟨r1, r2, r3⟩ : jb ≤ nB (nsOf ((l.drop i).take n)) ∧ sb = rdr i (n - 4) c (5 + 2 * jb) ∧ Grw (blks (nsOf ((l.drop i).take n)) jb) lb onb jb cb := hv
    have h6 : (decide (0 < (nsOf ((l.drop i).take n)).getD 4 0 - (jb : Int)) && !sb.2.2.2) = false := h6
    rw [r2, rdr_bad, ← hRl] at h6
    have hjb := nB_eq r1 h6
    obtain ⟨j, s, on, vb, vq, vl, vc⟩ := u
    obtain ⟨e1, e2, e3⟩ : j ≤ nS (nsOf ((l.drop i).take n)) ∧ s = rdr i (n - 4) c (6 + 2 * nB (nsOf ((l.drop i).take n)) + 9 * j) ∧ Grw (slts (nsOf ((l.drop i).take n)) j) vl on j vc := hu
    have h7 : (decide (0 < (nsOf ((l.drop i).take n)).getD (5 + 2 * nB (nsOf ((l.drop i).take n))) 0 - (j : Int)) && !s.2.2.2) = false := h7
    rw [e2, rdr_bad, ← hRl] at h7
    have hjs := nS_eq e1 h7
    have hnb := nB_le (nsOf ((l.drop i).take n))
    have hns := nS_le (nsOf ((l.drop i).take n))
    have hK : 6 + 2 * nB (nsOf ((l.drop i).take n)) + 9 * j = 6 + 2 * nB (nsOf ((l.drop i).take n)) + 9 * nS (nsOf ((l.drop i).take n)) := by rw [hjs]
    have e6 : lb.take jb = blks (nsOf ((l.drop i).take n)) (nB (nsOf ((l.drop i).take n))) := by rw [r3.2.1, hjb]
    have e7 : vl.take j = slts (nsOf ((l.drop i).take n)) (nS (nsOf ((l.drop i).take n))) := by rw [e3.2.1, hjs]
    have h8 : (s.2.2.2 || decide (0 < (s.2.1 : Int)) || !okP (hdR (nsOf ((l.drop i).take n))) (lb.take jb) (vl.take j)) = true := h8
    rw [e2, rdr_bad, rdr_rest, hK, e6, e7, ← hRl] at h8
    refine Ends.one () (fun h A B hp => ?_) ?_
    · obtain ⟨f1, f2, f3, f4, f5, f6⟩ := isPt_facts (bv := ((l.drop i).take n)) hp (by rw [hbl]; omega)
      rw [hbl] at f5
      rw [f6, f4] at h8
      simp only [Bool.not_true, Bool.or_false, Bool.or_eq_true, decide_eq_true_iff, Nat.min_self] at h8
      omega
    ((conv => (arg 1; reduce)); with_reducible repeat' (first | exact Tr.yes_h | refine Tr.and_h ?_ ?_ | refine Tr.imp_h fun _ => ?_ | refine Tr.all_h fun _ => ?_ | refine Tr.lf_h ?_))
    all_goals (first | first | (show Region.lexB _ _ = true; kernel_rfl) | (show planned _ _ = true; kernel_rfl) | exact rfl | exact True.intro | ((try dsimp only [imp, C0, cG, cInt, cPl, cSlot, cPg, rwCodec, cRaw] at *); (try refine inR64 ?_ ?_) <;> (try simp only [List.length_set, List.length_append, List.length_take, List.length_drop]) <;> omega))
  · rename_i b0 h4 be br ye hye h5 y1 hy1 y2 hy2 y3 hy3 y4 hy4 bp y5 hy5 v hv h6 w1 hw1 u hu h7 h8
    have h4 : 4 ≤ n := by have := of_decide_eq_false h4; omega
    have e4 : ((n : Int) - 4).toNat = n - 4 := by omega
    obtain ⟨jb, sb, onb, bb, qb, lb, cb⟩ := v
    obtain ⟨r1, r2, r3⟩ : jb ≤ nB (nsOf ((l.drop i).take n)) ∧ sb = rdr i (n - 4) c (5 + 2 * jb) ∧ Grw (blks (nsOf ((l.drop i).take n)) jb) lb onb jb cb := hv
    have h6 : (decide (0 < (nsOf ((l.drop i).take n)).getD 4 0 - (jb : Int)) && !sb.2.2.2) = false := h6
    rw [r2, rdr_bad, ← hRl] at h6
    have hjb := nB_eq r1 h6
    obtain ⟨j, s, on, vb, vq, vl, vc⟩ := u
    obtain ⟨e1, e2, e3⟩ : j ≤ nS (nsOf ((l.drop i).take n)) ∧ s = rdr i (n - 4) c (6 + 2 * nB (nsOf ((l.drop i).take n)) + 9 * j) ∧ Grw (slts (nsOf ((l.drop i).take n)) j) vl on j vc := hu
    have h7 : (decide (0 < (nsOf ((l.drop i).take n)).getD (5 + 2 * nB (nsOf ((l.drop i).take n))) 0 - (j : Int)) && !s.2.2.2) = false := h7
    rw [e2, rdr_bad, ← hRl] at h7
    have hjs := nS_eq e1 h7
    have hnb := nB_le (nsOf ((l.drop i).take n))
    have hns := nS_le (nsOf ((l.drop i).take n))
    have hye2 : ye.2 = nm ((l.drop i).take n) (((l.drop i).take n).length - 4) := by
      rw [e4] at hye
      rw [show ye = _ from hye]
      show gv l _ = _
      rw [hbl]
      exact end_get h4 h1 h2
    have hcr : (l.drop i).take (n - 4) = ((l.drop i).take n).take (((l.drop i).take n).length - 4) := by rw [hbl, List.take_take]; congr 1; omega
    have hK : 6 + 2 * nB (nsOf ((l.drop i).take n)) + 9 * j = 6 + 2 * nB (nsOf ((l.drop i).take n)) + 9 * nS (nsOf ((l.drop i).take n)) := by rw [hjs]
    have e6 : lb.take jb = blks (nsOf ((l.drop i).take n)) (nB (nsOf ((l.drop i).take n))) := by rw [r3.2.1, hjb]
    have e7 : vl.take j = slts (nsOf ((l.drop i).take n)) (nS (nsOf ((l.drop i).take n))) := by rw [e3.2.1, hjs]
    have h8 : (s.2.2.2 || decide (0 < (s.2.1 : Int)) || !okP (hdR (nsOf ((l.drop i).take n))) (lb.take jb) (vl.take j)) = false := h8
    rw [e2, rdr_bad, rdr_rest, hK, e6, e7, ← hRl] at h8
    have h5 : ¬ ¬ ye.2 = crc ((l.drop i).take ((n : Int) - 4).toNat) := of_decide_eq_false h5
    rw [e4, hcr, hye2] at h5
    simp only [Bool.or_eq_false_iff, decide_eq_false_iff_not, Bool.not_eq_false'] at h8
    obtain ⟨⟨f1, f2⟩, f3⟩ := h8
    have hp := isPt_of (bv := ((l.drop i).take n)) hb (by rw [hbl]; exact h4) (Decidable.of_not_not h5) (by omega) (by rw [hbl]; omega) f3
    refine Ends.next (Ends.one (hdR (nsOf ((l.drop i).take n)), (onb, bb, qb, lb, jb, cb), (on, vb, vq, vl, j, vc)) ⟨?_, ⟨r3.2.2.1, Nat.le_trans r3.2.2.1 r3.2.2.2.1, r3.2.2.2.2⟩, ⟨e3.2.2.1, Nat.le_trans e3.2.2.1 e3.2.2.2.1, e3.2.2.2.2⟩⟩ ?_)
    · show IsPt _ _ (lb.take jb) (vl.take j)
      rw [e6, e7]
      exact hp
    ((conv => (arg 1; reduce)); with_reducible repeat' (first | exact Tr.yes_h | refine Tr.and_h ?_ ?_ | refine Tr.imp_h fun _ => ?_ | refine Tr.all_h fun _ => ?_ | refine Tr.lf_h ?_))
    all_goals (first | first | (show Region.lexB _ _ = true; kernel_rfl) | (show planned _ _ = true; kernel_rfl) | exact rfl | exact True.intro | ((try dsimp only [imp, C0, cG, cInt, cPl, cSlot, cPg, rwCodec, cRaw] at *); (try refine inR64 ?_ ?_) <;> (try simp only [List.length_set, List.length_append, List.length_take, List.length_drop]) <;> omega))
def fcOpen : Fc Tryd.prog C0 where
  tg := .fn 16
  X := Bool × Nat × Nat × List Int × Nat × Nat × Nat
  args := fun (o, b, q, l, i, n, c) => [.sl 0 i n c]
  mem := fun (o, b, q, l, i, n, c) => [⟨b, q, 1, false, some o, .rows 5 l⟩]
  pre := fun (o, b, q, l, i, n, c) => n ≤ c ∧ i + c ≤ l.length ∧ n < 140737488355000 ∧ (o = false → n = 0 ∧ c = 0) ∧ Bys ((l.drop i).take n) ∧ n ≤ 1000000
  alts := fun (o, b, q, l, i, n, c) => [⟨Unit, fun _ => ∀ h A B, ¬ IsPt ((l.drop i).take n) h A B, fun _ => .tup [ptv (0, 0, 0, 0) .nils .nils, eV 0], fun _ => [⟨b, q, 1, false, some o, .rows 5 l⟩]⟩,
     ⟨Hd × (Bool × Nat × Nat × List Pl × Nat × Nat) × (Bool × Nat × Nat × List Slot × Nat × Nat), fun y => IsPt ((l.drop i).take n) y.1 (y.2.1.2.2.2.1.take y.2.1.2.2.2.2.1) (y.2.2.2.2.2.1.take y.2.2.2.2.2.2.1) ∧ Sq.ok y.2.1 ∧ Sq.ok y.2.2,
      fun y => .tup [ptv y.1 (.sl 1 0 y.2.1.2.2.2.2.1 y.2.1.2.2.2.2.2) (.sl 2 0 y.2.2.2.2.2.2.1 y.2.2.2.2.2.2.2), .nili],
      fun y => [⟨b, q, 1, false, some o, .rows 5 l⟩, ⟨y.2.1.2.1, y.2.1.2.2.1, 2, true, some y.2.1.1, .rows 87 y.2.1.2.2.2.1⟩, ⟨y.2.2.2.1, y.2.2.2.2.1, 9, true, some y.2.2.1, .rows 88 y.2.2.2.2.2.1⟩]⟩]
  mat vs m := match vs with
    | [.sl a i n c] => match nth m a with
      | ⟨b, q, _, _, g, .rows 5 l⟩ => some ((onOf g, b, q, l, i, n, c), [a])
      | _ => none
    | [.nils] => some ((false, 0, 0, [], 0, 0, 0), [m.length])
    | _ => none
  ok := fun (o, b, q, l, i, n, c) h => open_ok o b q l i n c h.1 h.2.1 h.2.2.1 h.2.2.2.1 h.2.2.2.2.1 h.2.2.2.2.2
end Go.Vx
set_option linter.unusedSectionVars false
set_option maxRecDepth 100000
set_option linter.unusedVariables false
set_option linter.unusedSimpArgs false
namespace Go.Vx
open Go Go.Proofs
variable [Gl]

theorem okP_none : okP (0, 0, 0, 0) [] [] = true := by
  have : cn 0 = true := cn_iff.2 (by decide)
  unfold okP okH
  simp [okSs, okBs, this]
abbrev P0 : List Int := bytesP (0, 0, 0, 0) [] []
theorem P0_len : P0.length = 28 := by rw [bytesP_len]; rfl
theorem P0_pcN : pcN P0.length 20 = 4 := by rw [P0_len]; rfl
theorem cn7 : cn 7 = true := cn_iff.2 (by decide)
structure Fst (y1 : Nat × Nat × List Int × Nat) (y2 : Nat × Nat × List (Rw Int) × Nat) : Prop where
  b : y1.2.2.1.take P0.length = P0
  c : P0.length ≤ y1.2.2.2 ∧ y1.2.2.2 ≤ y1.2.2.1.length
  g : 4 ≤ y2.2.2.2 ∧ y2.2.2.2 ≤ y2.2.2.1.length
  r : ∀ r ∈ y2.2.2.1.take 4, Rok r ∧ Bys r.l
  j : JOk (rowL y2.2.2.1 0 4) 7 28
  o : (jout (rowL y2.2.2.1 0 4)).take 28 = P0
theorem fst_of {y1 : Nat × Nat × List Int × Nat} {y2 : Nat × Nat × List (Rw Int) × Nat} (h1 : Gr P0 y1.2.2.1 P0.length y1.2.2.2) (h2 : Grw (y2.2.2.1.take (pcN P0.length 20)) y2.2.2.1 true (pcN P0.length 20) y2.2.2.2) (h3 : Prs (y1.2.2.1.take P0.length) 20 7 y2.2.2.1 (pcN P0.length 20)) : Fst y1 y2 := by
  rw [h1.2.1] at h3
  have J := jb1 (by decide) (by decide) cn7 (by rw [P0_len]; decide) h3
  have R := prs_rows (bytesP_byt _ _ _) h3
  rw [P0_pcN] at h2 R J
  rw [P0_len] at J
  exact ⟨h1.2.1, h1.2.2, ⟨h2.2.2.1, h2.2.2.2.1⟩, R, J.1, J.2⟩
theorem first_ok : Tells (C := C0) Tryd.prog (.fn 8) [] [] (.bool .t) := by
  refine loc_pc (P := Tryd.prog) (E := ⟨[fcBytes, fcPieces, fcJoin, fcOpen], [pcSb], 62, [], [], []⟩) (L := []) mix Tryd.func8 rfl (by kernel_rfl) (by kernel_rfl) rfl rfl ?_
  ((conv => (arg 1; reduce)); with_reducible repeat' (first | exact Tr.yes_h | refine Tr.and_h ?_ ?_ | refine Tr.imp_h fun _ => ?_ | refine Tr.all_h fun _ => ?_ | refine Tr.lf_h ?_))
  all_goals try (first | first | (show Region.lexB _ _ = true; kernel_rfl) | (show planned _ _ = true; kernel_rfl) | exact rfl | exact True.intro | ((try dsimp only [imp, C0, cG, cInt, cPl, cSlot, cPg, rwCodec, cRaw] at *); (try refine inR64 ?_ ?_) <;> (try simp only [List.length_set, List.length_append, List.length_take, List.length_drop]) <;> omega))
  · exact ⟨⟨Nat.le_refl _, Nat.le_refl _, fun _ => ⟨rfl, rfl⟩⟩, ⟨Nat.le_refl _, Nat.le_refl _, fun _ => ⟨rfl, rfl⟩⟩, by decide, by decide⟩
  · rename_i y1 h1
    have h1 : okP (0, 0, 0, 0) [] [] = false := h1
    rw [okP_none] at h1; cases h1
  · rename_i y1 h1 y2 h2
    have h1 : okP (0, 0, 0, 0) [] [] = false := h1
    rw [okP_none] at h1; cases h1
  · rename_i y1 h1 y2 h2
    have h1 : okP (0, 0, 0, 0) [] [] = false := h1
    rw [okP_none] at h1; cases h1
  · rename_i y1 h1
    have e := h1.2.2.2
    exact ⟨⟨e.1, Nat.le_trans e.1 e.2, fun h => Bool.noConfusion h⟩, by show P0.length ≤ 1000000; rw [P0_len]; decide⟩
  · rename_i y1 h1 y2 h2
    have h2 : cn 7 = false := h2.2
    rw [cn7] at h2; cases h2
  · rename_i y1 h1 y2 h2
    have h2 : 64 * 8 < P0.length := h2.2.2
    rw [P0_len] at h2; omega
  · rename_i y1 h1 y2 h2 d1
    have d1 : (decide ((P0.length : Int) ≠ 28) || decide (((pcN P0.length 20 : Nat) : Int) ≠ 4)) = true := d1
    rw [P0_pcN, P0_len] at d1; cases d1
  · rename_i y1 h1 y2 h2 d1
    have F : Fst y1 y2 := fst_of h1.2 h2.2.2.2.1 h2.2.2.2.2
    have e4 : pcN P0.length (20 : Int).toNat = 4 := P0_pcN
    show 0 + pcN P0.length (20 : Int).toNat ≤ y2.2.2.1.length ∧ (_ → pcN P0.length (20 : Int).toNat = 0 ∧ _) ∧ (∀ r ∈ (y2.2.2.1.drop 0).take (pcN P0.length (20 : Int).toNat), _) ∧ pcN P0.length (20 : Int).toNat ≤ 1000000
    rw [e4]
    exact ⟨by have := F.g; omega, fun h => Bool.noConfusion h, F.r, by decide⟩
  · exact ⟨Nat.le_refl _, Nat.le_refl _, by decide, fun _ => ⟨rfl, rfl⟩, (show Bys [] from fun x hx => nomatch hx), by decide⟩
  · rename_i y1 h1 y2 h2 d1 y3 h3 y4 h4 b4
    have F : Fst y1 y2 := fst_of h1.2 h2.2.2.2.1 h2.2.2.2.2
    have e4 : pcN P0.length (20 : Int).toNat = 4 := P0_pcN
    have h3 : jbad (rowL y2.2.2.1 0 (pcN P0.length (20 : Int).toNat)) := h3
    rw [e4] at h3
    exact absurd h3 F.j.1
  · rename_i y1 h1 y2 h2 d1 y3 h3 y4 h4 b4
    have F : Fst y1 y2 := fst_of h1.2 h2.2.2.2.1 h2.2.2.2.2
    have e4 : pcN P0.length (20 : Int).toNat = 4 := P0_pcN
    have h3 : jbad (rowL y2.2.2.1 0 (pcN P0.length (20 : Int).toNat)) := h3
    rw [e4] at h3
    exact absurd h3 F.j.1
  · exact ⟨Nat.le_refl _, Nat.le_refl _, by decide, fun _ => ⟨rfl, rfl⟩, (show Bys [] from fun x hx => nomatch hx), by decide⟩
  · rename_i y1 h1 y2 h2 d1 y3 h3 y4 h4 b4
    have F : Fst y1 y2 := fst_of h1.2 h2.2.2.2.1 h2.2.2.2.2
    have e4 : pcN P0.length (20 : Int).toNat = 4 := P0_pcN
    have h3 : ∀ a s, ¬ JOk (rowL y2.2.2.1 0 (pcN P0.length (20 : Int).toNat)) a s := h3.2
    rw [e4] at h3
    exact absurd F.j (h3 _ _)
  · rename_i y1 h1 y2 h2 d1 y3 h3 y4 h4 b4
    have F : Fst y1 y2 := fst_of h1.2 h2.2.2.2.1 h2.2.2.2.2
    have e4 : pcN P0.length (20 : Int).toNat = 4 := P0_pcN
    have h3 : ∀ a s, ¬ JOk (rowL y2.2.2.1 0 (pcN P0.length (20 : Int).toNat)) a s := h3.2
    rw [e4] at h3
    exact absurd F.j (h3 _ _)
  · rename_i y1 h1 y2 h2 d1 y3 h3
    have F : Fst y1 y2 := fst_of h1.2 h2.2.2.2.1 h2.2.2.2.2
    have e4 : pcN P0.length (20 : Int).toNat = 4 := P0_pcN
    have h3a : JOk (rowL y2.2.2.1 0 (pcN P0.length (20 : Int).toNat)) y3.1.1 y3.1.2 := h3.1
    have h3b : y3.1.2 ≤ y3.2.2.2.length := h3.2.1
    have h3c : y3.2.2.2.take y3.1.2 = (jout (rowL y2.2.2.1 0 (pcN P0.length (20 : Int).toNat))).take y3.1.2 := h3.2.2
    rw [e4] at h3a h3c
    obtain ⟨u1, u2⟩ := jok_uniq h3a F.j
    have u3 : y3.1.2 = 28 := by omega
    rw [u3, F.o] at h3c
    show y3.1.2 ≤ y3.1.2 ∧ 0 + y3.1.2 ≤ y3.2.2.2.length ∧ y3.1.2 < 140737488355000 ∧ (_ → _ ∧ _) ∧ Bys ((y3.2.2.2.drop 0).take y3.1.2) ∧ y3.1.2 ≤ 1000000
    rw [List.drop_zero, u3, h3c]
    exact ⟨Nat.le_refl _, by omega, by decide, fun h => Bool.noConfusion h, bytesP_byt _ _ _, by decide⟩
  · rename_i y1 h1 y2 h2 d1 y3 h3 y4 h4 b4 d4
    have F : Fst y1 y2 := fst_of h1.2 h2.2.2.2.1 h2.2.2.2.2
    have e4 : pcN P0.length (20 : Int).toNat = 4 := P0_pcN
    have h3a : JOk (rowL y2.2.2.1 0 (pcN P0.length (20 : Int).toNat)) y3.1.1 y3.1.2 := h3.1
    have h3b : y3.1.2 ≤ y3.2.2.2.length := h3.2.1
    have h3c : y3.2.2.2.take y3.1.2 = (jout (rowL y2.2.2.1 0 (pcN P0.length (20 : Int).toNat))).take y3.1.2 := h3.2.2
    rw [e4] at h3a h3c
    obtain ⟨u1, u2⟩ := jok_uniq h3a F.j
    have u3 : y3.1.2 = 28 := by omega
    rw [u3, F.o] at h3c
    exact absurd (show IsPt ((y3.2.2.2.drop 0).take y3.1.2) (0, 0, 0, 0) [] [] by rw [u3, List.drop_zero, h3c]; exact ⟨okP_none, rfl⟩) (h4 _ _ _)
  · rename_i y1 h1 y2 h2 d1 y3 h3 y4 h4 b4
    have F : Fst y1 y2 := fst_of h1.2 h2.2.2.2.1 h2.2.2.2.2
    have e4 : pcN P0.length (20 : Int).toNat = 4 := P0_pcN
    have h3a : JOk (rowL y2.2.2.1 0 (pcN P0.length (20 : Int).toNat)) y3.1.1 y3.1.2 := h3.1
    have h3b : y3.1.2 ≤ y3.2.2.2.length := h3.2.1
    have h3c : y3.2.2.2.take y3.1.2 = (jout (rowL y2.2.2.1 0 (pcN P0.length (20 : Int).toNat))).take y3.1.2 := h3.2.2
    rw [e4] at h3a h3c
    obtain ⟨u1, u2⟩ := jok_uniq h3a F.j
    have u3 : y3.1.2 = 28 := by omega
    rw [u3, F.o] at h3c
    exact absurd (show IsPt ((y3.2.2.2.drop 0).take y3.1.2) (0, 0, 0, 0) [] [] by rw [u3, List.drop_zero, h3c]; exact ⟨okP_none, rfl⟩) (h4 _ _ _)
  · rename_i y1 h1 y2 h2 d1 y3 h3 y4 h4 b4 d4
    have F : Fst y1 y2 := fst_of h1.2 h2.2.2.2.1 h2.2.2.2.2
    have e4 : pcN P0.length (20 : Int).toNat = 4 := P0_pcN
    have h3a : JOk (rowL y2.2.2.1 0 (pcN P0.length (20 : Int).toNat)) y3.1.1 y3.1.2 := h3.1
    have h3b : y3.1.2 ≤ y3.2.2.2.length := h3.2.1
    have h3c : y3.2.2.2.take y3.1.2 = (jout (rowL y2.2.2.1 0 (pcN P0.length (20 : Int).toNat))).take y3.1.2 := h3.2.2
    rw [e4] at h3a h3c
    obtain ⟨u1, u2⟩ := jok_uniq h3a F.j
    have u3 : y3.1.2 = 28 := by omega
    rw [u3, F.o] at h3c
    show 0 + P0.length ≤ y1.2.2.1.length ∧ 0 + y3.1.2 ≤ y3.2.2.2.length ∧ (_ → _ ∧ _) ∧ (_ → _ ∧ _) ∧ Bys ((y1.2.2.1.drop 0).take P0.length) ∧ Bys ((y3.2.2.2.drop 0).take y3.1.2)
    rw [List.drop_zero, List.drop_zero, u3, h3c, F.b]
    exact ⟨by have := F.c; omega, by omega, fun h => Bool.noConfusion h, fun h => Bool.noConfusion h, bytesP_byt _ _ _, bytesP_byt _ _ _⟩
  · rename_i y1 h1 y2 h2 d1 y3 h3 y4 h4 b4
    have F : Fst y1 y2 := fst_of h1.2 h2.2.2.2.1 h2.2.2.2.2
    have e4 : pcN P0.length (20 : Int).toNat = 4 := P0_pcN
    have h3a : JOk (rowL y2.2.2.1 0 (pcN P0.length (20 : Int).toNat)) y3.1.1 y3.1.2 := h3.1
    have h3b : y3.1.2 ≤ y3.2.2.2.length := h3.2.1
    have h3c : y3.2.2.2.take y3.1.2 = (jout (rowL y2.2.2.1 0 (pcN P0.length (20 : Int).toNat))).take y3.1.2 := h3.2.2
    rw [e4] at h3a h3c
    obtain ⟨u1, u2⟩ := jok_uniq h3a F.j
    have u3 : y3.1.2 = 28 := by omega
    rw [u3, F.o] at h3c
    show (decide (y3.1.1 = 7) && ieq (((y1.2.2.1.drop 0)).take P0.length) ((y3.2.2.2.drop 0).take y3.1.2)) = true
    rw [u1, u3, List.drop_zero, List.drop_zero, h3c, F.b]
    simp [ieq_yes]
def pcFirst : Pc Tryd.prog C0 where
  tg := .fn 8
  X := Unit
  args := fun _ => []
  mem := fun _ => []
  pre := fun _ => True
  res := fun _ => .bool .t
  mat vs m := some ((), [])
  ok := fun _ _ => first_ok
end Go.Vx
set_option linter.unusedSectionVars false
set_option maxRecDepth 100000
set_option linter.unusedVariables false
set_option linter.unusedSimpArgs false
namespace Go.Vx
open Go Go.Proofs
variable [Gl]

theorem plainG : ∀ g, g < 3 → Plain C0 (Gl.A g)
  | 0, _ => ⟨0, _, _, List.Mem.head _⟩
  | 1, _ => ⟨1, _, _, List.Mem.head _⟩
  | 2, _ => ⟨2, _, _, List.Mem.head _⟩
  | g + 3, h => absurd h (by omega)
/-- What pieces of P are. -/
structure BkF (P : List Int) (s num : Int) (y : Nat × Nat × List (Rw Int) × Nat) : Prop where
  s16 : 16 ≤ s ∧ s ≤ 1024
  c : cn num = true
  n64 : pcN P.length s.toNat ≤ 64
  pos : 1 ≤ pcN P.length s.toNat
  g : pcN P.length s.toNat ≤ y.2.2.2 ∧ pcN P.length s.toNat ≤ y.2.2.1.length
  r : ∀ r ∈ y.2.2.1.take (pcN P.length s.toNat), Rok r ∧ Bys r.l
  p : rowL y.2.2.1 0 (pcN P.length s.toNat) = pcs P s.toNat num (pcN P.length s.toNat)
  j : JOk (rowL y.2.2.1 0 (pcN P.length s.toNat)) num (P.length : Nat)
  o : (jout (rowL y.2.2.1 0 (pcN P.length s.toNat))).take P.length = P
theorem bk_of {P : List Int} (hP : Bys P) {y2 : Nat × Nat × List Int × Nat} {y3 : Nat × Nat × List (Rw Int) × Nat} {s num : Int} (k2 : Gr P y2.2.2.1 P.length y2.2.2.2)
    (k3 : (16 ≤ s ∧ s ≤ 1024) ∧ cn num = true ∧ P.length ≤ 64 * (s.toNat - 12) ∧ Grw (y3.2.2.1.take (pcN P.length s.toNat)) y3.2.2.1 true (pcN P.length s.toNat) y3.2.2.2 ∧ Prs (y2.2.2.1.take P.length) s.toNat num y3.2.2.1 (pcN P.length s.toNat)) :
    BkF P s num y3 := by
  obtain ⟨a1, a2, a3, a4, a5⟩ := k3
  rw [k2.2.1] at a5
  obtain ⟨j1, j2⟩ := jb1 (by omega) (by omega) a2 a3 a5
  exact ⟨a1, a2, pcN_le (by omega) a3, pcN_pos _ _, ⟨a4.2.2.1, Nat.le_trans a4.2.2.1 a4.2.2.2.1⟩, prs_rows hP a5, prs_rowL a5, j1, j2⟩
theorem bk_join {P : List Int} {s num : Int} {y3 : Nat × Nat × List (Rw Int) × Nat} (F : BkF P s num y3) {y4 : (Int × Nat) × Nat × Nat × List Int}
    (k4 : JOk (rowL y3.2.2.1 0 (pcN P.length s.toNat)) y4.1.1 y4.1.2 ∧ y4.1.2 ≤ y4.2.2.2.length ∧ y4.2.2.2.take y4.1.2 = (jout (rowL y3.2.2.1 0 (pcN P.length s.toNat))).take y4.1.2) :
    y4.1.1 = num ∧ y4.1.2 = P.length ∧ y4.2.2.2.take y4.1.2 = P ∧ y4.1.2 ≤ y4.2.2.2.length := by
  obtain ⟨u1, u2⟩ := jok_uniq k4.1 F.j
  have u3 : y4.1.2 = P.length := by omega
  refine ⟨u1, u3, ?_, k4.2.1⟩
  have := k4.2.2
  rw [u3, F.o] at this
  rw [u3]; exact this
end Go.Vx
set_option linter.unusedSectionVars false
set_option maxRecDepth 100000
set_option linter.unusedVariables false
set_option linter.unusedSimpArgs false
namespace Go.Vx
open Go Go.Proofs

theorem does_to {C : Nat → Codec} {P : Program} {tg : Tg} {mem : List (Ck C)} {args : List SV} {alts alts' : List (Alt C)} (h : Does P tg mem args alts)
    (k : ∀ A ∈ alts, ∀ y : A.Y, A.post y → Ends alts' fun B z => A.res y = B.res z ∧ A.out y = B.out z) : Does P tg mem args alts' := by
  intro w hm
  obtain ⟨f, vals, h1, h2⟩ := h w hm
  refine ⟨f, vals, h1, h2.mono ?_⟩
  rintro e w' ⟨r, m', he, hm', hx, A, hA, y, hy, rfl, rfl⟩
  obtain ⟨B, hB, z, hz, e1, e2⟩ := k A hA y hy
  exact ⟨_, _, he, hm', hx, B, hB, z, hz, e1, e2⟩
/-- What the errors are az numbers. -/
def codeG : Nat → Int
  | 0 => 107
  | 1 => 106
  | _ => 116
def PErr (s num : Int) (n : Nat) : Nat → Prop
  | 0 => (16 ≤ s ∧ s ≤ 1024) ∧ cn num = false
  | 1 => (16 ≤ s ∧ s ≤ 1024) ∧ cn num = true ∧ 64 * (s.toNat - 12) < n
  | 2 => s < 16 ∨ 1024 < s
  | _ => False
def JErr (L : List (List Int)) : Nat → Prop
  | 0 => ¬ jbad L ∧ ∀ x s, ¬ JOk L x s
  | 2 => jbad L
  | _ => False
theorem perr_or {s num : Int} {n : Nat} : ((16 ≤ s ∧ s ≤ 1024) ∧ cn num = true ∧ n ≤ 64 * (s.toNat - 12)) ∨ ∃ g, g < 3 ∧ PErr s num n g := by
  by_cases h1 : s < 16 ∨ 1024 < s
  · exact .inr ⟨2, by omega, h1⟩
  have h2 : 16 ≤ s ∧ s ≤ 1024 := by omega
  cases h3 : cn num with
  | false => exact .inr ⟨0, by omega, h2, h3⟩
  | true =>
    by_cases h4 : n ≤ 64 * (s.toNat - 12)
    · exact .inl ⟨h2, rfl, h4⟩
    · exact .inr ⟨1, by omega, h2, h3, by omega⟩
theorem jerr_or {L : List (List Int)} : (∃ x s, JOk L x s) ∨ ∃ g, g < 3 ∧ JErr L g := by
  by_cases h1 : jbad L
  · exact .inr ⟨2, by omega, h1⟩
  by_cases h2 : ∃ x s, JOk L x s
  · exact .inl h2
  · exact .inr ⟨0, by omega, h1, fun x s h => h2 ⟨x, s, h⟩⟩
variable [Gl0]
abbrev Apart : Prop := ∀ i j, i < 19 → j < 19 → Gl.A i = Gl.A j → i = j
theorem codeG_ok (hA : Apart) : ∀ g, g < 3 → codeOf (Gl.A g) = codeG g
  | 0, _ => by
    unfold codeOf
    refine (idxE_at sentL _ 101 6 (by rw [sentL_len]; decide) (by unfold sentL; rfl) ?_).trans rfl
    intro j hj h
    unfold sentL at h
    rcases j with _ | _ | _ | _ | _ | _ | j
    all_goals first | exact absurd (hA _ _ (by decide) (by decide) (Option.some.inj h)) (by decide) | omega
  | 1, _ => by
    unfold codeOf
    refine (idxE_at sentL _ 101 5 (by rw [sentL_len]; decide) (by unfold sentL; rfl) ?_).trans rfl
    intro j hj h
    unfold sentL at h
    rcases j with _ | _ | _ | _ | _ | j
    all_goals first | exact absurd (hA _ _ (by decide) (by decide) (Option.some.inj h)) (by decide) | omega
  | 2, _ => by
    unfold codeOf
    refine (idxE_at sentL _ 101 15 (by rw [sentL_len]; decide) (by unfold sentL; rfl) ?_).trans rfl
    intro j hj h
    unfold sentL at h
    rcases j with _ | _ | _ | _ | _ | _ | _ | _ | _ | _ | _ | _ | _ | _ | _ | j
    all_goals first | exact absurd (hA _ _ (by decide) (by decide) (Option.some.inj h)) (by decide) | omega
  | g + 3, h => absurd h (by omega)
theorem perrS {s num : Int} {n g : Nat} (h : PErr s num n g) (k : (16 ≤ s ∧ s ≤ 1024) ∧ cn num = true ∧ n ≤ 64 * (s.toNat - 12)) : False := by
  obtain ⟨k1, k2, k3⟩ := k
  rcases g with _ | _ | _ | g
  · exact absurd (k2.symm.trans h.2) (by decide)
  · have := h.2.2; omega
  · have : s < 16 ∨ 1024 < s := h
    omega
  · exact h
theorem perr2 {s num : Int} {n g : Nat} (h : PErr s num n g) (k : s < 16 ∨ 1024 < s) : g = 2 := by
  rcases g with _ | _ | _ | g
  · have := h.1; omega
  · have := h.1; omega
  · rfl
  · exact h.elim
theorem perr0 {s num : Int} {n g : Nat} (h : PErr s num n g) (k : (16 ≤ s ∧ s ≤ 1024) ∧ cn num = false) : g = 0 := by
  obtain ⟨k1, k2⟩ := k
  rcases g with _ | _ | _ | g
  · rfl
  · exact absurd (k2.symm.trans h.2.1) (by decide)
  · have : s < 16 ∨ 1024 < s := h
    omega
  · exact h.elim
theorem perr1 {s num : Int} {n g : Nat} (h : PErr s num n g) (k : (16 ≤ s ∧ s ≤ 1024) ∧ cn num = true ∧ 64 * (s.toNat - 12) < n) : g = 1 := by
  obtain ⟨k1, k2, k3⟩ := k
  rcases g with _ | _ | _ | g
  · exact absurd (k2.symm.trans h.2) (by decide)
  · rfl
  · have : s < 16 ∨ 1024 < s := h
    omega
  · exact h.elim
theorem jerrS {L : List (List Int)} {g : Nat} (h : JErr L g) {x s : Int} (k : JOk L x s) : False := by
  rcases g with _ | _ | _ | g
  · exact h.2 _ _ k
  · exact h
  · exact k.1 h
  · exact h
theorem jerr2 {L : List (List Int)} {g : Nat} (h : JErr L g) (k : jbad L) : g = 2 := by
  rcases g with _ | _ | _ | g
  · exact (h.1 k).elim
  · exact h.elim
  · rfl
  · exact h.elim
theorem jerr0 {L : List (List Int)} {g : Nat} (h : JErr L g) (k : ¬ jbad L) : g = 0 := by
  rcases g with _ | _ | _ | g
  · rfl
  · exact h.elim
  · exact (k h).elim
  · exact h.elim
theorem bkp {o : Bool} {b q n c : Nat} {l : List Int} {s num : Int} (h1 : Sq.ok (o, b, q, l, n, c)) (h4 : Bys (l.take n)) {y : Nat × Nat × List (Rw Int) × Nat}
    (k3 : (16 ≤ s ∧ s ≤ 1024) ∧ cn num = true ∧ n ≤ 64 * (s.toNat - 12) ∧ Grw (y.2.2.1.take (pcN n s.toNat)) y.2.2.1 true (pcN n s.toNat) y.2.2.2 ∧ Prs (l.take n) s.toNat num y.2.2.1 (pcN n s.toNat)) :
    BkF (l.take n) s num y := by
  have hl : (l.take n).length = n := by rw [List.length_take]; have : n ≤ l.length := h1.2.1; omega
  obtain ⟨a1, a2, a3, a4, a5⟩ := k3
  obtain ⟨j1, j2⟩ := jb1 (B := l.take n) (s := s.toNat) (by omega) (by omega) a2 (by rw [hl]; exact a3) (by rw [hl]; exact a5)
  rw [hl] at j1 j2
  refine ⟨a1, a2, ?_, ?_, ?_, ?_, ?_, ?_, ?_⟩ <;> rw [hl]
  · exact pcN_le (by omega) a3
  · exact pcN_pos _ _
  · exact ⟨a4.2.2.1, Nat.le_trans a4.2.2.1 a4.2.2.2.1⟩
  · exact prs_rows h4 a5
  · exact prs_rowL a5
  · exact j1
  · exact j2
def pcSbN : Pc Tryd.prog C0 := { pcSb with
  mat := fun vs m => match vs with
    | [.sl a i n c, .sl a2 i2 n2 c2] => match nth m a, nth m a2 with
      | ⟨b, q, _, _, g, .rows 5 l⟩, ⟨b2, q2, _, _, g2, .rows 5 l2⟩ => some (((onOf g, b, q, l, i, n, c), (onOf g2, b2, q2, l2, i2, n2, c2)), [a, a2])
      | _, _ => none
    | [.nils, .nils] => some (((false, 0, 0, [], 0, 0, 0), (false, 0, 0, [], 0, 0, 0)), [m.length, m.length + 1])
    | _ => none }
def fcPiecesE (g : Nat) : Fc Tryd.prog C0 where
  tg := .fn 20
  X := Sq Int × Int × Int
  args := fun ((o, b, q, l, n, c), s, num) => [.sl 0 0 n c, .int .i64 s, .int .i64 num]
  mem := fun ((o, b, q, l, n, c), s, num) => [⟨b, q, 1, false, some o, .rows 5 l⟩]
  pre := fun ((o, b, q, l, n, c), s, num) => Sq.ok (o, b, q, l, n, c) ∧ n ≤ 1000000 ∧ PErr s num n g
  alts := fun ((o, b, q, l, n, c), s, num) => [⟨Unit, fun _ => True, fun _ => .tup [.nils, eV g], fun _ => [⟨b, q, 1, false, some o, .rows 5 l⟩]⟩]
  mat vs m := match vs with
    | [.sl a 0 n c, .int _ s, .int _ num] => match nth m a with
      | ⟨b, q, _, _, g, .rows 5 l⟩ => some (((onOf g, b, q, l, n, c), s, num), [a])
      | _ => none
    | _ => none
  ok := fun ((o, b, q, l, n, c), s, num) h => by
    obtain ⟨h1, h2, h3⟩ := h
    refine does_to (fcPieces.ok ((o, b, q, l, n, c), s, num) ⟨h1, h2⟩) fun A hA y hy => ?_
    simp only [fcPieces, List.mem_cons, List.not_mem_nil, or_false] at hA
    rcases hA with rfl | rfl | rfl | rfl
    · obtain rfl := perr2 h3 hy
      exact Ends.one () trivial ⟨rfl, rfl⟩
    · obtain rfl := perr0 h3 hy
      exact Ends.one () trivial ⟨rfl, rfl⟩
    · obtain rfl := perr1 h3 hy
      exact Ends.one () trivial ⟨rfl, rfl⟩
    · exact (perrS h3 ⟨hy.1, hy.2.1, hy.2.2.1⟩).elim
def fcPiecesS : Fc Tryd.prog C0 where
  tg := .fn 20
  X := Sq Int × Int × Int
  args := fun ((o, b, q, l, n, c), s, num) => [.sl 0 0 n c, .int .i64 s, .int .i64 num]
  mem := fun ((o, b, q, l, n, c), s, num) => [⟨b, q, 1, false, some o, .rows 5 l⟩]
  pre := fun ((o, b, q, l, n, c), s, num) => Sq.ok (o, b, q, l, n, c) ∧ n ≤ 8000 ∧ ((16 ≤ s ∧ s ≤ 1024) ∧ cn num = true ∧ n ≤ 64 * (s.toNat - 12)) ∧ Bys (l.take n)
  alts := fun ((o, b, q, l, n, c), s, num) => [⟨Nat × Nat × List (Rw Int) × Nat, fun y => BkF (l.take n) s num y, fun y => .tup [.sl 1 0 (pcN n s.toNat) y.2.2.2, .nili],
      fun y => [⟨b, q, 1, false, some o, .rows 5 l⟩, ⟨y.1, y.2.1, 1, true, none, .rows 26 y.2.2.1⟩]⟩]
  mat vs m := match vs with
    | [.sl a 0 n c, .int _ s, .int _ num] => match nth m a with
      | ⟨b, q, _, _, g, .rows 5 l⟩ => some (((onOf g, b, q, l, n, c), s, num), [a])
      | _ => none
    | _ => none
  ok := fun ((o, b, q, l, n, c), s, num) h => by
    obtain ⟨h1, h2, h3, h4⟩ := h
    refine does_to (fcPieces.ok ((o, b, q, l, n, c), s, num) ⟨h1, Nat.le_trans h2 (by decide)⟩) fun A hA y hy => ?_
    simp only [fcPieces, List.mem_cons, List.not_mem_nil, or_false] at hA
    rcases hA with rfl | rfl | rfl | rfl
    · exact (perrS (g := 2) hy h3).elim
    · exact (perrS (g := 0) hy h3).elim
    · exact (perrS (g := 1) hy h3).elim
    · exact Ends.one y (bkp h1 h4 hy) ⟨rfl, rfl⟩
def fcRpiecesE (g : Nat) : Fc Tryd.prog C0 where
  tg := .fn 21
  X := Sq Int × Int × Int
  args := fun ((o, b, q, l, n, c), s, num) => [.sl 0 0 n c, .int .i64 s, .int .i64 num]
  mem := fun ((o, b, q, l, n, c), s, num) => [⟨b, q, 1, false, some o, .rows 5 l⟩]
  pre := fun ((o, b, q, l, n, c), s, num) => Sq.ok (o, b, q, l, n, c) ∧ n ≤ 1000000 ∧ PErr s num n g
  alts := fun ((o, b, q, l, n, c), s, num) => [⟨Unit, fun _ => True, fun _ => .tup [.nils, .int .i64 (codeG g)], fun _ => [⟨b, q, 1, false, some o, .rows 5 l⟩]⟩]
  mat vs m := match vs with
    | [.sl a 0 n c, .int _ s, .int _ num] => match nth m a with
      | ⟨b, q, _, _, g, .rows 5 l⟩ => some (((onOf g, b, q, l, n, c), s, num), [a])
      | _ => none
    | _ => none
  ok := fun ((o, b, q, l, n, c), s, num) h => by
    obtain ⟨h1, h2, h3⟩ := h
    refine does_to (fcRpieces.ok ((o, b, q, l, n, c), s, num) ⟨h1, h2⟩) fun A hA y hy => ?_
    simp only [fcRpieces, List.mem_cons, List.not_mem_nil, or_false] at hA
    rcases hA with rfl | rfl | rfl | rfl
    · obtain rfl := perr2 h3 hy
      exact Ends.one () trivial ⟨rfl, rfl⟩
    · obtain rfl := perr0 h3 hy
      exact Ends.one () trivial ⟨rfl, rfl⟩
    · obtain rfl := perr1 h3 hy
      exact Ends.one () trivial ⟨rfl, rfl⟩
    · exact (perrS h3 ⟨hy.1, hy.2.1, hy.2.2.1⟩).elim
def fcRpiecesS : Fc Tryd.prog C0 where
  tg := .fn 21
  X := Sq Int × Int × Int
  args := fun ((o, b, q, l, n, c), s, num) => [.sl 0 0 n c, .int .i64 s, .int .i64 num]
  mem := fun ((o, b, q, l, n, c), s, num) => [⟨b, q, 1, false, some o, .rows 5 l⟩]
  pre := fun ((o, b, q, l, n, c), s, num) => Sq.ok (o, b, q, l, n, c) ∧ n ≤ 8000 ∧ ((16 ≤ s ∧ s ≤ 1024) ∧ cn num = true ∧ n ≤ 64 * (s.toNat - 12)) ∧ Bys (l.take n)
  alts := fun ((o, b, q, l, n, c), s, num) => [⟨Nat × Nat × List (Rw Int) × Nat, fun y => BkF (l.take n) s num y, fun y => .tup [.sl 1 0 (pcN n s.toNat) y.2.2.2, .int .i64 0],
      fun y => [⟨b, q, 1, false, some o, .rows 5 l⟩, ⟨y.1, y.2.1, 1, true, none, .rows 26 y.2.2.1⟩]⟩]
  mat vs m := match vs with
    | [.sl a 0 n c, .int _ s, .int _ num] => match nth m a with
      | ⟨b, q, _, _, g, .rows 5 l⟩ => some (((onOf g, b, q, l, n, c), s, num), [a])
      | _ => none
    | _ => none
  ok := fun ((o, b, q, l, n, c), s, num) h => by
    obtain ⟨h1, h2, h3, h4⟩ := h
    refine does_to (fcRpieces.ok ((o, b, q, l, n, c), s, num) ⟨h1, Nat.le_trans h2 (by decide)⟩) fun A hA y hy => ?_
    simp only [fcRpieces, List.mem_cons, List.not_mem_nil, or_false] at hA
    rcases hA with rfl | rfl | rfl | rfl
    · exact (perrS (g := 2) hy h3).elim
    · exact (perrS (g := 0) hy h3).elim
    · exact (perrS (g := 1) hy h3).elim
    · exact Ends.one y (bkp h1 h4 hy) ⟨rfl, rfl⟩
def fcJoinE (g : Nat) : Fc Tryd.prog C0 where
  tg := .fn 24
  X := Bool × Nat × Nat × List (Rw Int) × Nat × Nat × Nat
  args := fun (o, b, q, l, i, n, c) => [.sl 0 i n c]
  mem := fun (o, b, q, l, i, n, c) => [⟨b, q, 1, false, some o, .rows 26 l⟩]
  pre := fun (o, b, q, l, i, n, c) => (i + n ≤ l.length ∧ (o = false → n = 0 ∧ c = 0) ∧ (∀ r ∈ (l.drop i).take n, Rok r ∧ Bys r.l) ∧ n ≤ 1000000) ∧ JErr (rowL l i n) g
  alts := fun (o, b, q, l, i, n, c) => [⟨Unit, fun _ => True, fun _ => .tup [.int .i64 0, .nils, eV g], fun _ => [⟨b, q, 1, false, some o, .rows 26 l⟩]⟩]
  mat vs m := match vs with
    | [.sl 1 i n c] => match nth m 1 with
      | ⟨b, q, _, _, g, .rows 26 l⟩ => some ((onOf g, b, q, l, i, n, c), [1])
      | _ => none
    | _ => none
  ok := fun (o, b, q, l, i, n, c) h => by
    obtain ⟨h1, h3⟩ := h
    refine does_to (fcJoin.ok (o, b, q, l, i, n, c) h1) fun A hA y hy => ?_
    simp only [fcJoin, List.mem_cons, List.not_mem_nil, or_false] at hA
    rcases hA with rfl | rfl | rfl
    · obtain rfl := jerr2 h3 hy
      exact Ends.one () trivial ⟨rfl, rfl⟩
    · obtain rfl := jerr0 h3 hy.1
      exact Ends.one () trivial ⟨rfl, rfl⟩
    · exact (jerrS h3 hy.1).elim
def fcJoinS : Fc Tryd.prog C0 where
  tg := .fn 24
  X := Bool × Nat × Nat × List (Rw Int) × Nat × Nat × Nat
  args := fun (o, b, q, l, i, n, c) => [.sl 0 i n c]
  mem := fun (o, b, q, l, i, n, c) => [⟨b, q, 1, false, some o, .rows 26 l⟩]
  pre := fun (o, b, q, l, i, n, c) => (i + n ≤ l.length ∧ (o = false → n = 0 ∧ c = 0) ∧ (∀ r ∈ (l.drop i).take n, Rok r ∧ Bys r.l) ∧ n ≤ 1000000) ∧ ∃ x s, JOk (rowL l i n) x s
  alts := fun (o, b, q, l, i, n, c) => [⟨(Int × Nat) × Nat × Nat × List Int, fun y => JOk (rowL l i n) y.1.1 y.1.2 ∧ y.1.2 ≤ y.2.2.2.length ∧ y.2.2.2.take y.1.2 = (jout (rowL l i n)).take y.1.2, fun y => .tup [.int .i64 y.1.1, .sl 1 0 y.1.2 y.1.2, .nili],
      fun y => [⟨b, q, 1, false, some o, .rows 26 l⟩, ⟨y.2.1, y.2.2.1, 1, true, none, .rows 5 y.2.2.2⟩]⟩]
  mat vs m := match vs with
    | [.sl a i n c] => match nth m a with
      | ⟨b, q, _, _, g, .rows 26 l⟩ => some ((onOf g, b, q, l, i, n, c), [a])
      | _ => none
    | _ => none
  ok := fun (o, b, q, l, i, n, c) h => by
    obtain ⟨h1, x, s, h3⟩ := h
    refine does_to (fcJoin.ok (o, b, q, l, i, n, c) h1) fun A hA y hy => ?_
    simp only [fcJoin, List.mem_cons, List.not_mem_nil, or_false] at hA
    rcases hA with rfl | rfl | rfl
    · exact (h3.1 hy).elim
    · exact (hy.2 _ _ h3).elim
    · exact Ends.one y hy ⟨rfl, rfl⟩
def fcRjoinE (g : Nat) : Fc Tryd.prog C0 where
  tg := .fn 25
  X := Bool × Nat × Nat × List (Rw Int) × Nat × Nat × Nat
  args := fun (o, b, q, l, i, n, c) => [.sl 0 i n c]
  mem := fun (o, b, q, l, i, n, c) => [⟨b, q, 1, false, some o, .rows 26 l⟩]
  pre := fun (o, b, q, l, i, n, c) => (i + n ≤ l.length ∧ (o = false → n = 0 ∧ c = 0) ∧ (∀ r ∈ (l.drop i).take n, Rok r ∧ Bys r.l) ∧ n ≤ 1000000) ∧ JErr (rowL l i n) g
  alts := fun (o, b, q, l, i, n, c) => [⟨Unit, fun _ => True, fun _ => .tup [.int .i64 0, .nils, .int .i64 (codeG g)], fun _ => [⟨b, q, 1, false, some o, .rows 26 l⟩]⟩]
  mat vs m := match vs with
    | [.sl 1 i n c] => match nth m 1 with
      | ⟨b, q, _, _, g, .rows 26 l⟩ => some ((onOf g, b, q, l, i, n, c), [1])
      | _ => none
    | _ => none
  ok := fun (o, b, q, l, i, n, c) h => by
    obtain ⟨h1, h3⟩ := h
    refine does_to (fcRjoin.ok (o, b, q, l, i, n, c) h1) fun A hA y hy => ?_
    simp only [fcRjoin, List.mem_cons, List.not_mem_nil, or_false] at hA
    rcases hA with rfl | rfl | rfl
    · obtain rfl := jerr2 h3 hy
      exact Ends.one () trivial ⟨rfl, rfl⟩
    · obtain rfl := jerr0 h3 hy.1
      exact Ends.one () trivial ⟨rfl, rfl⟩
    · exact (jerrS h3 hy.1).elim
def fcRjoinS : Fc Tryd.prog C0 where
  tg := .fn 25
  X := Bool × Nat × Nat × List (Rw Int) × Nat × Nat × Nat
  args := fun (o, b, q, l, i, n, c) => [.sl 0 i n c]
  mem := fun (o, b, q, l, i, n, c) => [⟨b, q, 1, false, some o, .rows 26 l⟩]
  pre := fun (o, b, q, l, i, n, c) => (i + n ≤ l.length ∧ (o = false → n = 0 ∧ c = 0) ∧ (∀ r ∈ (l.drop i).take n, Rok r ∧ Bys r.l) ∧ n ≤ 1000000) ∧ ∃ x s, JOk (rowL l i n) x s
  alts := fun (o, b, q, l, i, n, c) => [⟨(Int × Nat) × Nat × Nat × List Int × Nat, fun y => JOk (rowL l i n) y.1.1 y.1.2 ∧ y.1.2 ≤ y.2.2.2.2 ∧ y.1.2 ≤ y.2.2.2.1.length ∧ y.2.2.2.1.take y.1.2 = (jout (rowL l i n)).take y.1.2, fun y => .tup [.int .i64 y.1.1, .sl 1 0 y.1.2 y.2.2.2.2, .int .i64 0],
      fun y => [⟨b, q, 1, false, some o, .rows 26 l⟩, ⟨y.2.1, y.2.2.1, 1, true, none, .rows 5 y.2.2.2.1⟩]⟩]
  mat vs m := match vs with
    | [.sl a i n c] => match nth m a with
      | ⟨b, q, _, _, g, .rows 26 l⟩ => some ((onOf g, b, q, l, i, n, c), [a])
      | _ => none
    | _ => none
  ok := fun (o, b, q, l, i, n, c) h => by
    obtain ⟨h1, x, s, h3⟩ := h
    refine does_to (fcRjoin.ok (o, b, q, l, i, n, c) h1) fun A hA y hy => ?_
    simp only [fcRjoin, List.mem_cons, List.not_mem_nil, or_false] at hA
    rcases hA with rfl | rfl | rfl
    · exact (h3.1 hy).elim
    · exact (hy.2 _ _ h3).elim
    · exact Ends.one y hy ⟨rfl, rfl⟩
end Go.Vx
set_option linter.unusedSectionVars false
set_option maxRecDepth 100000
set_option linter.unusedVariables false
set_option linter.unusedSimpArgs false
namespace Go.Vx
open Go Go.Proofs
variable [Gl0]

def Pp6 (n : Nat) : Inv' C0 := ⟨6, Nat × Int, fun x => [(11, .int .i64 (x.1 : Int)), (10, .int .i64 x.2), (49, .junk)], fun x m => match m with
  | a :: b :: _ => [a, b]
  | m => m, fun x => x.1 ≤ n ∧ 0 ≤ x.2 ∧ x.2 ≤ x.1 * 2000000, fun x => n - x.1⟩
theorem pp_p {n n' : Nat} (h : (decide (8000 < (n : Int)) || decide (70 < (n' : Int))) = false) : n ≤ 8000 ∧ n' ≤ 70 := by
  simp only [Bool.or_eq_false_iff, decide_eq_false_iff_not] at h
  omega
theorem pp_in {n' : Nat} {v : Nat × Int} (hv : (Pp6 n').inv v) (hn : n' ≤ 70) (d1 : v.1 < n') {k : Nat} (hk : k ≤ 2000000) : inR .i64 (v.2 + (k : Int)) := by
  obtain ⟨e1, e2, e3⟩ : v.1 ≤ n' ∧ 0 ≤ v.2 ∧ v.2 ≤ v.1 * 2000000 := hv
  exact inR64 (by omega) (by omega)
theorem pp_st {n' : Nat} {v : Nat × Int} (hv : (Pp6 n').inv v) (d1 : v.1 < n') {k : Nat} (hk : k ≤ 2000000) : (Pp6 n').inv (v.1 + 1, v.2 + (k : Int)) ∧ (Pp6 n').meas (v.1 + 1, v.2 + (k : Int)) < (Pp6 n').meas v := by
  obtain ⟨e1, e2, e3⟩ : v.1 ≤ n' ∧ 0 ≤ v.2 ∧ v.2 ≤ v.1 * 2000000 := hv
  refine ⟨⟨d1, by show 0 ≤ v.2 + (k : Int); omega, ?_⟩, ?_⟩
  · show v.2 + (k : Int) ≤ ((v.1 + 1 : Nat) : Int) * 2000000
    omega
  · show n' - (v.1 + 1) < n' - v.1
    omega
theorem pp_w1 {a : Addr} {c : Int} (h : codeOf a = c) (w : (!lsEq (List.take 0 []) (List.take 0 []) || !decide (codeOf a = c)) = true) : False := by
  have e : lsEq (List.take 0 []) (List.take 0 []) = true := lsEq_iff.2 rfl
  rw [e, h] at w
  simp at w
theorem pp_w2 {a : Addr} {c : Int} (h : codeOf a = c) (w : (decide ((0 : Int) ≠ 0) || (!ieq (List.take 0 (List.drop 0 [])) (List.take 0 (List.drop 0 []))) || !decide (codeOf a = c)) = true) : False := by
  have e : ieq (List.take 0 (List.drop 0 [])) (List.take 0 (List.drop 0 [])) = true := ieq_iff.2 rfl
  rw [e, h] at w
  simp at w
theorem jout_bys {l : List (Rw Int)} {i n : Nat} (hr : ∀ r ∈ (l.drop i).take n, Rok r ∧ Bys r.l) : Bys (jout (rowL l i n)) := by
  intro x hx
  unfold jout rowL at hx
  obtain ⟨p, hp, hx⟩ := List.mem_flatMap.1 hx
  obtain ⟨r, hr', rfl⟩ := List.mem_map.1 hp
  exact (hr r hr').2 x (List.mem_of_mem_drop hx)
abbrev J4 := (Int × Nat) × Nat × Nat × List Int
abbrev J2 := (Int × Nat) × Nat × Nat × List Int × Nat
theorem js2 {L : List (List Int)} {y4 : J4} {y2 : J2} (hB : Bys (jout L)) (k4 : JOk L y4.1.1 y4.1.2 ∧ y4.1.2 ≤ y4.2.2.2.length ∧ y4.2.2.2.take y4.1.2 = (jout L).take y4.1.2)
    (k2 : JOk L y2.1.1 y2.1.2 ∧ y2.1.2 ≤ y2.2.2.2.2 ∧ y2.1.2 ≤ y2.2.2.2.1.length ∧ y2.2.2.2.1.take y2.1.2 = (jout L).take y2.1.2) :
    y4.1.1 = y2.1.1 ∧ y4.2.2.2.take y4.1.2 = y2.2.2.2.1.take y2.1.2 ∧ (0 + y4.1.2 ≤ y4.2.2.2.length ∧ 0 + y2.1.2 ≤ y2.2.2.2.1.length ∧ (true = false → y4.1.2 = 0 ∧ y4.1.2 = 0) ∧ (true = false → y2.1.2 = 0 ∧ y2.2.2.2.2 = 0) ∧
      Bys ((y4.2.2.2.drop 0).take y4.1.2) ∧ Bys ((y2.2.2.2.1.drop 0).take y2.1.2)) := by
  obtain ⟨e1, e2⟩ := jok_uniq k4.1 k2.1
  have e3 : y4.1.2 = y2.1.2 := by omega
  refine ⟨e1, by rw [k4.2.2, k2.2.2.2, e3], by rw [Nat.zero_add]; exact k4.2.1, by rw [Nat.zero_add]; exact k2.2.2.1, fun h => absurd h (by decide), fun h => absurd h (by decide), ?_, ?_⟩
  · rw [List.drop_zero, k4.2.2]; exact hB.take _
  · rw [List.drop_zero, k2.2.2.2]; exact hB.take _
theorem pp_w3 {y4 : J4} {y2 : J2} (e1 : y4.1.1 = y2.1.1) (e2 : y4.2.2.2.take y4.1.2 = y2.2.2.2.1.take y2.1.2)
    (w : (decide (y4.1.1 ≠ y2.1.1) || (!ieq (List.take y4.1.2 (List.drop 0 y4.2.2.2)) (List.take y2.1.2 (List.drop 0 y2.2.2.2.1))) || !decide ((0 : Int) = 0)) = true) : False := by
  have e : ieq (List.take y4.1.2 (List.drop 0 y4.2.2.2)) (List.take y2.1.2 (List.drop 0 y2.2.2.2.1)) = true := ieq_iff.2 e2
  rw [e, e1] at w
  simp at w
abbrev P3 := Nat × Nat × List (Rw Int) × Nat
theorem bk_sl {P : List Int} {s num : Int} {N : Nat} (hN : P.length = N) {y3 y4 : P3} (F : BkF P s num y3) (F2 : BkF P s num y4) :
    pcN N s.toNat ≤ y3.2.2.1.length ∧ pcN N s.toNat ≤ y4.2.2.1.length ∧ (true = false → pcN N s.toNat = 0 ∧ y3.2.2.2 = 0) ∧ (true = false → pcN N s.toNat = 0 ∧ y4.2.2.2 = 0) ∧
      (∀ r ∈ y3.2.2.1.take (pcN N s.toNat), Rok r ∧ Bys r.l) ∧ (∀ r ∈ y4.2.2.1.take (pcN N s.toNat), Rok r ∧ Bys r.l) ∧ pcN N s.toNat ≤ 1000000 := by
  subst hN
  exact ⟨F.g.2, F2.g.2, fun h => absurd h (by decide), fun h => absurd h (by decide), F.r, F2.r, Nat.le_trans F.n64 (by decide)⟩
theorem bk_eq {P : List Int} {s num : Int} {N : Nat} (hN : P.length = N) {y3 y4 : P3} (F : BkF P s num y3) (F2 : BkF P s num y4)
    (w : (!lsEq (List.take (pcN N s.toNat) y3.2.2.1) (List.take (pcN N s.toNat) y4.2.2.1) || !decide ((0 : Int) = 0)) = true) : False := by
  subst hN
  have e : lsEq (List.take (pcN P.length s.toNat) y3.2.2.1) (List.take (pcN P.length s.toNat) y4.2.2.1) = true := by
    refine lsEq_iff.2 ?_
    have a := F.p
    have b := F2.p
    unfold rowL at a b
    rw [List.drop_zero] at a b
    rw [a, b]
  rw [e] at w
  simp at w
theorem bk_js {P : List Int} {s num : Int} {N : Nat} (hN : P.length = N) {y3 : P3} (F : BkF P s num y3) :
    (0 + pcN N s.toNat ≤ y3.2.2.1.length ∧ (true = false → pcN N s.toNat = 0 ∧ y3.2.2.2 = 0) ∧ (∀ r ∈ (y3.2.2.1.drop 0).take (pcN N s.toNat), Rok r ∧ Bys r.l) ∧ pcN N s.toNat ≤ 1000000) ∧ ∃ x z, JOk (rowL y3.2.2.1 0 (pcN N s.toNat)) x z := by
  subst hN
  exact ⟨⟨by rw [Nat.zero_add]; exact F.g.2, fun h => absurd h (by decide), by rw [List.drop_zero]; exact F.r, Nat.le_trans F.n64 (by decide)⟩, _, _, F.j⟩
theorem bk_jn {P : List Int} {s num : Int} {N : Nat} (hN : P.length = N) {y3 : P3} (F : BkF P s num y3) {y5 : J4}
    (k4 : JOk (rowL y3.2.2.1 0 (pcN N s.toNat)) y5.1.1 y5.1.2 ∧ y5.1.2 ≤ y5.2.2.2.length ∧ y5.2.2.2.take y5.1.2 = (jout (rowL y3.2.2.1 0 (pcN N s.toNat))).take y5.1.2) :
    y5.1.1 = num ∧ (y5.2.2.2.drop 0).take y5.1.2 = P ∧ 0 + y5.1.2 ≤ y5.2.2.2.length := by
  subst hN
  obtain ⟨a, b, d, e⟩ := bk_join F k4
  exact ⟨a, by rw [List.drop_zero]; exact d, by rw [Nat.zero_add]; exact e⟩
theorem bk_n {o : Bool} {b q n c : Nat} {l : List Int} (h1 : Sq.ok (o, b, q, l, n, c)) : (l.take n).length = n := by
  have h : n ≤ l.length := h1.2.1
  rw [List.length_take]; omega
theorem pp_is {n : Nat} {a : Addr} {c : Int} (h : codeOf a = c) : (SB.tm !decide (codeOf a = c)).val = false := by
  show (!decide (codeOf a = c)) = false
  rw [h]; simp
set_option maxHeartbeats 16000000 in
theorem pieces4EE (hA : Apart) (gp gj : Nat) (gp3 : gp < 3) (gj3 : gj < 3) (o : Bool) (b q : Nat) (l : List Int) (n c : Nat) (s num : Int) (o' : Bool) (b' q' : Nat) (l' : List (Rw Int)) (n' c' : Nat) (h1 : Sq.ok (o, b, q, l, n, c)) (hb : Bys (l.take n)) (h2 : n' ≤ l'.length) (ho : o' = false → n' = 0 ∧ c' = 0)
    (hr : ∀ r ∈ l'.take n', Rok r ∧ Bys r.l) (hlen : ∀ r ∈ l'.take n', r.l.length ≤ 2000000) (hp : PErr s num n gp) (hj : JErr (rowL l' 0 n') gj) :
    Tells (C := C0) Tryd.prog (.fn 4) [⟨b, q, 1, false, some o, .rows 5 l⟩, ⟨b', q', 1, false, some o', .rows 26 l'⟩] [.sl 0 0 n c, .int .i64 s, .int .i64 num, .sl 1 0 n' c'] (.bool .t) := by
  have cp := codeG_ok hA gp gp3
  have cj := codeG_ok hA gj gj3
  have pp : Plain C0 (Gl.A gp) := plainG gp gp3
  have pj : Plain C0 (Gl.A gj) := plainG gj gj3
  refine loc_pc (P := Tryd.prog) (E := ⟨[fcPiecesE gp, fcRpiecesE gp, fcJoinE gj, fcRjoinE gj], [pcFirst, pcSameLists, pcIs0, pcIsE, pcSbN], 125, [], [fB], []⟩) (L := [Pp6 n']) mix Tryd.func4 rfl (by kernel_rfl) (by kernel_rfl) rfl rfl ?_
  ((conv => (arg 1; reduce)); with_reducible repeat' (first | exact Tr.yes_h | refine Tr.and_h ?_ ?_ | refine Tr.imp_h fun _ => ?_ | refine Tr.all_h fun _ => ?_ | refine Tr.lf_h ?_))
  all_goals try (first | first | (show Region.lexB _ _ = true; kernel_rfl) | (show planned _ _ = true; kernel_rfl) | exact rfl | exact True.intro | ((try dsimp only [imp, C0, cG, cInt, cPl, cSlot, cPg, rwCodec, cRaw] at *); (try refine inR64 ?_ ?_) <;> (try simp only [List.length_set, List.length_append, List.length_take, List.length_drop]) <;> omega))
  all_goals try (first | (first | first | (show Region.lexB _ _ = true; kernel_rfl) | (show planned _ _ = true; kernel_rfl) | exact rfl | exact True.intro | ((try dsimp only [imp, C0, cG, cInt, cPl, cSlot, cPg, rwCodec, cRaw] at *); (try refine inR64 ?_ ?_) <;> (try simp only [List.length_set, List.length_append, List.length_take, List.length_drop]) <;> omega)) | ((try dsimp only [imp, C0, cG, cInt, cPl, cSlot, cPg, rwCodec, cRaw, Pp6] at *); (try simp only [decide_eq_true_eq, decide_eq_false_iff_not, Bool.and_eq_true, Bool.or_eq_true, Bool.or_eq_false_iff, Bool.and_eq_false_iff, Bool.not_eq_true', Bool.not_eq_false', SB.val, List.length_append, List.length_cons, List.length_nil, List.length_take, List.length_drop] at *); (first | omega | exact inR64 (by omega) (by omega) | (refine inR64 ?_ ?_ <;> omega))) | (refine on_of ho ?_; ((try dsimp only [imp, C0, cG, cInt, cPl, cSlot, cPg, rwCodec, cRaw, Pp6] at *); (try simp only [decide_eq_true_eq, decide_eq_false_iff_not, Bool.and_eq_true, Bool.or_eq_true, Bool.or_eq_false_iff, Bool.and_eq_false_iff, Bool.not_eq_true', Bool.not_eq_false', SB.val, List.length_append, List.length_cons, List.length_nil, List.length_take, List.length_drop] at *); (first | omega | exact inR64 (by omega) (by omega) | (refine inR64 ?_ ?_ <;> omega)))))
  · rename_i d0
    refine Stands.one ((0 : Nat), (0 : Int)) ⟨⟨Nat.zero_le _, by decide, by decide⟩, ?_⟩
    ((conv => (arg 1; reduce)); with_reducible repeat' (first | exact Tr.yes_h | refine Tr.and_h ?_ ?_ | refine Tr.imp_h fun _ => ?_ | refine Tr.all_h fun _ => ?_ | refine Tr.lf_h ?_))
    all_goals (first | first | (show Region.lexB _ _ = true; kernel_rfl) | (show planned _ _ = true; kernel_rfl) | exact rfl | exact True.intro | ((try dsimp only [imp, C0, cG, cInt, cPl, cSlot, cPg, rwCodec, cRaw] at *); (try refine inR64 ?_ ?_) <;> (try simp only [List.length_set, List.length_append, List.length_take, List.length_drop]) <;> omega))
  · rename_i d0 v hv d1
    have d1 : v.1 < n' := Int.ofNat_lt.1 (of_decide_eq_true d1)
    show (v.1 : Int).toNat + 0 < l'.length
    omega
  · rename_i d0 v hv d1 r g1
    change Rw Int at r
    have d1 : v.1 < n' := Int.ofNat_lt.1 (of_decide_eq_true d1)
    have g1 : l'.getD v.1 Rw.nil = r := g1
    exact pp_in hv (pp_p d0).2 d1 (hlen r (row_mem d1 h2 g1))
  · rename_i d0 v hv d1 r g1
    change Rw Int at r
    have d1 : v.1 < n' := Int.ofNat_lt.1 (of_decide_eq_true d1)
    have g1 : l'.getD v.1 Rw.nil = r := g1
    obtain ⟨k1, k2⟩ := pp_st hv d1 (hlen r (row_mem d1 h2 g1))
    refine Stands.one (v.1 + 1, v.2 + (r.l.length : Int)) ⟨k1, k2, ?_⟩
    ((conv => (arg 1; reduce)); with_reducible repeat' (first | exact Tr.yes_h | refine Tr.and_h ?_ ?_ | refine Tr.imp_h fun _ => ?_ | refine Tr.all_h fun _ => ?_ | refine Tr.lf_h ?_))
    all_goals (first | first | (show Region.lexB _ _ = true; kernel_rfl) | (show planned _ _ = true; kernel_rfl) | exact rfl | exact True.intro | ((try dsimp only [imp, C0, cG, cInt, cPl, cSlot, cPg, rwCodec, cRaw] at *); (try refine inR64 ?_ ?_) <;> (try simp only [List.length_set, List.length_append, List.length_take, List.length_drop]) <;> omega))
  · rename_i d0 v hv d1 d2
    exact ⟨h1, Nat.le_trans (pp_p d0).1 (by decide), hp⟩
  · rename_i d0 v hv d1 d2 y1 z1
    exact ⟨h1, Nat.le_trans (pp_p d0).1 (by decide), hp⟩
  · exact ⟨Nat.le_refl _, Nat.le_refl _, fun _ => ⟨rfl, rfl⟩, fun _ => ⟨rfl, rfl⟩, by simp, by simp, by decide⟩
  · exact pp
  · rename_i w
    exact (pp_w1 cp w).elim
  · rename_i d0 v hv d1 d2 y1 z1 y2 z2 w
    exact ⟨⟨by rw [Nat.zero_add]; exact h2, ho, hr, Nat.le_trans (pp_p d0).2 (by decide)⟩, hj⟩
  · rename_i d0 v hv d1 d2 y1 z1 y2 z2 w y3 z3
    exact ⟨⟨by rw [Nat.zero_add]; exact h2, ho, hr, Nat.le_trans (pp_p d0).2 (by decide)⟩, hj⟩
  · exact ⟨Nat.le_refl _, Nat.le_refl _, fun _ => ⟨rfl, rfl⟩, fun _ => ⟨rfl, rfl⟩, fun x hx => by simp at hx, fun x hx => by simp at hx⟩
  · exact pj
  · rename_i w
    exact (pp_w2 cj w).elim
set_option maxHeartbeats 16000000 in
theorem pieces4ES (hA : Apart) (gp gj : Nat) (gp3 : gp < 3) (gj3 : gj < 3) (o : Bool) (b q : Nat) (l : List Int) (n c : Nat) (s num : Int) (o' : Bool) (b' q' : Nat) (l' : List (Rw Int)) (n' c' : Nat) (h1 : Sq.ok (o, b, q, l, n, c)) (hb : Bys (l.take n)) (h2 : n' ≤ l'.length) (ho : o' = false → n' = 0 ∧ c' = 0)
    (hr : ∀ r ∈ l'.take n', Rok r ∧ Bys r.l) (hlen : ∀ r ∈ l'.take n', r.l.length ≤ 2000000) (hp : PErr s num n gp) (hj : ∃ x s, JOk (rowL l' 0 n') x s) :
    Tells (C := C0) Tryd.prog (.fn 4) [⟨b, q, 1, false, some o, .rows 5 l⟩, ⟨b', q', 1, false, some o', .rows 26 l'⟩] [.sl 0 0 n c, .int .i64 s, .int .i64 num, .sl 1 0 n' c'] (.bool .t) := by
  have cp := codeG_ok hA gp gp3
  have cj := codeG_ok hA gj gj3
  have pp : Plain C0 (Gl.A gp) := plainG gp gp3
  have pj : Plain C0 (Gl.A gj) := plainG gj gj3
  refine loc_pc (P := Tryd.prog) (E := ⟨[fcPiecesE gp, fcRpiecesE gp, fcJoinS, fcRjoinS], [pcFirst, pcSameLists, pcIs0, pcIsE, pcSbN], 125, [], [fB], []⟩) (L := [Pp6 n']) mix Tryd.func4 rfl (by kernel_rfl) (by kernel_rfl) rfl rfl ?_
  ((conv => (arg 1; reduce)); with_reducible repeat' (first | exact Tr.yes_h | refine Tr.and_h ?_ ?_ | refine Tr.imp_h fun _ => ?_ | refine Tr.all_h fun _ => ?_ | refine Tr.lf_h ?_))
  all_goals try (first | first | (show Region.lexB _ _ = true; kernel_rfl) | (show planned _ _ = true; kernel_rfl) | exact rfl | exact True.intro | ((try dsimp only [imp, C0, cG, cInt, cPl, cSlot, cPg, rwCodec, cRaw] at *); (try refine inR64 ?_ ?_) <;> (try simp only [List.length_set, List.length_append, List.length_take, List.length_drop]) <;> omega))
  all_goals try (first | (first | first | (show Region.lexB _ _ = true; kernel_rfl) | (show planned _ _ = true; kernel_rfl) | exact rfl | exact True.intro | ((try dsimp only [imp, C0, cG, cInt, cPl, cSlot, cPg, rwCodec, cRaw] at *); (try refine inR64 ?_ ?_) <;> (try simp only [List.length_set, List.length_append, List.length_take, List.length_drop]) <;> omega)) | ((try dsimp only [imp, C0, cG, cInt, cPl, cSlot, cPg, rwCodec, cRaw, Pp6] at *); (try simp only [decide_eq_true_eq, decide_eq_false_iff_not, Bool.and_eq_true, Bool.or_eq_true, Bool.or_eq_false_iff, Bool.and_eq_false_iff, Bool.not_eq_true', Bool.not_eq_false', SB.val, List.length_append, List.length_cons, List.length_nil, List.length_take, List.length_drop] at *); (first | omega | exact inR64 (by omega) (by omega) | (refine inR64 ?_ ?_ <;> omega))) | (refine on_of ho ?_; ((try dsimp only [imp, C0, cG, cInt, cPl, cSlot, cPg, rwCodec, cRaw, Pp6] at *); (try simp only [decide_eq_true_eq, decide_eq_false_iff_not, Bool.and_eq_true, Bool.or_eq_true, Bool.or_eq_false_iff, Bool.and_eq_false_iff, Bool.not_eq_true', Bool.not_eq_false', SB.val, List.length_append, List.length_cons, List.length_nil, List.length_take, List.length_drop] at *); (first | omega | exact inR64 (by omega) (by omega) | (refine inR64 ?_ ?_ <;> omega)))))
  · rename_i d0
    refine Stands.one ((0 : Nat), (0 : Int)) ⟨⟨Nat.zero_le _, by decide, by decide⟩, ?_⟩
    ((conv => (arg 1; reduce)); with_reducible repeat' (first | exact Tr.yes_h | refine Tr.and_h ?_ ?_ | refine Tr.imp_h fun _ => ?_ | refine Tr.all_h fun _ => ?_ | refine Tr.lf_h ?_))
    all_goals (first | first | (show Region.lexB _ _ = true; kernel_rfl) | (show planned _ _ = true; kernel_rfl) | exact rfl | exact True.intro | ((try dsimp only [imp, C0, cG, cInt, cPl, cSlot, cPg, rwCodec, cRaw] at *); (try refine inR64 ?_ ?_) <;> (try simp only [List.length_set, List.length_append, List.length_take, List.length_drop]) <;> omega))
  · rename_i d0 v hv d1
    have d1 : v.1 < n' := Int.ofNat_lt.1 (of_decide_eq_true d1)
    show (v.1 : Int).toNat + 0 < l'.length
    omega
  · rename_i d0 v hv d1 r g1
    change Rw Int at r
    have d1 : v.1 < n' := Int.ofNat_lt.1 (of_decide_eq_true d1)
    have g1 : l'.getD v.1 Rw.nil = r := g1
    exact pp_in hv (pp_p d0).2 d1 (hlen r (row_mem d1 h2 g1))
  · rename_i d0 v hv d1 r g1
    change Rw Int at r
    have d1 : v.1 < n' := Int.ofNat_lt.1 (of_decide_eq_true d1)
    have g1 : l'.getD v.1 Rw.nil = r := g1
    obtain ⟨k1, k2⟩ := pp_st hv d1 (hlen r (row_mem d1 h2 g1))
    refine Stands.one (v.1 + 1, v.2 + (r.l.length : Int)) ⟨k1, k2, ?_⟩
    ((conv => (arg 1; reduce)); with_reducible repeat' (first | exact Tr.yes_h | refine Tr.and_h ?_ ?_ | refine Tr.imp_h fun _ => ?_ | refine Tr.all_h fun _ => ?_ | refine Tr.lf_h ?_))
    all_goals (first | first | (show Region.lexB _ _ = true; kernel_rfl) | (show planned _ _ = true; kernel_rfl) | exact rfl | exact True.intro | ((try dsimp only [imp, C0, cG, cInt, cPl, cSlot, cPg, rwCodec, cRaw] at *); (try refine inR64 ?_ ?_) <;> (try simp only [List.length_set, List.length_append, List.length_take, List.length_drop]) <;> omega))
  · rename_i d0 v hv d1 d2
    exact ⟨h1, Nat.le_trans (pp_p d0).1 (by decide), hp⟩
  · rename_i d0 v hv d1 d2 y1 z1
    exact ⟨h1, Nat.le_trans (pp_p d0).1 (by decide), hp⟩
  · exact ⟨Nat.le_refl _, Nat.le_refl _, fun _ => ⟨rfl, rfl⟩, fun _ => ⟨rfl, rfl⟩, by simp, by simp, by decide⟩
  · exact pp
  · rename_i w
    exact (pp_w1 cp w).elim
  · rename_i d0 v hv d1 d2 y1 z1 y2 z2 w
    exact ⟨⟨by rw [Nat.zero_add]; exact h2, ho, hr, Nat.le_trans (pp_p d0).2 (by decide)⟩, hj⟩
  · rename_i d0 v hv d1 d2 y1 z1 y2 z2 w y3 z3
    exact ⟨⟨by rw [Nat.zero_add]; exact h2, ho, hr, Nat.le_trans (pp_p d0).2 (by decide)⟩, hj⟩
  · rename_i y3 z3 y4 z4 w2
    exact (js2 (y4 := y3) (y2 := y4) (jout_bys (i := 0) hr) z3 z4).2.2
  · rename_i y3 z3 y4 z4 w2
    have k := js2 (y4 := y3) (y2 := y4) (jout_bys (i := 0) hr) z3 z4
    exact (pp_w3 (y4 := y3) (y2 := y4) k.1 k.2.1 w2).elim
set_option maxHeartbeats 16000000 in
theorem pieces4SE (hA : Apart) (gp gj : Nat) (gp3 : gp < 3) (gj3 : gj < 3) (o : Bool) (b q : Nat) (l : List Int) (n c : Nat) (s num : Int) (o' : Bool) (b' q' : Nat) (l' : List (Rw Int)) (n' c' : Nat) (h1 : Sq.ok (o, b, q, l, n, c)) (hb : Bys (l.take n)) (h2 : n' ≤ l'.length) (ho : o' = false → n' = 0 ∧ c' = 0)
    (hr : ∀ r ∈ l'.take n', Rok r ∧ Bys r.l) (hlen : ∀ r ∈ l'.take n', r.l.length ≤ 2000000) (hp : (16 ≤ s ∧ s ≤ 1024) ∧ cn num = true ∧ n ≤ 64 * (s.toNat - 12)) (hj : JErr (rowL l' 0 n') gj) :
    Tells (C := C0) Tryd.prog (.fn 4) [⟨b, q, 1, false, some o, .rows 5 l⟩, ⟨b', q', 1, false, some o', .rows 26 l'⟩] [.sl 0 0 n c, .int .i64 s, .int .i64 num, .sl 1 0 n' c'] (.bool .t) := by
  have cp := codeG_ok hA gp gp3
  have cj := codeG_ok hA gj gj3
  have pp : Plain C0 (Gl.A gp) := plainG gp gp3
  have pj : Plain C0 (Gl.A gj) := plainG gj gj3
  refine loc_pc (P := Tryd.prog) (E := ⟨[fcPiecesS, fcRpiecesS, fcJoinE gj, fcRjoinE gj, fcJoinS], [pcFirst, pcSameLists, pcIs0, pcIsE, pcSbN], 125, [], [fB], []⟩) (L := [Pp6 n']) mix Tryd.func4 rfl (by kernel_rfl) (by kernel_rfl) rfl rfl ?_
  ((conv => (arg 1; reduce)); with_reducible repeat' (first | exact Tr.yes_h | refine Tr.and_h ?_ ?_ | refine Tr.imp_h fun _ => ?_ | refine Tr.all_h fun _ => ?_ | refine Tr.lf_h ?_))
  all_goals try (first | first | (show Region.lexB _ _ = true; kernel_rfl) | (show planned _ _ = true; kernel_rfl) | exact rfl | exact True.intro | ((try dsimp only [imp, C0, cG, cInt, cPl, cSlot, cPg, rwCodec, cRaw] at *); (try refine inR64 ?_ ?_) <;> (try simp only [List.length_set, List.length_append, List.length_take, List.length_drop]) <;> omega))
  all_goals try (first | (first | first | (show Region.lexB _ _ = true; kernel_rfl) | (show planned _ _ = true; kernel_rfl) | exact rfl | exact True.intro | ((try dsimp only [imp, C0, cG, cInt, cPl, cSlot, cPg, rwCodec, cRaw] at *); (try refine inR64 ?_ ?_) <;> (try simp only [List.length_set, List.length_append, List.length_take, List.length_drop]) <;> omega)) | ((try dsimp only [imp, C0, cG, cInt, cPl, cSlot, cPg, rwCodec, cRaw, Pp6] at *); (try simp only [decide_eq_true_eq, decide_eq_false_iff_not, Bool.and_eq_true, Bool.or_eq_true, Bool.or_eq_false_iff, Bool.and_eq_false_iff, Bool.not_eq_true', Bool.not_eq_false', SB.val, List.length_append, List.length_cons, List.length_nil, List.length_take, List.length_drop] at *); (first | omega | exact inR64 (by omega) (by omega) | (refine inR64 ?_ ?_ <;> omega))) | (refine on_of ho ?_; ((try dsimp only [imp, C0, cG, cInt, cPl, cSlot, cPg, rwCodec, cRaw, Pp6] at *); (try simp only [decide_eq_true_eq, decide_eq_false_iff_not, Bool.and_eq_true, Bool.or_eq_true, Bool.or_eq_false_iff, Bool.and_eq_false_iff, Bool.not_eq_true', Bool.not_eq_false', SB.val, List.length_append, List.length_cons, List.length_nil, List.length_take, List.length_drop] at *); (first | omega | exact inR64 (by omega) (by omega) | (refine inR64 ?_ ?_ <;> omega)))))
  · rename_i d0
    refine Stands.one ((0 : Nat), (0 : Int)) ⟨⟨Nat.zero_le _, by decide, by decide⟩, ?_⟩
    ((conv => (arg 1; reduce)); with_reducible repeat' (first | exact Tr.yes_h | refine Tr.and_h ?_ ?_ | refine Tr.imp_h fun _ => ?_ | refine Tr.all_h fun _ => ?_ | refine Tr.lf_h ?_))
    all_goals (first | first | (show Region.lexB _ _ = true; kernel_rfl) | (show planned _ _ = true; kernel_rfl) | exact rfl | exact True.intro | ((try dsimp only [imp, C0, cG, cInt, cPl, cSlot, cPg, rwCodec, cRaw] at *); (try refine inR64 ?_ ?_) <;> (try simp only [List.length_set, List.length_append, List.length_take, List.length_drop]) <;> omega))
  · rename_i d0 v hv d1
    have d1 : v.1 < n' := Int.ofNat_lt.1 (of_decide_eq_true d1)
    show (v.1 : Int).toNat + 0 < l'.length
    omega
  · rename_i d0 v hv d1 r g1
    change Rw Int at r
    have d1 : v.1 < n' := Int.ofNat_lt.1 (of_decide_eq_true d1)
    have g1 : l'.getD v.1 Rw.nil = r := g1
    exact pp_in hv (pp_p d0).2 d1 (hlen r (row_mem d1 h2 g1))
  · rename_i d0 v hv d1 r g1
    change Rw Int at r
    have d1 : v.1 < n' := Int.ofNat_lt.1 (of_decide_eq_true d1)
    have g1 : l'.getD v.1 Rw.nil = r := g1
    obtain ⟨k1, k2⟩ := pp_st hv d1 (hlen r (row_mem d1 h2 g1))
    refine Stands.one (v.1 + 1, v.2 + (r.l.length : Int)) ⟨k1, k2, ?_⟩
    ((conv => (arg 1; reduce)); with_reducible repeat' (first | exact Tr.yes_h | refine Tr.and_h ?_ ?_ | refine Tr.imp_h fun _ => ?_ | refine Tr.all_h fun _ => ?_ | refine Tr.lf_h ?_))
    all_goals (first | first | (show Region.lexB _ _ = true; kernel_rfl) | (show planned _ _ = true; kernel_rfl) | exact rfl | exact True.intro | ((try dsimp only [imp, C0, cG, cInt, cPl, cSlot, cPg, rwCodec, cRaw] at *); (try refine inR64 ?_ ?_) <;> (try simp only [List.length_set, List.length_append, List.length_take, List.length_drop]) <;> omega))
  · rename_i d0 v hv d1 d2
    exact ⟨h1, (pp_p d0).1, hp, hb⟩
  · rename_i d0 v hv d1 d2 y1 z1
    exact ⟨h1, (pp_p d0).1, hp, hb⟩
  · rename_i y1 z1 y2 z2
    exact bk_sl (bk_n h1) z1 z2
  · rename_i y1 z1 y2 z2 w
    exact (bk_eq (bk_n h1) z1 z2 w).elim
  · rename_i d0 v hv d1 d2 y1 z1 y2 z2 w
    exact ⟨⟨by rw [Nat.zero_add]; exact h2, ho, hr, Nat.le_trans (pp_p d0).2 (by decide)⟩, hj⟩
  · rename_i d0 v hv d1 d2 y1 z1 y2 z2 w y3 z3
    exact ⟨⟨by rw [Nat.zero_add]; exact h2, ho, hr, Nat.le_trans (pp_p d0).2 (by decide)⟩, hj⟩
  · exact ⟨Nat.le_refl _, Nat.le_refl _, fun _ => ⟨rfl, rfl⟩, fun _ => ⟨rfl, rfl⟩, fun x hx => by simp at hx, fun x hx => by simp at hx⟩
  · exact pj
  · rename_i w
    exact (pp_w2 cj w).elim
  · rename_i z1 _ _ _ _ _ _ _ _
    exact bk_js (bk_n h1) z1
  · rename_i z1 _ _ _ _ _ _ _ _ y5 z5 _
    have k := bk_jn (bk_n h1) z1 z5
    exact ⟨k.2.2, by rw [Nat.zero_add]; exact h1.2.1, fun h => absurd h (by decide), h1.2.2, by rw [k.2.1]; exact hb, by rw [List.drop_zero]; exact hb⟩
  · rename_i z1 _ _ _ _ _ _ _ _ y5 z5
    have k := bk_jn (bk_n h1) z1 z5
    have e : ieq (List.take y5.1.2 (List.drop 0 y5.2.2.2)) (List.take n (List.drop 0 l)) = true := ieq_iff.2 (by rw [k.2.1, List.drop_zero])
    show (decide (y5.1.1 = num) && ieq (List.take y5.1.2 (List.drop 0 y5.2.2.2)) (List.take n (List.drop 0 l))) = true
    rw [e, k.1]; simp
set_option maxHeartbeats 16000000 in
theorem pieces4SS (hA : Apart) (gp gj : Nat) (gp3 : gp < 3) (gj3 : gj < 3) (o : Bool) (b q : Nat) (l : List Int) (n c : Nat) (s num : Int) (o' : Bool) (b' q' : Nat) (l' : List (Rw Int)) (n' c' : Nat) (h1 : Sq.ok (o, b, q, l, n, c)) (hb : Bys (l.take n)) (h2 : n' ≤ l'.length) (ho : o' = false → n' = 0 ∧ c' = 0)
    (hr : ∀ r ∈ l'.take n', Rok r ∧ Bys r.l) (hlen : ∀ r ∈ l'.take n', r.l.length ≤ 2000000) (hp : (16 ≤ s ∧ s ≤ 1024) ∧ cn num = true ∧ n ≤ 64 * (s.toNat - 12)) (hj : ∃ x s, JOk (rowL l' 0 n') x s) :
    Tells (C := C0) Tryd.prog (.fn 4) [⟨b, q, 1, false, some o, .rows 5 l⟩, ⟨b', q', 1, false, some o', .rows 26 l'⟩] [.sl 0 0 n c, .int .i64 s, .int .i64 num, .sl 1 0 n' c'] (.bool .t) := by
  have cp := codeG_ok hA gp gp3
  have cj := codeG_ok hA gj gj3
  have pp : Plain C0 (Gl.A gp) := plainG gp gp3
  have pj : Plain C0 (Gl.A gj) := plainG gj gj3
  refine loc_pc (P := Tryd.prog) (E := ⟨[fcPiecesS, fcRpiecesS, fcJoinS, fcRjoinS], [pcFirst, pcSameLists, pcIs0, pcIsE, pcSbN], 125, [], [fB], []⟩) (L := [Pp6 n']) mix Tryd.func4 rfl (by kernel_rfl) (by kernel_rfl) rfl rfl ?_
  ((conv => (arg 1; reduce)); with_reducible repeat' (first | exact Tr.yes_h | refine Tr.and_h ?_ ?_ | refine Tr.imp_h fun _ => ?_ | refine Tr.all_h fun _ => ?_ | refine Tr.lf_h ?_))
  all_goals try (first | first | (show Region.lexB _ _ = true; kernel_rfl) | (show planned _ _ = true; kernel_rfl) | exact rfl | exact True.intro | ((try dsimp only [imp, C0, cG, cInt, cPl, cSlot, cPg, rwCodec, cRaw] at *); (try refine inR64 ?_ ?_) <;> (try simp only [List.length_set, List.length_append, List.length_take, List.length_drop]) <;> omega))
  all_goals try (first | (first | first | (show Region.lexB _ _ = true; kernel_rfl) | (show planned _ _ = true; kernel_rfl) | exact rfl | exact True.intro | ((try dsimp only [imp, C0, cG, cInt, cPl, cSlot, cPg, rwCodec, cRaw] at *); (try refine inR64 ?_ ?_) <;> (try simp only [List.length_set, List.length_append, List.length_take, List.length_drop]) <;> omega)) | ((try dsimp only [imp, C0, cG, cInt, cPl, cSlot, cPg, rwCodec, cRaw, Pp6] at *); (try simp only [decide_eq_true_eq, decide_eq_false_iff_not, Bool.and_eq_true, Bool.or_eq_true, Bool.or_eq_false_iff, Bool.and_eq_false_iff, Bool.not_eq_true', Bool.not_eq_false', SB.val, List.length_append, List.length_cons, List.length_nil, List.length_take, List.length_drop] at *); (first | omega | exact inR64 (by omega) (by omega) | (refine inR64 ?_ ?_ <;> omega))) | (refine on_of ho ?_; ((try dsimp only [imp, C0, cG, cInt, cPl, cSlot, cPg, rwCodec, cRaw, Pp6] at *); (try simp only [decide_eq_true_eq, decide_eq_false_iff_not, Bool.and_eq_true, Bool.or_eq_true, Bool.or_eq_false_iff, Bool.and_eq_false_iff, Bool.not_eq_true', Bool.not_eq_false', SB.val, List.length_append, List.length_cons, List.length_nil, List.length_take, List.length_drop] at *); (first | omega | exact inR64 (by omega) (by omega) | (refine inR64 ?_ ?_ <;> omega)))))
  · rename_i d0
    refine Stands.one ((0 : Nat), (0 : Int)) ⟨⟨Nat.zero_le _, by decide, by decide⟩, ?_⟩
    ((conv => (arg 1; reduce)); with_reducible repeat' (first | exact Tr.yes_h | refine Tr.and_h ?_ ?_ | refine Tr.imp_h fun _ => ?_ | refine Tr.all_h fun _ => ?_ | refine Tr.lf_h ?_))
    all_goals (first | first | (show Region.lexB _ _ = true; kernel_rfl) | (show planned _ _ = true; kernel_rfl) | exact rfl | exact True.intro | ((try dsimp only [imp, C0, cG, cInt, cPl, cSlot, cPg, rwCodec, cRaw] at *); (try refine inR64 ?_ ?_) <;> (try simp only [List.length_set, List.length_append, List.length_take, List.length_drop]) <;> omega))
  · rename_i d0 v hv d1
    have d1 : v.1 < n' := Int.ofNat_lt.1 (of_decide_eq_true d1)
    show (v.1 : Int).toNat + 0 < l'.length
    omega
  · rename_i d0 v hv d1 r g1
    change Rw Int at r
    have d1 : v.1 < n' := Int.ofNat_lt.1 (of_decide_eq_true d1)
    have g1 : l'.getD v.1 Rw.nil = r := g1
    exact pp_in hv (pp_p d0).2 d1 (hlen r (row_mem d1 h2 g1))
  · rename_i d0 v hv d1 r g1
    change Rw Int at r
    have d1 : v.1 < n' := Int.ofNat_lt.1 (of_decide_eq_true d1)
    have g1 : l'.getD v.1 Rw.nil = r := g1
    obtain ⟨k1, k2⟩ := pp_st hv d1 (hlen r (row_mem d1 h2 g1))
    refine Stands.one (v.1 + 1, v.2 + (r.l.length : Int)) ⟨k1, k2, ?_⟩
    ((conv => (arg 1; reduce)); with_reducible repeat' (first | exact Tr.yes_h | refine Tr.and_h ?_ ?_ | refine Tr.imp_h fun _ => ?_ | refine Tr.all_h fun _ => ?_ | refine Tr.lf_h ?_))
    all_goals (first | first | (show Region.lexB _ _ = true; kernel_rfl) | (show planned _ _ = true; kernel_rfl) | exact rfl | exact True.intro | ((try dsimp only [imp, C0, cG, cInt, cPl, cSlot, cPg, rwCodec, cRaw] at *); (try refine inR64 ?_ ?_) <;> (try simp only [List.length_set, List.length_append, List.length_take, List.length_drop]) <;> omega))
  · rename_i d0 v hv d1 d2
    exact ⟨h1, (pp_p d0).1, hp, hb⟩
  · rename_i d0 v hv d1 d2 y1 z1
    exact ⟨h1, (pp_p d0).1, hp, hb⟩
  · rename_i y1 z1 y2 z2
    exact bk_sl (bk_n h1) z1 z2
  · rename_i y1 z1 y2 z2 w
    exact (bk_eq (bk_n h1) z1 z2 w).elim
  · rename_i d0 v hv d1 d2 y1 z1 y2 z2 w
    exact ⟨⟨by rw [Nat.zero_add]; exact h2, ho, hr, Nat.le_trans (pp_p d0).2 (by decide)⟩, hj⟩
  · rename_i d0 v hv d1 d2 y1 z1 y2 z2 w y3 z3
    exact ⟨⟨by rw [Nat.zero_add]; exact h2, ho, hr, Nat.le_trans (pp_p d0).2 (by decide)⟩, hj⟩
  · rename_i y3 z3 y4 z4 w2
    exact (js2 (y4 := y3) (y2 := y4) (jout_bys (i := 0) hr) z3 z4).2.2
  · rename_i y3 z3 y4 z4 w2
    have k := js2 (y4 := y3) (y2 := y4) (jout_bys (i := 0) hr) z3 z4
    exact (pp_w3 (y4 := y3) (y2 := y4) k.1 k.2.1 w2).elim
  · rename_i z1 _ _ _ _ _ _ _ _
    exact bk_js (bk_n h1) z1
  · rename_i z1 _ _ _ _ _ _ _ _ y5 z5 _
    have k := bk_jn (bk_n h1) z1 z5
    exact ⟨k.2.2, by rw [Nat.zero_add]; exact h1.2.1, fun h => absurd h (by decide), h1.2.2, by rw [k.2.1]; exact hb, by rw [List.drop_zero]; exact hb⟩
  · rename_i z1 _ _ _ _ _ _ _ _ y5 z5
    have k := bk_jn (bk_n h1) z1 z5
    have e : ieq (List.take y5.1.2 (List.drop 0 y5.2.2.2)) (List.take n (List.drop 0 l)) = true := ieq_iff.2 (by rw [k.2.1, List.drop_zero])
    show (decide (y5.1.1 = num) && ieq (List.take y5.1.2 (List.drop 0 y5.2.2.2)) (List.take n (List.drop 0 l))) = true
    rw [e, k.1]; simp
end Go.Vx
set_option linter.unusedSectionVars false
set_option maxRecDepth 100000
set_option linter.unusedVariables false
set_option linter.unusedSimpArgs false
namespace Go.Vx
open Go Go.Proofs
variable [Gl0]

abbrev rr (l : List Raw) (v : Nat) : Nat := (l.getD v (none, 0, 0)).2.1
def JoO (l : List Raw) (n : Nat) : Inv' C0 := ⟨4, Nat, fun k => [(36, .int .i64 (k : Int))], fun x m => m, fun k => k ≤ n ∧ ∀ j, j < k → rr l j = rr l 0, fun k => n - k⟩
def RjO (l : List Raw) (n : Nat) : Inv' C0 := ⟨4, Nat, fun k => [(5, .int .i64 (k : Int)), (23, .junk), (27, .junk), (34, .junk), (42, .junk)], fun x m => match m with
  | a :: _ => [a]
  | m => m, fun k => k ≤ n ∧ ∀ j, j < k → 16 ≤ rr l j, fun k => n - k⟩
theorem joinO_ok (o : Bool) (b q : Nat) (l : List Raw) (n c : Nat) (h1 : n ≤ l.length) (ho : o = false → n = 0 ∧ c = 0) (hr : ∃ v, v < n ∧ rr l v = 0) (hn : n ≤ 1000000) :
    Does (C := C0) Tryd.prog (.fn 24) [⟨b, q, 1, false, some o, .rows 1071 l⟩] [.sl 0 0 n c]
    [⟨Unit, fun _ => True, fun _ => .tup [.int .i64 0, .nils, eV 2], fun _ => [⟨b, q, 1, false, some o, .rows 1071 l⟩]⟩] := by
  refine loc_fn (P := Tryd.prog) (E := ⟨[], [], 132, [], [], []⟩) (L := [JoO l n]) mix Tryd.func24 rfl (by kernel_rfl) (by kernel_rfl) rfl rfl ?_
  ((conv => (arg 1; reduce)); with_reducible repeat' (first | exact Tr.yes_h | refine Tr.and_h ?_ ?_ | refine Tr.imp_h fun _ => ?_ | refine Tr.all_h fun _ => ?_ | refine Tr.lf_h ?_))
  all_goals try (first | first | (show Region.lexB _ _ = true; kernel_rfl) | (show planned _ _ = true; kernel_rfl) | exact rfl | exact True.intro | ((try dsimp only [imp, C0, cG, cInt, cPl, cSlot, cPg, rwCodec, cRaw] at *); (try refine inR64 ?_ ?_) <;> (try simp only [List.length_set, List.length_append, List.length_take, List.length_drop]) <;> omega))
  all_goals try (first | (first | first | (show Region.lexB _ _ = true; kernel_rfl) | (show planned _ _ = true; kernel_rfl) | exact rfl | exact True.intro | ((try dsimp only [imp, C0, cG, cInt, cPl, cSlot, cPg, rwCodec, cRaw] at *); (try refine inR64 ?_ ?_) <;> (try simp only [List.length_set, List.length_append, List.length_take, List.length_drop]) <;> omega)) | ((try dsimp only [imp, C0, cG, cInt, cPl, cSlot, cPg, rwCodec, cRaw, JoO] at *); (try simp only [decide_eq_true_eq, decide_eq_false_iff_not, Bool.and_eq_true, Bool.or_eq_true, Bool.or_eq_false_iff, Bool.and_eq_false_iff, Bool.not_eq_true', Bool.not_eq_false', SB.val, List.length_append, List.length_cons, List.length_nil, List.length_take, List.length_drop] at *); (first | omega | exact inR64 (by omega) (by omega) | (refine inR64 ?_ ?_ <;> omega))) | (refine on_of ho ?_; ((try dsimp only [imp, C0, cG, cInt, cPl, cSlot, cPg, rwCodec, cRaw, JoO] at *); (try simp only [decide_eq_true_eq, decide_eq_false_iff_not, Bool.and_eq_true, Bool.or_eq_true, Bool.or_eq_false_iff, Bool.and_eq_false_iff, Bool.not_eq_true', Bool.not_eq_false', SB.val, List.length_append, List.length_cons, List.length_nil, List.length_take, List.length_drop] at *); (first | omega | exact inR64 (by omega) (by omega) | (refine inR64 ?_ ?_ <;> omega)))))
  · refine Ends.one () trivial ?_
    ((conv => (arg 1; reduce)); with_reducible repeat' (first | exact Tr.yes_h | refine Tr.and_h ?_ ?_ | refine Tr.imp_h fun _ => ?_ | refine Tr.all_h fun _ => ?_ | refine Tr.lf_h ?_))
    all_goals (first | first | (show Region.lexB _ _ = true; kernel_rfl) | (show planned _ _ = true; kernel_rfl) | exact rfl | exact True.intro | ((try dsimp only [imp, C0, cG, cInt, cPl, cSlot, cPg, rwCodec, cRaw] at *); (try refine inR64 ?_ ?_) <;> (try simp only [List.length_set, List.length_append, List.length_take, List.length_drop]) <;> omega))
  · refine Stands.one (0 : Nat) ⟨⟨Nat.zero_le _, fun j hj => absurd hj (Nat.not_lt_zero j)⟩, ?_⟩
    ((conv => (arg 1; reduce)); with_reducible repeat' (first | exact Tr.yes_h | refine Tr.and_h ?_ ?_ | refine Tr.imp_h fun _ => ?_ | refine Tr.all_h fun _ => ?_ | refine Tr.lf_h ?_))
    all_goals (first | first | (show Region.lexB _ _ = true; kernel_rfl) | (show planned _ _ = true; kernel_rfl) | exact rfl | exact True.intro | ((try dsimp only [imp, C0, cG, cInt, cPl, cSlot, cPg, rwCodec, cRaw] at *); (try refine inR64 ?_ ?_) <;> (try simp only [List.length_set, List.length_append, List.length_take, List.length_drop]) <;> omega))
  · refine Ends.one () trivial ?_
    ((conv => (arg 1; reduce)); with_reducible repeat' (first | exact Tr.yes_h | refine Tr.and_h ?_ ?_ | refine Tr.imp_h fun _ => ?_ | refine Tr.all_h fun _ => ?_ | refine Tr.lf_h ?_))
    all_goals (first | first | (show Region.lexB _ _ = true; kernel_rfl) | (show planned _ _ = true; kernel_rfl) | exact rfl | exact True.intro | ((try dsimp only [imp, C0, cG, cInt, cPl, cSlot, cPg, rwCodec, cRaw] at *); (try refine inR64 ?_ ?_) <;> (try simp only [List.length_set, List.length_append, List.length_take, List.length_drop]) <;> omega))
  · rename_i d0 v hv d1 d2
    change Nat at v
    have d1 : v < n := Int.ofNat_lt.1 (of_decide_eq_true d1)
    have d2 : ¬ ((rr l v : Nat) : Int) ≠ (rr l 0 : Nat) := of_decide_eq_false d2
    obtain ⟨e1, e2⟩ := hv
    refine Stands.one (v + 1 : Nat) ⟨⟨d1, fun j hj => ?_⟩, ?_, ?_⟩
    · rcases Nat.lt_succ_iff_lt_or_eq.1 hj with h | h
      · exact e2 j h
      · rw [h]; omega
    · show n - (v + 1) < n - v
      omega
    ((conv => (arg 1; reduce)); with_reducible repeat' (first | exact Tr.yes_h | refine Tr.and_h ?_ ?_ | refine Tr.imp_h fun _ => ?_ | refine Tr.all_h fun _ => ?_ | refine Tr.lf_h ?_))
    all_goals (first | first | (show Region.lexB _ _ = true; kernel_rfl) | (show planned _ _ = true; kernel_rfl) | exact rfl | exact True.intro | ((try dsimp only [imp, C0, cG, cInt, cPl, cSlot, cPg, rwCodec, cRaw] at *); (try refine inR64 ?_ ?_) <;> (try simp only [List.length_set, List.length_append, List.length_take, List.length_drop]) <;> omega))
  · rename_i d0 v hv d1 _
    exfalso
    change Nat at v
    have d1 : ¬ (v : Int) < n := of_decide_eq_false d1
    obtain ⟨e1, e2⟩ : v ≤ n ∧ ∀ j, j < v → rr l j = rr l 0 := hv
    obtain ⟨w, w1, w2⟩ := hr
    have k := e2 w (by omega)
    have d0 : (decide ((n : Int) = 0) || decide (((rr l 0 : Nat) : Int) < 16) || decide (1024 < ((rr l 0 : Nat) : Int))) = false := d0
    simp only [Bool.or_eq_false_iff, decide_eq_false_iff_not] at d0
    omega
theorem rjoinO_ok (o : Bool) (b q : Nat) (l : List Raw) (n c : Nat) (h1 : n ≤ l.length) (ho : o = false → n = 0 ∧ c = 0) (hr : ∃ v, v < n ∧ rr l v = 0) (hn : n ≤ 1000000) :
    Does (C := C0) Tryd.prog (.fn 25) [⟨b, q, 1, false, some o, .rows 1071 l⟩] [.sl 0 0 n c]
    [⟨Unit, fun _ => True, fun _ => .tup [.int .i64 0, .nils, .int .i64 116], fun _ => [⟨b, q, 1, false, some o, .rows 1071 l⟩]⟩] := by
  refine loc_fn (P := Tryd.prog) (E := ⟨[], [], 121, [], [], []⟩) (L := [RjO l n]) mix Tryd.func25 rfl (by kernel_rfl) (by kernel_rfl) rfl rfl ?_
  ((conv => (arg 1; reduce)); with_reducible repeat' (first | exact Tr.yes_h | refine Tr.and_h ?_ ?_ | refine Tr.imp_h fun _ => ?_ | refine Tr.all_h fun _ => ?_ | refine Tr.lf_h ?_))
  all_goals try (first | first | (show Region.lexB _ _ = true; kernel_rfl) | (show planned _ _ = true; kernel_rfl) | exact rfl | exact True.intro | ((try dsimp only [imp, C0, cG, cInt, cPl, cSlot, cPg, rwCodec, cRaw] at *); (try refine inR64 ?_ ?_) <;> (try simp only [List.length_set, List.length_append, List.length_take, List.length_drop]) <;> omega))
  all_goals try (first | (first | first | (show Region.lexB _ _ = true; kernel_rfl) | (show planned _ _ = true; kernel_rfl) | exact rfl | exact True.intro | ((try dsimp only [imp, C0, cG, cInt, cPl, cSlot, cPg, rwCodec, cRaw] at *); (try refine inR64 ?_ ?_) <;> (try simp only [List.length_set, List.length_append, List.length_take, List.length_drop]) <;> omega)) | ((try dsimp only [imp, C0, cG, cInt, cPl, cSlot, cPg, rwCodec, cRaw, RjO] at *); (try simp only [decide_eq_true_eq, decide_eq_false_iff_not, Bool.and_eq_true, Bool.or_eq_true, Bool.or_eq_false_iff, Bool.and_eq_false_iff, Bool.not_eq_true', Bool.not_eq_false', SB.val, List.length_append, List.length_cons, List.length_nil, List.length_take, List.length_drop] at *); (first | omega | exact inR64 (by omega) (by omega) | (refine inR64 ?_ ?_ <;> omega))) | (refine on_of ho ?_; ((try dsimp only [imp, C0, cG, cInt, cPl, cSlot, cPg, rwCodec, cRaw, RjO] at *); (try simp only [decide_eq_true_eq, decide_eq_false_iff_not, Bool.and_eq_true, Bool.or_eq_true, Bool.or_eq_false_iff, Bool.and_eq_false_iff, Bool.not_eq_true', Bool.not_eq_false', SB.val, List.length_append, List.length_cons, List.length_nil, List.length_take, List.length_drop] at *); (first | omega | exact inR64 (by omega) (by omega) | (refine inR64 ?_ ?_ <;> omega)))))
  · refine Stands.one (0 : Nat) ⟨⟨Nat.zero_le _, fun j hj => absurd hj (Nat.not_lt_zero j)⟩, ?_⟩
    ((conv => (arg 1; reduce)); with_reducible repeat' (first | exact Tr.yes_h | refine Tr.and_h ?_ ?_ | refine Tr.imp_h fun _ => ?_ | refine Tr.all_h fun _ => ?_ | refine Tr.lf_h ?_))
    all_goals (first | first | (show Region.lexB _ _ = true; kernel_rfl) | (show planned _ _ = true; kernel_rfl) | exact rfl | exact True.intro | ((try dsimp only [imp, C0, cG, cInt, cPl, cSlot, cPg, rwCodec, cRaw] at *); (try refine inR64 ?_ ?_) <;> (try simp only [List.length_set, List.length_append, List.length_take, List.length_drop]) <;> omega))
  · refine Ends.one () trivial ?_
    ((conv => (arg 1; reduce)); with_reducible repeat' (first | exact Tr.yes_h | refine Tr.and_h ?_ ?_ | refine Tr.imp_h fun _ => ?_ | refine Tr.all_h fun _ => ?_ | refine Tr.lf_h ?_))
    all_goals (first | first | (show Region.lexB _ _ = true; kernel_rfl) | (show planned _ _ = true; kernel_rfl) | exact rfl | exact True.intro | ((try dsimp only [imp, C0, cG, cInt, cPl, cSlot, cPg, rwCodec, cRaw] at *); (try refine inR64 ?_ ?_) <;> (try simp only [List.length_set, List.length_append, List.length_take, List.length_drop]) <;> omega))
  · rename_i d0 v hv d1 d2
    change Nat at v
    have d1 : v < n := Int.ofNat_lt.1 (of_decide_eq_true d1)
    have d2 : (decide (((rr l v : Nat) : Int) ≠ (rr l 0 : Nat)) || decide (((rr l v : Nat) : Int) < 16) || decide (1024 < ((rr l v : Nat) : Int))) = false := d2
    simp only [Bool.or_eq_false_iff, decide_eq_false_iff_not] at d2
    obtain ⟨e1, e2⟩ := hv
    refine Stands.one (v + 1 : Nat) ⟨⟨d1, fun j hj => ?_⟩, ?_, ?_⟩
    · rcases Nat.lt_succ_iff_lt_or_eq.1 hj with h | h
      · exact e2 j h
      · rw [h]; omega
    · show n - (v + 1) < n - v
      omega
    ((conv => (arg 1; reduce)); with_reducible repeat' (first | exact Tr.yes_h | refine Tr.and_h ?_ ?_ | refine Tr.imp_h fun _ => ?_ | refine Tr.all_h fun _ => ?_ | refine Tr.lf_h ?_))
    all_goals (first | first | (show Region.lexB _ _ = true; kernel_rfl) | (show planned _ _ = true; kernel_rfl) | exact rfl | exact True.intro | ((try dsimp only [imp, C0, cG, cInt, cPl, cSlot, cPg, rwCodec, cRaw] at *); (try refine inR64 ?_ ?_) <;> (try simp only [List.length_set, List.length_append, List.length_take, List.length_drop]) <;> omega))
  · rename_i d0 v hv d1
    exfalso
    change Nat at v
    have d1 : ¬ (v : Int) < n := of_decide_eq_false d1
    obtain ⟨e1, e2⟩ : v ≤ n ∧ ∀ j, j < v → 16 ≤ rr l j := hv
    obtain ⟨w, w1, w2⟩ := hr
    have k := e2 w (by omega)
    omega
end Go.Vx
set_option linter.unusedSectionVars false
set_option maxRecDepth 100000
set_option linter.unusedVariables false
set_option linter.unusedSimpArgs false
namespace Go.Vx
open Go Go.Proofs
variable [Gl0]

def fcJoinO : Fc Tryd.prog C0 where
  tg := .fn 24
  X := Bool × Nat × Nat × List Raw × Nat × Nat
  args := fun (o, b, q, l, n, c) => [.sl 0 0 n c]
  mem := fun (o, b, q, l, n, c) => [⟨b, q, 1, false, some o, .rows 1071 l⟩]
  pre := fun (o, b, q, l, n, c) => n ≤ l.length ∧ (o = false → n = 0 ∧ c = 0) ∧ (∃ v, v < n ∧ rr l v = 0) ∧ n ≤ 1000000
  alts := fun (o, b, q, l, n, c) => [⟨Unit, fun _ => True, fun _ => .tup [.int .i64 0, .nils, eV 2], fun _ => [⟨b, q, 1, false, some o, .rows 1071 l⟩]⟩]
  mat vs m := match vs with
    | [.sl 1 0 n c] => match nth m 1 with
      | ⟨b, q, _, _, g, .rows 1071 l⟩ => some ((onOf g, b, q, l, n, c), [1])
      | _ => none
    | _ => none
  ok := fun (o, b, q, l, n, c) h => joinO_ok o b q l n c h.1 h.2.1 h.2.2.1 h.2.2.2
def fcRjoinO : Fc Tryd.prog C0 where
  tg := .fn 25
  X := Bool × Nat × Nat × List Raw × Nat × Nat
  args := fun (o, b, q, l, n, c) => [.sl 0 0 n c]
  mem := fun (o, b, q, l, n, c) => [⟨b, q, 1, false, some o, .rows 1071 l⟩]
  pre := fun (o, b, q, l, n, c) => n ≤ l.length ∧ (o = false → n = 0 ∧ c = 0) ∧ (∃ v, v < n ∧ rr l v = 0) ∧ n ≤ 1000000
  alts := fun (o, b, q, l, n, c) => [⟨Unit, fun _ => True, fun _ => .tup [.int .i64 0, .nils, .int .i64 116], fun _ => [⟨b, q, 1, false, some o, .rows 1071 l⟩]⟩]
  mat vs m := match vs with
    | [.sl 1 0 n c] => match nth m 1 with
      | ⟨b, q, _, _, g, .rows 1071 l⟩ => some ((onOf g, b, q, l, n, c), [1])
      | _ => none
    | _ => none
  ok := fun (o, b, q, l, n, c) h => rjoinO_ok o b q l n c h.1 h.2.1 h.2.2.1 h.2.2.2
set_option maxHeartbeats 16000000 in
theorem pieces4OE (hA : Apart) (gp : Nat) (gp3 : gp < 3) (o : Bool) (b q : Nat) (l : List Int) (n c : Nat) (s num : Int) (o' : Bool) (b' q' : Nat) (l' : List Raw) (n' c' : Nat) (h1 : Sq.ok (o, b, q, l, n, c)) (hb : Bys (l.take n)) (h2 : n' ≤ l'.length) (ho : o' = false → n' = 0 ∧ c' = 0)
    (hr : ∃ v, v < n' ∧ rr l' v = 0) (hlen : ∀ v, v < n' → rr l' v ≤ 2000000) (hp : PErr s num n gp) :
    Tells (C := C0) Tryd.prog (.fn 4) [⟨b, q, 1, false, some o, .rows 5 l⟩, ⟨b', q', 1, false, some o', .rows 1071 l'⟩] [.sl 0 0 n c, .int .i64 s, .int .i64 num, .sl 1 0 n' c'] (.bool .t) := by
  have cp := codeG_ok hA gp gp3
  have cj : codeOf (Gl.A 2) = 116 := codeG_ok hA 2 (by decide)
  have pp : Plain C0 (Gl.A gp) := plainG gp gp3
  have pj : Plain C0 (Gl.A 2) := plainG 2 (by decide)
  refine loc_pc (P := Tryd.prog) (E := ⟨[fcPiecesE gp, fcRpiecesE gp, fcJoinO, fcRjoinO], [pcFirst, pcSameLists, pcIs0, pcIsE, pcSbN], 125, [], [], []⟩) (L := [Pp6 n']) mix Tryd.func4 rfl (by kernel_rfl) (by kernel_rfl) rfl rfl ?_
  ((conv => (arg 1; reduce)); with_reducible repeat' (first | exact Tr.yes_h | refine Tr.and_h ?_ ?_ | refine Tr.imp_h fun _ => ?_ | refine Tr.all_h fun _ => ?_ | refine Tr.lf_h ?_))
  all_goals try (first | first | (show Region.lexB _ _ = true; kernel_rfl) | (show planned _ _ = true; kernel_rfl) | exact rfl | exact True.intro | ((try dsimp only [imp, C0, cG, cInt, cPl, cSlot, cPg, rwCodec, cRaw] at *); (try refine inR64 ?_ ?_) <;> (try simp only [List.length_set, List.length_append, List.length_take, List.length_drop]) <;> omega))
  all_goals try (first | (first | first | (show Region.lexB _ _ = true; kernel_rfl) | (show planned _ _ = true; kernel_rfl) | exact rfl | exact True.intro | ((try dsimp only [imp, C0, cG, cInt, cPl, cSlot, cPg, rwCodec, cRaw] at *); (try refine inR64 ?_ ?_) <;> (try simp only [List.length_set, List.length_append, List.length_take, List.length_drop]) <;> omega)) | ((try dsimp only [imp, C0, cG, cInt, cPl, cSlot, cPg, rwCodec, cRaw, Pp6] at *); (try simp only [decide_eq_true_eq, decide_eq_false_iff_not, Bool.and_eq_true, Bool.or_eq_true, Bool.or_eq_false_iff, Bool.and_eq_false_iff, Bool.not_eq_true', Bool.not_eq_false', SB.val, List.length_append, List.length_cons, List.length_nil, List.length_take, List.length_drop] at *); (first | omega | exact inR64 (by omega) (by omega) | (refine inR64 ?_ ?_ <;> omega))) | (refine on_of ho ?_; ((try dsimp only [imp, C0, cG, cInt, cPl, cSlot, cPg, rwCodec, cRaw, Pp6] at *); (try simp only [decide_eq_true_eq, decide_eq_false_iff_not, Bool.and_eq_true, Bool.or_eq_true, Bool.or_eq_false_iff, Bool.and_eq_false_iff, Bool.not_eq_true', Bool.not_eq_false', SB.val, List.length_append, List.length_cons, List.length_nil, List.length_take, List.length_drop] at *); (first | omega | exact inR64 (by omega) (by omega) | (refine inR64 ?_ ?_ <;> omega)))))
  · rename_i d0
    refine Stands.one ((0 : Nat), (0 : Int)) ⟨⟨Nat.zero_le _, by decide, by decide⟩, ?_⟩
    ((conv => (arg 1; reduce)); with_reducible repeat' (first | exact Tr.yes_h | refine Tr.and_h ?_ ?_ | refine Tr.imp_h fun _ => ?_ | refine Tr.all_h fun _ => ?_ | refine Tr.lf_h ?_))
    all_goals (first | first | (show Region.lexB _ _ = true; kernel_rfl) | (show planned _ _ = true; kernel_rfl) | exact rfl | exact True.intro | ((try dsimp only [imp, C0, cG, cInt, cPl, cSlot, cPg, rwCodec, cRaw] at *); (try refine inR64 ?_ ?_) <;> (try simp only [List.length_set, List.length_append, List.length_take, List.length_drop]) <;> omega))
  · rename_i d0 v hv d1
    have d1 : v.1 < n' := Int.ofNat_lt.1 (of_decide_eq_true d1)
    exact pp_in hv (pp_p d0).2 d1 (hlen v.1 d1)
  · rename_i d0 v hv d1
    have d1 : v.1 < n' := Int.ofNat_lt.1 (of_decide_eq_true d1)
    obtain ⟨k1, k2⟩ := pp_st hv d1 (hlen v.1 d1)
    refine Stands.one (v.1 + 1, v.2 + (rr l' v.1 : Int)) ⟨k1, k2, ?_⟩
    ((conv => (arg 1; reduce)); with_reducible repeat' (first | exact Tr.yes_h | refine Tr.and_h ?_ ?_ | refine Tr.imp_h fun _ => ?_ | refine Tr.all_h fun _ => ?_ | refine Tr.lf_h ?_))
    all_goals (first | first | (show Region.lexB _ _ = true; kernel_rfl) | (show planned _ _ = true; kernel_rfl) | exact rfl | exact True.intro | ((try dsimp only [imp, C0, cG, cInt, cPl, cSlot, cPg, rwCodec, cRaw] at *); (try refine inR64 ?_ ?_) <;> (try simp only [List.length_set, List.length_append, List.length_take, List.length_drop]) <;> omega))
  · rename_i d0 v hv d1 d2
    exact ⟨h1, Nat.le_trans (pp_p d0).1 (by decide), hp⟩
  · rename_i d0 v hv d1 d2 y1 z1
    exact ⟨h1, Nat.le_trans (pp_p d0).1 (by decide), hp⟩
  · exact ⟨Nat.le_refl _, Nat.le_refl _, fun _ => ⟨rfl, rfl⟩, fun _ => ⟨rfl, rfl⟩, by simp, by simp, by decide⟩
  · exact pp
  · rename_i w
    exact (pp_w1 cp w).elim
  · rename_i d0 v hv d1 d2 y1 z1 y2 z2 w
    exact ⟨h2, ho, hr, Nat.le_trans (pp_p d0).2 (by decide)⟩
  · rename_i d0 v hv d1 d2 y1 z1 y2 z2 w y3 z3
    exact ⟨h2, ho, hr, Nat.le_trans (pp_p d0).2 (by decide)⟩
  · exact ⟨Nat.le_refl _, Nat.le_refl _, fun _ => ⟨rfl, rfl⟩, fun _ => ⟨rfl, rfl⟩, fun x hx => by simp at hx, fun x hx => by simp at hx⟩
  · exact pj
  · rename_i w
    exact (pp_w2 cj w).elim
set_option maxHeartbeats 16000000 in
theorem pieces4OS (hA : Apart) (gp : Nat) (gp3 : gp < 3) (o : Bool) (b q : Nat) (l : List Int) (n c : Nat) (s num : Int) (o' : Bool) (b' q' : Nat) (l' : List Raw) (n' c' : Nat) (h1 : Sq.ok (o, b, q, l, n, c)) (hb : Bys (l.take n)) (h2 : n' ≤ l'.length) (ho : o' = false → n' = 0 ∧ c' = 0)
    (hr : ∃ v, v < n' ∧ rr l' v = 0) (hlen : ∀ v, v < n' → rr l' v ≤ 2000000) (hp : (16 ≤ s ∧ s ≤ 1024) ∧ cn num = true ∧ n ≤ 64 * (s.toNat - 12)) :
    Tells (C := C0) Tryd.prog (.fn 4) [⟨b, q, 1, false, some o, .rows 5 l⟩, ⟨b', q', 1, false, some o', .rows 1071 l'⟩] [.sl 0 0 n c, .int .i64 s, .int .i64 num, .sl 1 0 n' c'] (.bool .t) := by
  have cp := codeG_ok hA gp gp3
  have cj : codeOf (Gl.A 2) = 116 := codeG_ok hA 2 (by decide)
  have pp : Plain C0 (Gl.A gp) := plainG gp gp3
  have pj : Plain C0 (Gl.A 2) := plainG 2 (by decide)
  refine loc_pc (P := Tryd.prog) (E := ⟨[fcPiecesS, fcRpiecesS, fcJoinO, fcRjoinO, fcJoinS], [pcFirst, pcSameLists, pcIs0, pcIsE, pcSbN], 125, [], [], []⟩) (L := [Pp6 n']) mix Tryd.func4 rfl (by kernel_rfl) (by kernel_rfl) rfl rfl ?_
  ((conv => (arg 1; reduce)); with_reducible repeat' (first | exact Tr.yes_h | refine Tr.and_h ?_ ?_ | refine Tr.imp_h fun _ => ?_ | refine Tr.all_h fun _ => ?_ | refine Tr.lf_h ?_))
  all_goals try (first | first | (show Region.lexB _ _ = true; kernel_rfl) | (show planned _ _ = true; kernel_rfl) | exact rfl | exact True.intro | ((try dsimp only [imp, C0, cG, cInt, cPl, cSlot, cPg, rwCodec, cRaw] at *); (try refine inR64 ?_ ?_) <;> (try simp only [List.length_set, List.length_append, List.length_take, List.length_drop]) <;> omega))
  all_goals try (first | (first | first | (show Region.lexB _ _ = true; kernel_rfl) | (show planned _ _ = true; kernel_rfl) | exact rfl | exact True.intro | ((try dsimp only [imp, C0, cG, cInt, cPl, cSlot, cPg, rwCodec, cRaw] at *); (try refine inR64 ?_ ?_) <;> (try simp only [List.length_set, List.length_append, List.length_take, List.length_drop]) <;> omega)) | ((try dsimp only [imp, C0, cG, cInt, cPl, cSlot, cPg, rwCodec, cRaw, Pp6] at *); (try simp only [decide_eq_true_eq, decide_eq_false_iff_not, Bool.and_eq_true, Bool.or_eq_true, Bool.or_eq_false_iff, Bool.and_eq_false_iff, Bool.not_eq_true', Bool.not_eq_false', SB.val, List.length_append, List.length_cons, List.length_nil, List.length_take, List.length_drop] at *); (first | omega | exact inR64 (by omega) (by omega) | (refine inR64 ?_ ?_ <;> omega))) | (refine on_of ho ?_; ((try dsimp only [imp, C0, cG, cInt, cPl, cSlot, cPg, rwCodec, cRaw, Pp6] at *); (try simp only [decide_eq_true_eq, decide_eq_false_iff_not, Bool.and_eq_true, Bool.or_eq_true, Bool.or_eq_false_iff, Bool.and_eq_false_iff, Bool.not_eq_true', Bool.not_eq_false', SB.val, List.length_append, List.length_cons, List.length_nil, List.length_take, List.length_drop] at *); (first | omega | exact inR64 (by omega) (by omega) | (refine inR64 ?_ ?_ <;> omega)))))
  · rename_i d0
    refine Stands.one ((0 : Nat), (0 : Int)) ⟨⟨Nat.zero_le _, by decide, by decide⟩, ?_⟩
    ((conv => (arg 1; reduce)); with_reducible repeat' (first | exact Tr.yes_h | refine Tr.and_h ?_ ?_ | refine Tr.imp_h fun _ => ?_ | refine Tr.all_h fun _ => ?_ | refine Tr.lf_h ?_))
    all_goals (first | first | (show Region.lexB _ _ = true; kernel_rfl) | (show planned _ _ = true; kernel_rfl) | exact rfl | exact True.intro | ((try dsimp only [imp, C0, cG, cInt, cPl, cSlot, cPg, rwCodec, cRaw] at *); (try refine inR64 ?_ ?_) <;> (try simp only [List.length_set, List.length_append, List.length_take, List.length_drop]) <;> omega))
  · rename_i d0 v hv d1
    have d1 : v.1 < n' := Int.ofNat_lt.1 (of_decide_eq_true d1)
    exact pp_in hv (pp_p d0).2 d1 (hlen v.1 d1)
  · rename_i d0 v hv d1
    have d1 : v.1 < n' := Int.ofNat_lt.1 (of_decide_eq_true d1)
    obtain ⟨k1, k2⟩ := pp_st hv d1 (hlen v.1 d1)
    refine Stands.one (v.1 + 1, v.2 + (rr l' v.1 : Int)) ⟨k1, k2, ?_⟩
    ((conv => (arg 1; reduce)); with_reducible repeat' (first | exact Tr.yes_h | refine Tr.and_h ?_ ?_ | refine Tr.imp_h fun _ => ?_ | refine Tr.all_h fun _ => ?_ | refine Tr.lf_h ?_))
    all_goals (first | first | (show Region.lexB _ _ = true; kernel_rfl) | (show planned _ _ = true; kernel_rfl) | exact rfl | exact True.intro | ((try dsimp only [imp, C0, cG, cInt, cPl, cSlot, cPg, rwCodec, cRaw] at *); (try refine inR64 ?_ ?_) <;> (try simp only [List.length_set, List.length_append, List.length_take, List.length_drop]) <;> omega))
  · rename_i d0 v hv d1 d2
    exact ⟨h1, (pp_p d0).1, hp, hb⟩
  · rename_i d0 v hv d1 d2 y1 z1
    exact ⟨h1, (pp_p d0).1, hp, hb⟩
  · rename_i y1 z1 y2 z2
    exact bk_sl (bk_n h1) z1 z2
  · rename_i y1 z1 y2 z2 w
    exact (bk_eq (bk_n h1) z1 z2 w).elim
  · rename_i d0 v hv d1 d2 y1 z1 y2 z2 w
    exact ⟨h2, ho, hr, Nat.le_trans (pp_p d0).2 (by decide)⟩
  · rename_i d0 v hv d1 d2 y1 z1 y2 z2 w y3 z3
    exact ⟨h2, ho, hr, Nat.le_trans (pp_p d0).2 (by decide)⟩
  · exact ⟨Nat.le_refl _, Nat.le_refl _, fun _ => ⟨rfl, rfl⟩, fun _ => ⟨rfl, rfl⟩, fun x hx => by simp at hx, fun x hx => by simp at hx⟩
  · exact pj
  · rename_i w
    exact (pp_w2 cj w).elim
  · rename_i z1 _ _ _ _ _ _ _ _
    exact bk_js (bk_n h1) z1
  · rename_i z1 _ _ _ _ _ _ _ _ y5 z5 _
    have k := bk_jn (bk_n h1) z1 z5
    exact ⟨k.2.2, by rw [Nat.zero_add]; exact h1.2.1, fun h => absurd h (by decide), h1.2.2, by rw [k.2.1]; exact hb, by rw [List.drop_zero]; exact hb⟩
  · rename_i z1 _ _ _ _ _ _ _ _ y5 z5
    have k := bk_jn (bk_n h1) z1 z5
    have e : ieq (List.take y5.1.2 (List.drop 0 y5.2.2.2)) (List.take n (List.drop 0 l)) = true := ieq_iff.2 (by rw [k.2.1, List.drop_zero])
    show (decide (y5.1.1 = num) && ieq (List.take y5.1.2 (List.drop 0 y5.2.2.2)) (List.take n (List.drop 0 l))) = true
    rw [e, k.1]; simp
end Go.Vx
set_option linter.unusedSectionVars false
set_option maxRecDepth 100000
set_option linter.unusedVariables false
set_option linter.unusedSimpArgs false
namespace Go.Vx
open Go Go.Proofs
variable [Gl0]

theorem pieces4_ok (hA : Apart) (o : Bool) (b q : Nat) (l : List Int) (n c : Nat) (s num : Int) (o' : Bool) (b' q' : Nat) (l' : List (Rw Int)) (n' c' : Nat) (h1 : Sq.ok (o, b, q, l, n, c)) (hb : Bys (l.take n)) (h2 : n' ≤ l'.length) (ho : o' = false → n' = 0 ∧ c' = 0)
    (hr : ∀ r ∈ l'.take n', Rok r ∧ Bys r.l) (hlen : ∀ r ∈ l'.take n', r.l.length ≤ 2000000) :
    Tells (C := C0) Tryd.prog (.fn 4) [⟨b, q, 1, false, some o, .rows 5 l⟩, ⟨b', q', 1, false, some o', .rows 26 l'⟩] [.sl 0 0 n c, .int .i64 s, .int .i64 num, .sl 1 0 n' c'] (.bool .t) := by
  rcases perr_or (s := s) (num := num) (n := n) with hp | ⟨gp, gp3, hp⟩
  · rcases jerr_or (L := rowL l' 0 n') with hj | ⟨gj, gj3, hj⟩
    · exact pieces4SS hA 0 0 (by decide) (by decide) o b q l n c s num o' b' q' l' n' c' h1 hb h2 ho hr hlen hp hj
    · exact pieces4SE hA 0 gj (by decide) gj3 o b q l n c s num o' b' q' l' n' c' h1 hb h2 ho hr hlen hp hj
  · rcases jerr_or (L := rowL l' 0 n') with hj | ⟨gj, gj3, hj⟩
    · exact pieces4ES hA gp 0 gp3 (by decide) o b q l n c s num o' b' q' l' n' c' h1 hb h2 ho hr hlen hp hj
    · exact pieces4EE hA gp gj gp3 gj3 o b q l n c s num o' b' q' l' n' c' h1 hb h2 ho hr hlen hp hj
theorem pieces4O_ok (hA : Apart) (o : Bool) (b q : Nat) (l : List Int) (n c : Nat) (s num : Int) (o' : Bool) (b' q' : Nat) (l' : List Raw) (n' c' : Nat) (h1 : Sq.ok (o, b, q, l, n, c)) (hb : Bys (l.take n)) (h2 : n' ≤ l'.length) (ho : o' = false → n' = 0 ∧ c' = 0)
    (hr : ∃ v, v < n' ∧ rr l' v = 0) (hlen : ∀ v, v < n' → rr l' v ≤ 2000000) :
    Tells (C := C0) Tryd.prog (.fn 4) [⟨b, q, 1, false, some o, .rows 5 l⟩, ⟨b', q', 1, false, some o', .rows 1071 l'⟩] [.sl 0 0 n c, .int .i64 s, .int .i64 num, .sl 1 0 n' c'] (.bool .t) := by
  rcases perr_or (s := s) (num := num) (n := n) with hp | ⟨gp, gp3, hp⟩
  · exact pieces4OS hA 0 (by decide) o b q l n c s num o' b' q' l' n' c' h1 hb h2 ho hr hlen hp
  · exact pieces4OE hA gp gp3 o b q l n c s num o' b' q' l' n' c' h1 hb h2 ho hr hlen hp
end Go.Vx
set_option linter.unusedVariables false
set_option linter.unusedSimpArgs false
set_option maxRecDepth 100000
namespace Go.Proofs.YtmdnpfocihfkdaaDoor
open Go.ChangeShapes Go.WideShapes Go.ChangeAt Go.RowKit Go.Vx

theorem bulk_mem {H : Type} {d : DataW H} {l : List (DataW H)} (h : d ∈ l) : Rows.uptoBulk d ≤ Rows.uptoBulkAll l := by
  induction l with
  | nil => cases h
  | cons x r ih =>
    simp only [Rows.uptoBulkAll]
    rcases List.mem_cons.1 h with e | e
    · subst e; omega
    · have := ih e; omega
theorem bulk_lits {H : Type} (k : IntKind) : ∀ zs : List Int, Rows.uptoBulkAll (lits (H := H) k zs) = zs.length
  | [] => by simp [lits, Rows.uptoBulkAll]
  | x :: r => by
    have := bulk_lits (H := H) k r
    unfold lits at this ⊢
    simp only [List.map_cons, Rows.uptoBulkAll, this, List.length_cons]
    simp [Rows.uptoBulk]
    omega
theorem rows_le {P : Program} {H : Type} {enc : TypeId × Value → H} {W : World} {base : Nat} {a : Option Addr} {len cap : Nat} {fuel : Nat} {d : DataW H} {pl : List MemPlace} {ts te tq : TypeId} {k : IntKind}
    (ht : P.underlying ts = some (.slice te)) (he : P.underlying te = some (.slice tq)) (hq : P.underlying tq = some (.int k)) (ce : P.cellsOf te = 1) (cq : P.cellsOf tq = 1)
    (hf : DataW.trod enc P W base (fun _ => true) true fuel ts [.slice a len cap] = some (d, pl)) {R : List Raw} (hl : R.length = len) (hR : IsPart cRaw W a len cap R) :
    ∀ v, v < len → (R.getD v (none, 0, 0)).2.1 ≤ Rows.uptoBulk d := by
  intro v hv
  rcases Go.Deep.open_int_rows ht he hq ce cq hf with ⟨hcs, _⟩ | ⟨x, l, c', A, L, Cp, Z, hcs, hb, hl', hm, hx, hall⟩
  · simp at hcs
    obtain ⟨rfl, rfl, rfl⟩ := hcs
    omega
  · simp at hcs
    obtain ⟨rfl, rfl, rfl⟩ := hcs
    rcases hR with ⟨h, _⟩ | ⟨x', e, _, _, _, _, hc⟩
    · cases h
    cases e
    have h1 := hc v (by omega) 0 (by decide)
    obtain ⟨k1, k2, k3, k4, k5, k6, k7⟩ := hall v (by omega)
    rw [show v * cRaw.sz + 0 = v by show v * 1 + 0 = v; omega, k1] at h1
    have h2 : (Value.slice (A v) (L v) (Cp v)) = .slice (R.getD v (none, 0, 0)).1 (R.getD v (none, 0, 0)).2.1 (R.getD v (none, 0, 0)).2.2 := Option.some.inj h1
    injection h2 with e1 e2 e3
    rw [← e2]
    simp only [Prod.mk.injEq] at hx
    rw [hx.1]
    simp only [Rows.uptoBulk]
    have m := bulk_mem (l := (List.range len).map fun r => Go.Deep.intRow (H := H) k (A r) (L r) (Z r)) (List.mem_map.2 ⟨v, List.mem_range.2 hv, rfl⟩)
    have : L v ≤ Rows.uptoBulk (Go.Deep.intRow (H := H) k (A v) (L v) (Z v)) := by
      unfold Go.Deep.intRow
      cases hA : A v with
      | none =>
        have := k6 hA
        omega
      | some a' =>
        simp only [Rows.uptoBulk, bulk_lits, List.length_take]
        omega
    omega
end Go.Proofs.YtmdnpfocihfkdaaDoor
