/-
  Round 22: the winners.
  Round 22: which blocks are free, and which are dirty, plainly.
  Round 22: the rest: which blocks are free, and which are dirty.
  Round 22: the contracts of the chip's three ways.
  Round 22: the pages by their blocks, az they are gathered; which lists may be scanned.
  Conditions: none.
-/
import Derived.Test.YtnihemjnhbickaaDoorM6
set_option linter.unusedVariables false
set_option linter.unusedSimpArgs false
set_option linter.unusedSectionVars false
set_option maxRecDepth 100000
namespace Go.Vx
open Go Go.Proofs
variable [Gl]
structure Nm where
  s : Int
  t : Int
  b : Int
  f : Int
abbrev geo : Cx → Geo
  | ⟨bc, qc, bs, ps, ss, so, sb, sq, sl, sn, sc, bg, qg, R, n, c, bm⟩ => ⟨bs, ps, ss⟩
abbrev outS : Nm → Sq Int → SV → SV → List SV
  | ⟨s, t, b, f⟩, (bo, bb, bq, bl, bn, bx), u, v => [u, .int .i64 s, .int .i64 t, .int .i64 b, .int .i64 f, .nils, .nils, .sl 4 0 bn bx, v]
abbrev chB : Sq Int → Ck C0
  | (bo, bb, bq, bl, bn, bx) => ⟨bb, bq, 1, true, some bo, .rows 3 bl⟩
abbrev cTo (x : Cx) (i : Nat) : List Pg := pgsTo (cntF x.n x.Q) x.Q i
abbrev cAt (x : Cx) (i j : Nat) : List Pg := pgsAt (cntF x.n x.Q) x.Q i j
def S2 (x : Cx) (v : Nm) (bd : Sq Int) (M : Bm) (clk : Nat) : Inv' C0 := ⟨2, Nat × (Nat × MpG × Nat) × Sq Pl, fun y => [(19, .int .i64 (y.1 : Int))],
  fun y _ => [chW true x (outS v bd .nils (.sl 6 0 y.2.2.2.2.2.2.1 y.2.2.2.2.2.2.2)), chG x, chM true x M clk, chS x, chB bd, ⟨y.2.1.1, 0, 0, true, none, .mp 3 33 y.2.1.2.1 y.2.1.2.2⟩, ⟨y.2.2.2.1, y.2.2.2.2.1, 2, true, some y.2.2.1, .rows 36 y.2.2.2.2.2.1⟩],
  fun y => y.1 ≤ x.n ∧ AOK x (geo x) (cTo x y.1) y.2.1.2.1 y.2.1.2.2 ∧ Gth (orfL v.f (cTo x y.1)) y.2.2, fun y => x.n - y.1⟩
def S6 (x : Cx) (v : Nm) (bd : Sq Int) (M : Bm) (clk : Nat) : Inv' C0 := ⟨6, Nat × Nat × (Nat × MpG × Nat) × Sq Pl, fun y => [(19, .int .i64 (y.1 : Int)), (30, .int .i64 (y.2.1 : Int))],
  fun y m => match m with
    | _ :: _ :: _ :: _ :: _ :: _ :: _ :: g :: _ => [chW true x (outS v bd .nils (.sl 6 0 y.2.2.2.2.2.2.2.1 y.2.2.2.2.2.2.2.2)), chG x, chM true x M clk, chS x, chB bd, ⟨y.2.2.1.1, 0, 0, true, none, .mp 3 33 y.2.2.1.2.1 y.2.2.1.2.2⟩, ⟨y.2.2.2.2.1, y.2.2.2.2.2.1, 2, true, some y.2.2.2.1, .rows 36 y.2.2.2.2.2.2.1⟩, g]
    | _ => [],
  fun y => y.1 < x.n ∧ y.2.1 ≤ (rw x.Q y.1).length ∧ cntF x.n x.Q y.1 (rw x.Q y.1) = true ∧ AOK x (geo x) (cAt x y.1 y.2.1) y.2.2.1.2.1 y.2.2.1.2.2 ∧ Gth (orfL v.f (cAt x y.1 y.2.1)) y.2.2.2, fun y => (rw x.Q y.1).length - y.2.1⟩
def S16 (x : Cx) (v : Nm) (bd : Sq Int) (M : Bm) (clk : Nat) : Inv' C0 := ⟨16, Nat × Sq Slot, fun y => [(88, .int .i64 (y.1 : Int))],
  fun y m => match m with
    | ⟨b0, q0, _, _, _, .one [a1, a2, a3, a4, a5, a6, _, a8, a9, a10, a11, a12, a13, a14, a15]⟩ :: c1 :: c2 :: c3 :: c4 :: c5 :: c6 :: c7 :: c8 :: _ =>
      [⟨b0, q0, 15, true, none, .one [a1, a2, a3, a4, a5, a6, .sl 9 0 y.2.2.2.2.2.1 y.2.2.2.2.2.2, a8, a9, a10, a11, a12, a13, a14, a15]⟩, c1, c2, c3, c4, c5, c6, c7, c8, ⟨y.2.2.1, y.2.2.2.1, 9, true, some y.2.1, .rows 40 y.2.2.2.2.1⟩]
    | _ => [],
  fun y => y.1 ≤ (keyL (geo x) (cTo x x.n)).length ∧ Gth (sloL (geo x) v.f (cTo x x.n) ((keyL (geo x) (cTo x x.n)).take y.1)) y.2, fun y => (keyL (geo x) (cTo x x.n)).length - y.1⟩
abbrev sloO (x : Cx) (v : Nm) (bd : Sq Int) (M : Bm) (clk : Nat) : Sq Slot × Sq Pl → List (Ck C0)
  | ((so, sb, sq, sl, sn, sc), (po, pb, pq, pl, pn, pc)) => [chW true x (outS v bd (.sl 5 0 sn sc) (.sl 6 0 pn pc)), chG x, chM true x M clk, chS x, chB bd, ⟨sb, sq, 9, true, some so, .rows 40 sl⟩, ⟨pb, pq, 2, true, some po, .rows 36 pl⟩]
abbrev pl10 : List Tk := [.p 0, .p 1, .p 2, .p 3, .p 4, .p 5, .p 6, .p 7, .e 8, .e 9, .p 10, .p 11, .p 12, .f 13]
abbrev pl18 : List Tk := [.p 0, .p 1, .p 2, .p 3, .p 4, .p 5, .p 6, .p 7, .t (.two 8 (PTree.of [.p 9, .p 10, .p 11, .e 12, .e 13, .p 14]) 12 (PTree.of [.e 8, .p 9, .p 10, .p 11, .e 13, .p 14]))]
set_option maxHeartbeats 64000000 in
theorem slots_ok (x : Cx) (h : x.ok) (v : Nm) (bd : Sq Int) (M : Bm) (clk : Nat) (hM : MSet M clk (badTo x.n x.Q x.n)) :
    Does (C := C0) Tryd.prog (.fn 28) [chW true x (outS v bd .nils .nils), chG x, chM true x M clk, chS x, chB bd] [.ptr 0 0 0]
    [⟨Sq Slot × Sq Pl, fun y => Gth (sloL (geo x) v.f (cTo x x.n) (keyL (geo x) (cTo x x.n))) y.1 ∧ Gth (orfL v.f (cTo x x.n)) y.2, fun _ => .tup [], fun y => sloO x v bd M clk y⟩] := by
  obtain ⟨bc, qc, bs, ps, ss, so, sb, sq, sl, sn, sc, bg, qg, R, n, c, bm⟩ := x
  obtain ⟨vs, vt, vb, vf⟩ := v
  obtain ⟨bo, bb, bq, bl, bn, bx⟩ := bd
  have hbs : bs = (n : Int) := h.bs
  have hn : n = R.length := h.n
  have hn64 : n ≤ 64 := h.n64
  have hps : 0 ≤ ps ∧ ps ≤ 64 := h.ps
  have hss : 0 ≤ ss ∧ ss ≤ 536870912 := h.ss
  have hgeo : Geo.ok ⟨bs, ps, ss⟩ := ⟨⟨by show 0 ≤ bs; omega, by show bs ≤ 64; omega⟩, hps, hss⟩
  have hrok : ∀ r ∈ R, Rok r := h.rok
  have hfew : ∀ r ∈ R, r.l.length < 1000000 := h.few
  refine loc_fn (P := Tryd.prog) (E := ⟨[fcKeysG, fcSortedG], [pcCounts, pcKey, pcAlive, pcWinner], 123, [(12, [0, 1000006], pl10), (18, [0, 5], pl18), (20, [0, 1000011], sloB)], [fG], []⟩) (L := [S2 ⟨bc, qc, bs, ps, ss, so, sb, sq, sl, sn, sc, bg, qg, R, n, c, bm⟩ ⟨vs, vt, vb, vf⟩ (bo, bb, bq, bl, bn, bx) M clk, S6 ⟨bc, qc, bs, ps, ss, so, sb, sq, sl, sn, sc, bg, qg, R, n, c, bm⟩ ⟨vs, vt, vb, vf⟩ (bo, bb, bq, bl, bn, bx) M clk, S16 ⟨bc, qc, bs, ps, ss, so, sb, sq, sl, sn, sc, bg, qg, R, n, c, bm⟩ ⟨vs, vt, vb, vf⟩ (bo, bb, bq, bl, bn, bx) M clk]) mix Tryd.func28 rfl (by kernel_rfl) (by kernel_rfl) rfl rfl ?_
  ((conv => (arg 1; reduce)); with_reducible repeat' (first | exact Tr.yes_h | refine Tr.and_h ?_ ?_ | refine Tr.imp_h fun _ => ?_ | refine Tr.all_h fun _ => ?_ | refine Tr.lf_h ?_))
  all_goals try (first | first | (show Region.lexB _ _ = true; kernel_rfl) | (show planned _ _ = true; kernel_rfl) | exact rfl | exact True.intro | (first | exact key3 | exact zeroB | exact zeroR | exact zeroS | exact ⟨key3, zeroB⟩ | exact ⟨key3, zeroR⟩ | exact ⟨key3, zeroS⟩) | ((try dsimp only [imp, C0, cG, cInt, cPl, cSlot, cPg, gwCodec] at *); (try refine inR64 ?_ ?_) <;> (try simp only [List.length_set, List.length_append, List.length_take, List.length_drop]) <;> omega))
  · rename_i am0
    refine Stands.one (0, (am0, [], 0), (false, 0, 0, [], 0, 0)) ⟨⟨Nat.zero_le _, AOK.nil, by show Gth (orfL vf []) _; rw [orfL_nil]; exact Gth.nil⟩, ?_⟩
    ((conv => (arg 1; reduce)); with_reducible repeat' (first | exact Tr.yes_h | refine Tr.and_h ?_ ?_ | refine Tr.imp_h fun _ => ?_ | refine Tr.all_h fun _ => ?_ | refine Tr.lf_h ?_))
    all_goals (first | first | (show Region.lexB _ _ = true; kernel_rfl) | (show planned _ _ = true; kernel_rfl) | exact rfl | exact True.intro | (first | exact key3 | exact zeroB | exact zeroR | exact zeroS | exact ⟨key3, zeroB⟩ | exact ⟨key3, zeroR⟩ | exact ⟨key3, zeroS⟩) | ((try dsimp only [imp, C0, cG, cInt, cPl, cSlot, cPg, gwCodec] at *); (try refine inR64 ?_ ?_) <;> (try simp only [List.length_set, List.length_append, List.length_take, List.length_drop]) <;> omega))
  · rename_i u0 x2 h2 h3
    obtain ⟨i, ⟨a1, A1, k1⟩, O1⟩ := x2
    have h2 : i ≤ n ∧ AOK ⟨bc, qc, bs, ps, ss, so, sb, sq, sl, sn, sc, bg, qg, R, n, c, bm⟩ ⟨bs, ps, ss⟩ (cTo ⟨bc, qc, bs, ps, ss, so, sb, sq, sl, sn, sc, bg, qg, R, n, c, bm⟩ i) A1 k1 ∧ Gth (orfL vf (cTo ⟨bc, qc, bs, ps, ss, so, sb, sq, sl, sn, sc, bg, qg, R, n, c, bm⟩ i)) O1 := h2
    have h3 : (i : Int) < (n : Int) := of_decide_eq_true h3
    exact h3
  · rename_i u0 x2 h2 h3
    obtain ⟨i, ⟨a1, A1, k1⟩, O1⟩ := x2
    have h2 : i ≤ n ∧ AOK ⟨bc, qc, bs, ps, ss, so, sb, sq, sl, sn, sc, bg, qg, R, n, c, bm⟩ ⟨bs, ps, ss⟩ (cTo ⟨bc, qc, bs, ps, ss, so, sb, sq, sl, sn, sc, bg, qg, R, n, c, bm⟩ i) A1 k1 ∧ Gth (orfL vf (cTo ⟨bc, qc, bs, ps, ss, so, sb, sq, sl, sn, sc, bg, qg, R, n, c, bm⟩ i)) O1 := h2
    have h3 : (i : Int) < (n : Int) := of_decide_eq_true h3
    show i < R.length
    omega
  · rename_i u0 x2 h2 h3 r hr
    obtain ⟨i, ⟨a1, A1, k1⟩, O1⟩ := x2
    have h2 : i ≤ n ∧ AOK ⟨bc, qc, bs, ps, ss, so, sb, sq, sl, sn, sc, bg, qg, R, n, c, bm⟩ ⟨bs, ps, ss⟩ (cTo ⟨bc, qc, bs, ps, ss, so, sb, sq, sl, sn, sc, bg, qg, R, n, c, bm⟩ i) A1 k1 ∧ Gth (orfL vf (cTo ⟨bc, qc, bs, ps, ss, so, sb, sq, sl, sn, sc, bg, qg, R, n, c, bm⟩ i)) O1 := h2
    have h3 : (i : Int) < (n : Int) := of_decide_eq_true h3
    change Rw Pg at r
    have hr : R.getD i Rw.nil = r := hr
    have hm : r ∈ R := by rw [← hr]; exact getD_mem (by omega)
    have hk : Rok r := hrok r hm
    have hl : r.l.length < 1000000 := hfew r hm
    have hw : rw (R.map fun r => r.l) i = r.l := by rw [rwR, hr]
    exact ⟨by omega, ⟨by omega, h3⟩, hrok⟩
  · rename_i u0 x2 h2 h3 r hr hcn
    obtain ⟨i, ⟨a1, A1, k1⟩, O1⟩ := x2
    have h2 : i ≤ n ∧ AOK ⟨bc, qc, bs, ps, ss, so, sb, sq, sl, sn, sc, bg, qg, R, n, c, bm⟩ ⟨bs, ps, ss⟩ (cTo ⟨bc, qc, bs, ps, ss, so, sb, sq, sl, sn, sc, bg, qg, R, n, c, bm⟩ i) A1 k1 ∧ Gth (orfL vf (cTo ⟨bc, qc, bs, ps, ss, so, sb, sq, sl, sn, sc, bg, qg, R, n, c, bm⟩ i)) O1 := h2
    have h3 : (i : Int) < (n : Int) := of_decide_eq_true h3
    change Rw Pg at r
    have hr : R.getD i Rw.nil = r := hr
    have hm : r ∈ R := by rw [← hr]; exact getD_mem (by omega)
    have hk : Rok r := hrok r hm
    have hl : r.l.length < 1000000 := hfew r hm
    have hw : rw (R.map fun r => r.l) i = r.l := by rw [rwR, hr]
    have hcq : cntF n (R.map fun r => r.l) i (rw (R.map fun r => r.l) i) = (isHd i (R.getD i Rw.nil).l && !mgetB M i) := by rw [hM.get, ← rwR]
    exact inR64 (by show -9223372036854775808 ≤ (i : Int) + 1; omega) (by show (i : Int) + 1 ≤ 9223372036854775807; omega)
  · rename_i u0 x2 h2 h3 r hr hcn
    obtain ⟨i, ⟨a1, A1, k1⟩, O1⟩ := x2
    have h2 : i ≤ n ∧ AOK ⟨bc, qc, bs, ps, ss, so, sb, sq, sl, sn, sc, bg, qg, R, n, c, bm⟩ ⟨bs, ps, ss⟩ (cTo ⟨bc, qc, bs, ps, ss, so, sb, sq, sl, sn, sc, bg, qg, R, n, c, bm⟩ i) A1 k1 ∧ Gth (orfL vf (cTo ⟨bc, qc, bs, ps, ss, so, sb, sq, sl, sn, sc, bg, qg, R, n, c, bm⟩ i)) O1 := h2
    have h3 : (i : Int) < (n : Int) := of_decide_eq_true h3
    change Rw Pg at r
    have hr : R.getD i Rw.nil = r := hr
    have hm : r ∈ R := by rw [← hr]; exact getD_mem (by omega)
    have hk : Rok r := hrok r hm
    have hl : r.l.length < 1000000 := hfew r hm
    have hw : rw (R.map fun r => r.l) i = r.l := by rw [rwR, hr]
    have hcq : cntF n (R.map fun r => r.l) i (rw (R.map fun r => r.l) i) = (isHd i (R.getD i Rw.nil).l && !mgetB M i) := by rw [hM.get, ← rwR]
    have hc0 : cntF n (R.map fun r => r.l) i (rw (R.map fun r => r.l) i) = false := by rw [hcq]; exact not_t hcn
    have hP : cTo ⟨bc, qc, bs, ps, ss, so, sb, sq, sl, sn, sc, bg, qg, R, n, c, bm⟩ (i + 1) = cTo ⟨bc, qc, bs, ps, ss, so, sb, sq, sl, sn, sc, bg, qg, R, n, c, bm⟩ i := by
      show pgsTo _ _ i ++ _ = _
      rw [if_neg (by rw [hc0]; exact Bool.false_ne_true), List.append_nil]
    refine Stands.one (i + 1, (a1, A1, k1), O1) ⟨⟨by show i + 1 ≤ n; omega, by show AOK ⟨bc, qc, bs, ps, ss, so, sb, sq, sl, sn, sc, bg, qg, R, n, c, bm⟩ ⟨bs, ps, ss⟩ (cTo ⟨bc, qc, bs, ps, ss, so, sb, sq, sl, sn, sc, bg, qg, R, n, c, bm⟩ (i + 1)) A1 k1; rw [hP]; exact h2.2.1, by show Gth (orfL vf (cTo ⟨bc, qc, bs, ps, ss, so, sb, sq, sl, sn, sc, bg, qg, R, n, c, bm⟩ (i + 1))) O1; rw [hP]; exact h2.2.2⟩, by show n - (i + 1) < n - i; omega, ?_⟩
    ((conv => (arg 1; reduce)); with_reducible repeat' (first | exact Tr.yes_h | refine Tr.and_h ?_ ?_ | refine Tr.imp_h fun _ => ?_ | refine Tr.all_h fun _ => ?_ | refine Tr.lf_h ?_))
    all_goals (first | first | (show Region.lexB _ _ = true; kernel_rfl) | (show planned _ _ = true; kernel_rfl) | exact rfl | exact True.intro | (first | exact key3 | exact zeroB | exact zeroR | exact zeroS | exact ⟨key3, zeroB⟩ | exact ⟨key3, zeroR⟩ | exact ⟨key3, zeroS⟩) | ((try dsimp only [imp, C0, cG, cInt, cPl, cSlot, cPg, gwCodec] at *); (try refine inR64 ?_ ?_) <;> (try simp only [List.length_set, List.length_append, List.length_take, List.length_drop]) <;> omega))
  · rename_i u0 x2 h2 h3 r hr hcn
    obtain ⟨i, ⟨a1, A1, k1⟩, O1⟩ := x2
    have h2 : i ≤ n ∧ AOK ⟨bc, qc, bs, ps, ss, so, sb, sq, sl, sn, sc, bg, qg, R, n, c, bm⟩ ⟨bs, ps, ss⟩ (cTo ⟨bc, qc, bs, ps, ss, so, sb, sq, sl, sn, sc, bg, qg, R, n, c, bm⟩ i) A1 k1 ∧ Gth (orfL vf (cTo ⟨bc, qc, bs, ps, ss, so, sb, sq, sl, sn, sc, bg, qg, R, n, c, bm⟩ i)) O1 := h2
    have h3 : (i : Int) < (n : Int) := of_decide_eq_true h3
    change Rw Pg at r
    have hr : R.getD i Rw.nil = r := hr
    have hm : r ∈ R := by rw [← hr]; exact getD_mem (by omega)
    have hk : Rok r := hrok r hm
    have hl : r.l.length < 1000000 := hfew r hm
    have hw : rw (R.map fun r => r.l) i = r.l := by rw [rwR, hr]
    have hcq : cntF n (R.map fun r => r.l) i (rw (R.map fun r => r.l) i) = (isHd i (R.getD i Rw.nil).l && !mgetB M i) := by rw [hM.get, ← rwR]
    have hc1 : cntF n (R.map fun r => r.l) i (rw (R.map fun r => r.l) i) = true := by rw [hcq]; exact not_f hcn
    have hP : cAt ⟨bc, qc, bs, ps, ss, so, sb, sq, sl, sn, sc, bg, qg, R, n, c, bm⟩ i 0 = cTo ⟨bc, qc, bs, ps, ss, so, sb, sq, sl, sn, sc, bg, qg, R, n, c, bm⟩ i := pgsAt_zero
    refine Stands.one (i, 0, (a1, A1, k1), O1) ⟨⟨by show i < n; omega, Nat.zero_le _, hc1, by show AOK ⟨bc, qc, bs, ps, ss, so, sb, sq, sl, sn, sc, bg, qg, R, n, c, bm⟩ ⟨bs, ps, ss⟩ (cAt ⟨bc, qc, bs, ps, ss, so, sb, sq, sl, sn, sc, bg, qg, R, n, c, bm⟩ i 0) A1 k1; rw [hP]; exact h2.2.1, by show Gth (orfL vf (cAt ⟨bc, qc, bs, ps, ss, so, sb, sq, sl, sn, sc, bg, qg, R, n, c, bm⟩ i 0)) O1; rw [hP]; exact h2.2.2⟩, ?_⟩
    ((conv => (arg 1; reduce)); with_reducible repeat' (first | exact Tr.yes_h | refine Tr.and_h ?_ ?_ | refine Tr.imp_h fun _ => ?_ | refine Tr.all_h fun _ => ?_ | refine Tr.lf_h ?_))
    all_goals (first | first | (show Region.lexB _ _ = true; kernel_rfl) | (show planned _ _ = true; kernel_rfl) | exact rfl | exact True.intro | (first | exact key3 | exact zeroB | exact zeroR | exact zeroS | exact ⟨key3, zeroB⟩ | exact ⟨key3, zeroR⟩ | exact ⟨key3, zeroS⟩) | ((try dsimp only [imp, C0, cG, cInt, cPl, cSlot, cPg, gwCodec] at *); (try refine inR64 ?_ ?_) <;> (try simp only [List.length_set, List.length_append, List.length_take, List.length_drop]) <;> omega))
  · rename_i u0 x2 h2 h3 r hr hcn x6 h6 e6 h7
    obtain ⟨i, ⟨a1, A1, k1⟩, O1⟩ := x2
    obtain ⟨i6, j, ⟨a6, A6, k6⟩, oo, ob, oq, ol, on, oc⟩ := x6
    obtain rfl : i = i6 := Int.ofNat.inj e6
    have h3 : (i : Int) < (n : Int) := of_decide_eq_true h3
    have h6 : i < n ∧ j ≤ (rw (R.map fun r => r.l) i).length ∧ cntF n (R.map fun r => r.l) i (rw (R.map fun r => r.l) i) = true ∧ AOK ⟨bc, qc, bs, ps, ss, so, sb, sq, sl, sn, sc, bg, qg, R, n, c, bm⟩ ⟨bs, ps, ss⟩ (cAt ⟨bc, qc, bs, ps, ss, so, sb, sq, sl, sn, sc, bg, qg, R, n, c, bm⟩ i j) A6 k6 ∧ Gth (orfL vf (cAt ⟨bc, qc, bs, ps, ss, so, sb, sq, sl, sn, sc, bg, qg, R, n, c, bm⟩ i j)) (oo, ob, oq, ol, on, oc) := h6
    change Rw Pg at r
    have hr : R.getD i Rw.nil = r := hr
    have hm : r ∈ R := by rw [← hr]; exact getD_mem (by omega)
    have hk : Rok r := hrok r hm
    have hl : r.l.length < 1000000 := hfew r hm
    have hw : rw (R.map fun r => r.l) i = r.l := by rw [rwR, hr]
    rw [hw] at h6
    have h7 : (j : Int) < (r.l.length : Int) := of_decide_eq_true h7
    exact on_of (o := r.on) hk.1 (by show 0 < r.l.length; omega)
  · rename_i u0 x2 h2 h3 r hr hcn x6 h6 e6 h7
    obtain ⟨i, ⟨a1, A1, k1⟩, O1⟩ := x2
    obtain ⟨i6, j, ⟨a6, A6, k6⟩, oo, ob, oq, ol, on, oc⟩ := x6
    obtain rfl : i = i6 := Int.ofNat.inj e6
    have h3 : (i : Int) < (n : Int) := of_decide_eq_true h3
    have h6 : i < n ∧ j ≤ (rw (R.map fun r => r.l) i).length ∧ cntF n (R.map fun r => r.l) i (rw (R.map fun r => r.l) i) = true ∧ AOK ⟨bc, qc, bs, ps, ss, so, sb, sq, sl, sn, sc, bg, qg, R, n, c, bm⟩ ⟨bs, ps, ss⟩ (cAt ⟨bc, qc, bs, ps, ss, so, sb, sq, sl, sn, sc, bg, qg, R, n, c, bm⟩ i j) A6 k6 ∧ Gth (orfL vf (cAt ⟨bc, qc, bs, ps, ss, so, sb, sq, sl, sn, sc, bg, qg, R, n, c, bm⟩ i j)) (oo, ob, oq, ol, on, oc) := h6
    change Rw Pg at r
    have hr : R.getD i Rw.nil = r := hr
    have hm : r ∈ R := by rw [← hr]; exact getD_mem (by omega)
    have hk : Rok r := hrok r hm
    have hl : r.l.length < 1000000 := hfew r hm
    have hw : rw (R.map fun r => r.l) i = r.l := by rw [rwR, hr]
    rw [hw] at h6
    have h7 : (j : Int) < (r.l.length : Int) := of_decide_eq_true h7
    exact h7
  · rename_i u0 x2 h2 h3 r hr hcn x6 h6 e6 h7
    obtain ⟨i, ⟨a1, A1, k1⟩, O1⟩ := x2
    obtain ⟨i6, j, ⟨a6, A6, k6⟩, oo, ob, oq, ol, on, oc⟩ := x6
    obtain rfl : i = i6 := Int.ofNat.inj e6
    have h3 : (i : Int) < (n : Int) := of_decide_eq_true h3
    have h6 : i < n ∧ j ≤ (rw (R.map fun r => r.l) i).length ∧ cntF n (R.map fun r => r.l) i (rw (R.map fun r => r.l) i) = true ∧ AOK ⟨bc, qc, bs, ps, ss, so, sb, sq, sl, sn, sc, bg, qg, R, n, c, bm⟩ ⟨bs, ps, ss⟩ (cAt ⟨bc, qc, bs, ps, ss, so, sb, sq, sl, sn, sc, bg, qg, R, n, c, bm⟩ i j) A6 k6 ∧ Gth (orfL vf (cAt ⟨bc, qc, bs, ps, ss, so, sb, sq, sl, sn, sc, bg, qg, R, n, c, bm⟩ i j)) (oo, ob, oq, ol, on, oc) := h6
    change Rw Pg at r
    have hr : R.getD i Rw.nil = r := hr
    have hm : r ∈ R := by rw [← hr]; exact getD_mem (by omega)
    have hk : Rok r := hrok r hm
    have hl : r.l.length < 1000000 := hfew r hm
    have hw : rw (R.map fun r => r.l) i = r.l := by rw [rwR, hr]
    rw [hw] at h6
    have h7 : (j : Int) < (r.l.length : Int) := of_decide_eq_true h7
    exact on_of (o := r.on) hk.1 (by show 0 < r.l.length; omega)
  · rename_i u0 x2 h2 h3 r hr hcn x6 h6 e6 h7
    obtain ⟨i, ⟨a1, A1, k1⟩, O1⟩ := x2
    obtain ⟨i6, j, ⟨a6, A6, k6⟩, oo, ob, oq, ol, on, oc⟩ := x6
    obtain rfl : i = i6 := Int.ofNat.inj e6
    have h3 : (i : Int) < (n : Int) := of_decide_eq_true h3
    have h6 : i < n ∧ j ≤ (rw (R.map fun r => r.l) i).length ∧ cntF n (R.map fun r => r.l) i (rw (R.map fun r => r.l) i) = true ∧ AOK ⟨bc, qc, bs, ps, ss, so, sb, sq, sl, sn, sc, bg, qg, R, n, c, bm⟩ ⟨bs, ps, ss⟩ (cAt ⟨bc, qc, bs, ps, ss, so, sb, sq, sl, sn, sc, bg, qg, R, n, c, bm⟩ i j) A6 k6 ∧ Gth (orfL vf (cAt ⟨bc, qc, bs, ps, ss, so, sb, sq, sl, sn, sc, bg, qg, R, n, c, bm⟩ i j)) (oo, ob, oq, ol, on, oc) := h6
    change Rw Pg at r
    have hr : R.getD i Rw.nil = r := hr
    have hm : r ∈ R := by rw [← hr]; exact getD_mem (by omega)
    have hk : Rok r := hrok r hm
    have hl : r.l.length < 1000000 := hfew r hm
    have hw : rw (R.map fun r => r.l) i = r.l := by rw [rwR, hr]
    rw [hw] at h6
    have h7 : (j : Int) < (r.l.length : Int) := of_decide_eq_true h7
    show j < r.l.length
    omega
  · rename_i u0 x2 h2 h3 r hr hcn x6 h6 e6 h7 u4
    obtain ⟨i, ⟨a1, A1, k1⟩, O1⟩ := x2
    obtain ⟨i6, j, ⟨a6, A6, k6⟩, oo, ob, oq, ol, on, oc⟩ := x6
    obtain rfl : i = i6 := Int.ofNat.inj e6
    have h3 : (i : Int) < (n : Int) := of_decide_eq_true h3
    have h6 : i < n ∧ j ≤ (rw (R.map fun r => r.l) i).length ∧ cntF n (R.map fun r => r.l) i (rw (R.map fun r => r.l) i) = true ∧ AOK ⟨bc, qc, bs, ps, ss, so, sb, sq, sl, sn, sc, bg, qg, R, n, c, bm⟩ ⟨bs, ps, ss⟩ (cAt ⟨bc, qc, bs, ps, ss, so, sb, sq, sl, sn, sc, bg, qg, R, n, c, bm⟩ i j) A6 k6 ∧ Gth (orfL vf (cAt ⟨bc, qc, bs, ps, ss, so, sb, sq, sl, sn, sc, bg, qg, R, n, c, bm⟩ i j)) (oo, ob, oq, ol, on, oc) := h6
    change Rw Pg at r
    have hr : R.getD i Rw.nil = r := hr
    have hm : r ∈ R := by rw [← hr]; exact getD_mem (by omega)
    have hk : Rok r := hrok r hm
    have hl : r.l.length < 1000000 := hfew r hm
    have hw : rw (R.map fun r => r.l) i = r.l := by rw [rwR, hr]
    rw [hw] at h6
    have h7 : (j : Int) < (r.l.length : Int) := of_decide_eq_true h7
    exact ⟨by omega, by omega, hps.1, hps.2, hss.1, hss.2⟩
  · rename_i u0 x2 h2 h3 r hr hcn x6 h6 e6 h7 u4 hky rA hrA u5
    obtain ⟨i, ⟨a1, A1, k1⟩, O1⟩ := x2
    obtain ⟨i6, j, ⟨a6, A6, k6⟩, oo, ob, oq, ol, on, oc⟩ := x6
    obtain rfl : i = i6 := Int.ofNat.inj e6
    have h3 : (i : Int) < (n : Int) := of_decide_eq_true h3
    have h6 : i < n ∧ j ≤ (rw (R.map fun r => r.l) i).length ∧ cntF n (R.map fun r => r.l) i (rw (R.map fun r => r.l) i) = true ∧ AOK ⟨bc, qc, bs, ps, ss, so, sb, sq, sl, sn, sc, bg, qg, R, n, c, bm⟩ ⟨bs, ps, ss⟩ (cAt ⟨bc, qc, bs, ps, ss, so, sb, sq, sl, sn, sc, bg, qg, R, n, c, bm⟩ i j) A6 k6 ∧ Gth (orfL vf (cAt ⟨bc, qc, bs, ps, ss, so, sb, sq, sl, sn, sc, bg, qg, R, n, c, bm⟩ i j)) (oo, ob, oq, ol, on, oc) := h6
    change Rw Pg at r
    have hr : R.getD i Rw.nil = r := hr
    have hm : r ∈ R := by rw [← hr]; exact getD_mem (by omega)
    have hk : Rok r := hrok r hm
    have hl : r.l.length < 1000000 := hfew r hm
    have hw : rw (R.map fun r => r.l) i = r.l := by rw [rwR, hr]
    rw [hw] at h6
    have h7 : (j : Int) < (r.l.length : Int) := of_decide_eq_true h7
    have hky : kyF ⟨bs, ps, ss⟩ (r.l.getD j pg0) = true := hky
    change Rw Pg at rA
    have hrA : mgetG A6 (gKey ⟨bs, ps, ss⟩ (r.l.getD j pg0)) = rA := hrA
    have ho := h6.2.2.2.1
    have hg := ho.rowl (gKey ⟨bs, ps, ss⟩ (r.l.getD j pg0))
    rw [hrA] at hg
    have hgl := grpL_len (g := ⟨bs, ps, ss⟩) (P := cAt ⟨bc, qc, bs, ps, ss, so, sb, sq, sl, sn, sc, bg, qg, R, n, c, bm⟩ i j) (k := gKey ⟨bs, ps, ss⟩ (r.l.getD j pg0))
    have hPl := pgsAt_len (f := cntF n (R.map fun r => r.l)) (rows_len hfew) i j
    have hgl : rA.l.length ≤ (i + 1) * 1000000 := by rw [hg.1]; exact Nat.le_trans hgl hPl
    show rA.l.length = rA.l.length ∧ rA.l.length ≤ rA.m ∧ 0 + 1 ≤ _ ∧ 1 = 1 ∧ (rA.l.length + 1) * Tryd.prog.types[55].bytes ≤ _
    rw [byP]
    exact ⟨rfl, hg.2.2, (Nat.le_refl 1 : 0 + 1 ≤ 1), rfl, by omega⟩
  · rename_i u0 x2 h2 h3 r hr hcn x6 h6 e6 h7 u4 hky rA hrA u5
    obtain ⟨i, ⟨a1, A1, k1⟩, O1⟩ := x2
    obtain ⟨i6, j, ⟨a6, A6, k6⟩, oo, ob, oq, ol, on, oc⟩ := x6
    obtain rfl : i = i6 := Int.ofNat.inj e6
    have h3 : (i : Int) < (n : Int) := of_decide_eq_true h3
    have h6 : i < n ∧ j ≤ (rw (R.map fun r => r.l) i).length ∧ cntF n (R.map fun r => r.l) i (rw (R.map fun r => r.l) i) = true ∧ AOK ⟨bc, qc, bs, ps, ss, so, sb, sq, sl, sn, sc, bg, qg, R, n, c, bm⟩ ⟨bs, ps, ss⟩ (cAt ⟨bc, qc, bs, ps, ss, so, sb, sq, sl, sn, sc, bg, qg, R, n, c, bm⟩ i j) A6 k6 ∧ Gth (orfL vf (cAt ⟨bc, qc, bs, ps, ss, so, sb, sq, sl, sn, sc, bg, qg, R, n, c, bm⟩ i j)) (oo, ob, oq, ol, on, oc) := h6
    change Rw Pg at r
    have hr : R.getD i Rw.nil = r := hr
    have hm : r ∈ R := by rw [← hr]; exact getD_mem (by omega)
    have hk : Rok r := hrok r hm
    have hl : r.l.length < 1000000 := hfew r hm
    have hw : rw (R.map fun r => r.l) i = r.l := by rw [rwR, hr]
    rw [hw] at h6
    have h7 : (j : Int) < (r.l.length : Int) := of_decide_eq_true h7
    have hky : kyF ⟨bs, ps, ss⟩ (r.l.getD j pg0) = true := hky
    change Rw Pg at rA
    have hrA : mgetG A6 (gKey ⟨bs, ps, ss⟩ (r.l.getD j pg0)) = rA := hrA
    have ho := h6.2.2.2.1
    have hg := ho.rowl (gKey ⟨bs, ps, ss⟩ (r.l.getD j pg0))
    rw [hrA] at hg
    have hgl := grpL_len (g := ⟨bs, ps, ss⟩) (P := cAt ⟨bc, qc, bs, ps, ss, so, sb, sq, sl, sn, sc, bg, qg, R, n, c, bm⟩ i j) (k := gKey ⟨bs, ps, ss⟩ (r.l.getD j pg0))
    have hPl := pgsAt_len (f := cntF n (R.map fun r => r.l)) (rows_len hfew) i j
    have hgl : rA.l.length ≤ (i + 1) * 1000000 := by rw [hg.1]; exact Nat.le_trans hgl hPl
    exact hg.2.1
  · rename_i u0 x2 h2 h3 r hr hcn x6 h6 e6 h7 u4 hky rA hrA u5
    obtain ⟨i, ⟨a1, A1, k1⟩, O1⟩ := x2
    obtain ⟨i6, j, ⟨a6, A6, k6⟩, oo, ob, oq, ol, on, oc⟩ := x6
    obtain rfl : i = i6 := Int.ofNat.inj e6
    have h3 : (i : Int) < (n : Int) := of_decide_eq_true h3
    have h6 : i < n ∧ j ≤ (rw (R.map fun r => r.l) i).length ∧ cntF n (R.map fun r => r.l) i (rw (R.map fun r => r.l) i) = true ∧ AOK ⟨bc, qc, bs, ps, ss, so, sb, sq, sl, sn, sc, bg, qg, R, n, c, bm⟩ ⟨bs, ps, ss⟩ (cAt ⟨bc, qc, bs, ps, ss, so, sb, sq, sl, sn, sc, bg, qg, R, n, c, bm⟩ i j) A6 k6 ∧ Gth (orfL vf (cAt ⟨bc, qc, bs, ps, ss, so, sb, sq, sl, sn, sc, bg, qg, R, n, c, bm⟩ i j)) (oo, ob, oq, ol, on, oc) := h6
    change Rw Pg at r
    have hr : R.getD i Rw.nil = r := hr
    have hm : r ∈ R := by rw [← hr]; exact getD_mem (by omega)
    have hk : Rok r := hrok r hm
    have hl : r.l.length < 1000000 := hfew r hm
    have hw : rw (R.map fun r => r.l) i = r.l := by rw [rwR, hr]
    rw [hw] at h6
    have h7 : (j : Int) < (r.l.length : Int) := of_decide_eq_true h7
    have hky : kyF ⟨bs, ps, ss⟩ (r.l.getD j pg0) = true := hky
    change Rw Pg at rA
    have hrA : mgetG A6 (gKey ⟨bs, ps, ss⟩ (r.l.getD j pg0)) = rA := hrA
    have ho := h6.2.2.2.1
    have hg := ho.rowl (gKey ⟨bs, ps, ss⟩ (r.l.getD j pg0))
    rw [hrA] at hg
    have hgl := grpL_len (g := ⟨bs, ps, ss⟩) (P := cAt ⟨bc, qc, bs, ps, ss, so, sb, sq, sl, sn, sc, bg, qg, R, n, c, bm⟩ i j) (k := gKey ⟨bs, ps, ss⟩ (r.l.getD j pg0))
    have hPl := pgsAt_len (f := cntF n (R.map fun r => r.l)) (rows_len hfew) i j
    have hgl : rA.l.length ≤ (i + 1) * 1000000 := by rw [hg.1]; exact Nat.le_trans hgl hPl
    intro hon hroom
    have hon : (mgetG A6 (gKey ⟨bs, ps, ss⟩ (r.l.getD j pg0))).on = true := by rw [hrA]; exact hon
    obtain ⟨i0, g1, g2, g3⟩ := ho.excl hon
    rw [hrA] at g2 g3
    rw [hrA] at hon
    have hfar : Far ⟨bc, qc, bs, ps, ss, so, sb, sq, sl, sn, sc, bg, qg, R, n, c, bm⟩ rA.b := by
      rcases ho.get (gKey ⟨bs, ps, ss⟩ (r.l.getD j pg0)) with ⟨e, he, _, hre⟩ | ⟨hre, _⟩
      · rw [hrA] at hre
        rw [hre]; exact (ho.row e he).2.2.2
      · rw [hrA] at hre
        rw [hre] at hon; cases hon
    refine ⟨⟨i0, g1, ?_, g3⟩, And.intro (Ne.symm hfar.grid) (And.intro hfar.row (And.intro (fun hso => Ne.symm (hfar.skip hso)) (And.intro (fun hro => ?_) trivial)))⟩
    · refine g2.trans ?_
      show rA = ⟨true, rA.b, rA.base, rA.m, rA.l⟩
      rw [← hon]
    · intro e
      exact hfar.row r hm (by unfold Rw.blks; rw [hro]; exact List.mem_singleton.2 e.symm)
  · rename_i u0 x2 h2 h3 r hr hcn x6 h6 e6 h7 u4 hky rA hrA u5 bA qA cA hcA hS
    obtain ⟨i, ⟨a1, A1, k1⟩, O1⟩ := x2
    obtain ⟨i6, j, ⟨a6, A6, k6⟩, oo, ob, oq, ol, on, oc⟩ := x6
    obtain rfl : i = i6 := Int.ofNat.inj e6
    have h3 : (i : Int) < (n : Int) := of_decide_eq_true h3
    have h6 : i < n ∧ j ≤ (rw (R.map fun r => r.l) i).length ∧ cntF n (R.map fun r => r.l) i (rw (R.map fun r => r.l) i) = true ∧ AOK ⟨bc, qc, bs, ps, ss, so, sb, sq, sl, sn, sc, bg, qg, R, n, c, bm⟩ ⟨bs, ps, ss⟩ (cAt ⟨bc, qc, bs, ps, ss, so, sb, sq, sl, sn, sc, bg, qg, R, n, c, bm⟩ i j) A6 k6 ∧ Gth (orfL vf (cAt ⟨bc, qc, bs, ps, ss, so, sb, sq, sl, sn, sc, bg, qg, R, n, c, bm⟩ i j)) (oo, ob, oq, ol, on, oc) := h6
    change Rw Pg at r
    have hr : R.getD i Rw.nil = r := hr
    have hm : r ∈ R := by rw [← hr]; exact getD_mem (by omega)
    have hk : Rok r := hrok r hm
    have hl : r.l.length < 1000000 := hfew r hm
    have hw : rw (R.map fun r => r.l) i = r.l := by rw [rwR, hr]
    rw [hw] at h6
    have h7 : (j : Int) < (r.l.length : Int) := of_decide_eq_true h7
    have hky : kyF ⟨bs, ps, ss⟩ (r.l.getD j pg0) = true := hky
    change Rw Pg at rA
    have hrA : mgetG A6 (gKey ⟨bs, ps, ss⟩ (r.l.getD j pg0)) = rA := hrA
    have ho := h6.2.2.2.1
    have hg := ho.rowl (gKey ⟨bs, ps, ss⟩ (r.l.getD j pg0))
    rw [hrA] at hg
    have hgl := grpL_len (g := ⟨bs, ps, ss⟩) (P := cAt ⟨bc, qc, bs, ps, ss, so, sb, sq, sl, sn, sc, bg, qg, R, n, c, bm⟩ i j) (k := gKey ⟨bs, ps, ss⟩ (r.l.getD j pg0))
    have hPl := pgsAt_len (f := cntF n (R.map fun r => r.l)) (rows_len hfew) i j
    have hgl : rA.l.length ≤ (i + 1) * 1000000 := by rw [hg.1]; exact Nat.le_trans hgl hPl
    show rA.l.length + 1 = (rA.l ++ [r.l.getD j pg0]).length
    simp
  · rename_i u0 x2 h2 h3 r hr hcn x6 h6 e6 h7 u4 hky rA hrA u5 bA qA cA hcA hS hal u6
    obtain ⟨i, ⟨a1, A1, k1⟩, O1⟩ := x2
    obtain ⟨i6, j, ⟨a6, A6, k6⟩, oo, ob, oq, ol, on, oc⟩ := x6
    obtain rfl : i = i6 := Int.ofNat.inj e6
    have h3 : (i : Int) < (n : Int) := of_decide_eq_true h3
    have h6 : i < n ∧ j ≤ (rw (R.map fun r => r.l) i).length ∧ cntF n (R.map fun r => r.l) i (rw (R.map fun r => r.l) i) = true ∧ AOK ⟨bc, qc, bs, ps, ss, so, sb, sq, sl, sn, sc, bg, qg, R, n, c, bm⟩ ⟨bs, ps, ss⟩ (cAt ⟨bc, qc, bs, ps, ss, so, sb, sq, sl, sn, sc, bg, qg, R, n, c, bm⟩ i j) A6 k6 ∧ Gth (orfL vf (cAt ⟨bc, qc, bs, ps, ss, so, sb, sq, sl, sn, sc, bg, qg, R, n, c, bm⟩ i j)) (oo, ob, oq, ol, on, oc) := h6
    change Rw Pg at r
    have hr : R.getD i Rw.nil = r := hr
    have hm : r ∈ R := by rw [← hr]; exact getD_mem (by omega)
    have hk : Rok r := hrok r hm
    have hl : r.l.length < 1000000 := hfew r hm
    have hw : rw (R.map fun r => r.l) i = r.l := by rw [rwR, hr]
    rw [hw] at h6
    have h7 : (j : Int) < (r.l.length : Int) := of_decide_eq_true h7
    have hky : kyF ⟨bs, ps, ss⟩ (r.l.getD j pg0) = true := hky
    change Rw Pg at rA
    have hrA : mgetG A6 (gKey ⟨bs, ps, ss⟩ (r.l.getD j pg0)) = rA := hrA
    have ho := h6.2.2.2.1
    have hg := ho.rowl (gKey ⟨bs, ps, ss⟩ (r.l.getD j pg0))
    rw [hrA] at hg
    have hgl := grpL_len (g := ⟨bs, ps, ss⟩) (P := cAt ⟨bc, qc, bs, ps, ss, so, sb, sq, sl, sn, sc, bg, qg, R, n, c, bm⟩ i j) (k := gKey ⟨bs, ps, ss⟩ (r.l.getD j pg0))
    have hPl := pgsAt_len (f := cntF n (R.map fun r => r.l)) (rows_len hfew) i j
    have hgl : rA.l.length ≤ (i + 1) * 1000000 := by rw [hg.1]; exact Nat.le_trans hgl hPl
    have hO := h6.2.2.2.2.room
    have hol := orfL_len (f := vf) (P := cAt ⟨bc, qc, bs, ps, ss, so, sb, sq, sl, sn, sc, bg, qg, R, n, c, bm⟩ i j)
    have hPl := pgsAt_len (f := cntF n (R.map fun r => r.l)) (rows_len hfew) i j
    have hon : on ≤ (i + 1) * 1000000 := by rw [hO.2.2.1]; exact Nat.le_trans hol hPl
    rw [byPl]
    exact ⟨hO.1, by show 0 + oc ≤ ol.length; omega, by simp, by show (on + 1) * 16 ≤ _; omega⟩
  · rename_i u0 x2 h2 h3 r hr hcn x6 h6 e6 h7 u4 hky rA hrA u5 bA qA cA hcA hS hal u6
    obtain ⟨i, ⟨a1, A1, k1⟩, O1⟩ := x2
    obtain ⟨i6, j, ⟨a6, A6, k6⟩, oo, ob, oq, ol, on, oc⟩ := x6
    obtain rfl : i = i6 := Int.ofNat.inj e6
    have h3 : (i : Int) < (n : Int) := of_decide_eq_true h3
    have h6 : i < n ∧ j ≤ (rw (R.map fun r => r.l) i).length ∧ cntF n (R.map fun r => r.l) i (rw (R.map fun r => r.l) i) = true ∧ AOK ⟨bc, qc, bs, ps, ss, so, sb, sq, sl, sn, sc, bg, qg, R, n, c, bm⟩ ⟨bs, ps, ss⟩ (cAt ⟨bc, qc, bs, ps, ss, so, sb, sq, sl, sn, sc, bg, qg, R, n, c, bm⟩ i j) A6 k6 ∧ Gth (orfL vf (cAt ⟨bc, qc, bs, ps, ss, so, sb, sq, sl, sn, sc, bg, qg, R, n, c, bm⟩ i j)) (oo, ob, oq, ol, on, oc) := h6
    change Rw Pg at r
    have hr : R.getD i Rw.nil = r := hr
    have hm : r ∈ R := by rw [← hr]; exact getD_mem (by omega)
    have hk : Rok r := hrok r hm
    have hl : r.l.length < 1000000 := hfew r hm
    have hw : rw (R.map fun r => r.l) i = r.l := by rw [rwR, hr]
    rw [hw] at h6
    have h7 : (j : Int) < (r.l.length : Int) := of_decide_eq_true h7
    have hky : kyF ⟨bs, ps, ss⟩ (r.l.getD j pg0) = true := hky
    change Rw Pg at rA
    have hrA : mgetG A6 (gKey ⟨bs, ps, ss⟩ (r.l.getD j pg0)) = rA := hrA
    have ho := h6.2.2.2.1
    have hg := ho.rowl (gKey ⟨bs, ps, ss⟩ (r.l.getD j pg0))
    rw [hrA] at hg
    have hgl := grpL_len (g := ⟨bs, ps, ss⟩) (P := cAt ⟨bc, qc, bs, ps, ss, so, sb, sq, sl, sn, sc, bg, qg, R, n, c, bm⟩ i j) (k := gKey ⟨bs, ps, ss⟩ (r.l.getD j pg0))
    have hPl := pgsAt_len (f := cntF n (R.map fun r => r.l)) (rows_len hfew) i j
    have hgl : rA.l.length ≤ (i + 1) * 1000000 := by rw [hg.1]; exact Nat.le_trans hgl hPl
    exact h6.2.2.2.2.room.2.2.2
  · rename_i u0 x2 h2 h3 r hr hcn x6 h6 e6 h7 u4 hky rA hrA u5 bA qA cA hcA hS hal u6 b9 q9 sp cp hc1 hc2
    obtain ⟨i, ⟨a1, A1, k1⟩, O1⟩ := x2
    obtain ⟨i6, j, ⟨a6, A6, k6⟩, oo, ob, oq, ol, on, oc⟩ := x6
    obtain rfl : i = i6 := Int.ofNat.inj e6
    have h3 : (i : Int) < (n : Int) := of_decide_eq_true h3
    have h6 : i < n ∧ j ≤ (rw (R.map fun r => r.l) i).length ∧ cntF n (R.map fun r => r.l) i (rw (R.map fun r => r.l) i) = true ∧ AOK ⟨bc, qc, bs, ps, ss, so, sb, sq, sl, sn, sc, bg, qg, R, n, c, bm⟩ ⟨bs, ps, ss⟩ (cAt ⟨bc, qc, bs, ps, ss, so, sb, sq, sl, sn, sc, bg, qg, R, n, c, bm⟩ i j) A6 k6 ∧ Gth (orfL vf (cAt ⟨bc, qc, bs, ps, ss, so, sb, sq, sl, sn, sc, bg, qg, R, n, c, bm⟩ i j)) (oo, ob, oq, ol, on, oc) := h6
    change Rw Pg at r
    have hr : R.getD i Rw.nil = r := hr
    have hm : r ∈ R := by rw [← hr]; exact getD_mem (by omega)
    have hk : Rok r := hrok r hm
    have hl : r.l.length < 1000000 := hfew r hm
    have hw : rw (R.map fun r => r.l) i = r.l := by rw [rwR, hr]
    rw [hw] at h6
    have h7 : (j : Int) < (r.l.length : Int) := of_decide_eq_true h7
    have hky : kyF ⟨bs, ps, ss⟩ (r.l.getD j pg0) = true := hky
    change Rw Pg at rA
    have hrA : mgetG A6 (gKey ⟨bs, ps, ss⟩ (r.l.getD j pg0)) = rA := hrA
    have ho := h6.2.2.2.1
    have hg := ho.rowl (gKey ⟨bs, ps, ss⟩ (r.l.getD j pg0))
    rw [hrA] at hg
    have hgl := grpL_len (g := ⟨bs, ps, ss⟩) (P := cAt ⟨bc, qc, bs, ps, ss, so, sb, sq, sl, sn, sc, bg, qg, R, n, c, bm⟩ i j) (k := gKey ⟨bs, ps, ss⟩ (r.l.getD j pg0))
    have hPl := pgsAt_len (f := cntF n (R.map fun r => r.l)) (rows_len hfew) i j
    have hgl : rA.l.length ≤ (i + 1) * 1000000 := by rw [hg.1]; exact Nat.le_trans hgl hPl
    exact inR64 (by show -9223372036854775808 ≤ (j : Int) + 1; omega) (by show (j : Int) + 1 ≤ 9223372036854775807; omega)
  · rename_i u0 x2 h2 h3 r hr hcn x6 h6 e6 h7 u4 hky rA hrA u5 bA qA cA hcA hS hal u6 b9 q9 sp cp hc1 hc2
    obtain ⟨i, ⟨a1, A1, k1⟩, O1⟩ := x2
    obtain ⟨i6, j, ⟨a6, A6, k6⟩, oo, ob, oq, ol, on, oc⟩ := x6
    obtain rfl : i = i6 := Int.ofNat.inj e6
    have h3 : (i : Int) < (n : Int) := of_decide_eq_true h3
    have h6 : i < n ∧ j ≤ (rw (R.map fun r => r.l) i).length ∧ cntF n (R.map fun r => r.l) i (rw (R.map fun r => r.l) i) = true ∧ AOK ⟨bc, qc, bs, ps, ss, so, sb, sq, sl, sn, sc, bg, qg, R, n, c, bm⟩ ⟨bs, ps, ss⟩ (cAt ⟨bc, qc, bs, ps, ss, so, sb, sq, sl, sn, sc, bg, qg, R, n, c, bm⟩ i j) A6 k6 ∧ Gth (orfL vf (cAt ⟨bc, qc, bs, ps, ss, so, sb, sq, sl, sn, sc, bg, qg, R, n, c, bm⟩ i j)) (oo, ob, oq, ol, on, oc) := h6
    change Rw Pg at r
    have hr : R.getD i Rw.nil = r := hr
    have hm : r ∈ R := by rw [← hr]; exact getD_mem (by omega)
    have hk : Rok r := hrok r hm
    have hl : r.l.length < 1000000 := hfew r hm
    have hw : rw (R.map fun r => r.l) i = r.l := by rw [rwR, hr]
    rw [hw] at h6
    have h7 : (j : Int) < (r.l.length : Int) := of_decide_eq_true h7
    have hky : kyF ⟨bs, ps, ss⟩ (r.l.getD j pg0) = true := hky
    change Rw Pg at rA
    have hrA : mgetG A6 (gKey ⟨bs, ps, ss⟩ (r.l.getD j pg0)) = rA := hrA
    have ho := h6.2.2.2.1
    have hg := ho.rowl (gKey ⟨bs, ps, ss⟩ (r.l.getD j pg0))
    rw [hrA] at hg
    have hgl := grpL_len (g := ⟨bs, ps, ss⟩) (P := cAt ⟨bc, qc, bs, ps, ss, so, sb, sq, sl, sn, sc, bg, qg, R, n, c, bm⟩ i j) (k := gKey ⟨bs, ps, ss⟩ (r.l.getD j pg0))
    have hPl := pgsAt_len (f := cntF n (R.map fun r => r.l)) (rows_len hfew) i j
    have hgl : rA.l.length ≤ (i + 1) * 1000000 := by rw [hg.1]; exact Nat.le_trans hgl hPl
    have hj : j < (rw (R.map fun r => r.l) i).length := by rw [hw]; omega
    have hp : (rw (R.map fun r => r.l) i).getD j pg0 = r.l.getD j pg0 := by rw [hw]
    have hcnt : cntF n (R.map fun r => r.l) i (rw (R.map fun r => r.l) i) = true := by rw [hw]; exact h6.2.2.1
    have hP : cAt ⟨bc, qc, bs, ps, ss, so, sb, sq, sl, sn, sc, bg, qg, R, n, c, bm⟩ i (j + 1) = cAt ⟨bc, qc, bs, ps, ss, so, sb, sq, sl, sn, sc, bg, qg, R, n, c, bm⟩ i j ++ [r.l.getD j pg0] := (pgsAt_yes (f := cntF n (R.map fun r => r.l)) hj hcnt).trans (by rw [hp])
    have hput : AOK ⟨bc, qc, bs, ps, ss, so, sb, sq, sl, sn, sc, bg, qg, R, n, c, bm⟩ ⟨bs, ps, ss⟩ (cAt ⟨bc, qc, bs, ps, ss, so, sb, sq, sl, sn, sc, bg, qg, R, n, c, bm⟩ i (j + 1)) (mputG A6 (gKey ⟨bs, ps, ss⟩ (r.l.getD j pg0)) ⟨true, bA, qA, cA, rA.l ++ [r.l.getD j pg0]⟩ k6) (mclk (C0 3) (C0 33) A6 (gKey ⟨bs, ps, ss⟩ (r.l.getD j pg0)) k6) := by
      rw [hP, hg.1]
      refine ho.put hky (by rw [← hg.1]; exact hcA) ?_
      rw [hrA]
      rcases hS with hS | hS
      · exact .inl ⟨hS.1, hS.2.2.1⟩
      · have hF := freshL_to hS
        refine .inr ⟨⟨fun e => (hF 1 (show 1 < 11 by decide)).1 rfl e.symm, fun hso e => (hF 3 (show 3 < 11 by decide)).1 hso e.symm, fun y hy => (hF 1 (show 1 < 11 by decide)).2 33 y (.rows hy)⟩, fun e he => (hF 5 (show 5 < 11 by decide)).2 33 e.2.1 (.inr ⟨3, A6, k6, rfl, e, he, rfl⟩)⟩
    have hal : orF vf (r.l.getD j pg0) = true := hal
    have horf : Gth (orfL vf (cAt ⟨bc, qc, bs, ps, ss, so, sb, sq, sl, sn, sc, bg, qg, R, n, c, bm⟩ i (j + 1))) (true, b9, q9, ol.take on ++ [(r.l.getD j pg0).pl] ++ sp, on + 1, cp) := by
      rw [hP, orfL_yes hal]
      exact h6.2.2.2.2.snoc hc1 hc2
    refine Stands.one (i, j + 1, (a6, mputG A6 (gKey ⟨bs, ps, ss⟩ (r.l.getD j pg0)) ⟨true, bA, qA, cA, rA.l ++ [r.l.getD j pg0]⟩ k6, mclk (C0 3) (C0 33) A6 (gKey ⟨bs, ps, ss⟩ (r.l.getD j pg0)) k6), (true, b9, q9, ol.take on ++ [(r.l.getD j pg0).pl] ++ sp, on + 1, cp)) ⟨⟨by show i < n; omega, by show j + 1 ≤ (rw (R.map fun r => r.l) i).length; omega, hcnt, hput, horf⟩, by show (rw (R.map fun r => r.l) i).length - (j + 1) < (rw (R.map fun r => r.l) i).length - j; omega, ?_⟩
    ((conv => (arg 1; reduce)); with_reducible repeat' (first | exact Tr.yes_h | refine Tr.and_h ?_ ?_ | refine Tr.imp_h fun _ => ?_ | refine Tr.all_h fun _ => ?_ | refine Tr.lf_h ?_))
    all_goals (first | first | (show Region.lexB _ _ = true; kernel_rfl) | (show planned _ _ = true; kernel_rfl) | exact rfl | exact True.intro | (first | exact key3 | exact zeroB | exact zeroR | exact zeroS | exact ⟨key3, zeroB⟩ | exact ⟨key3, zeroR⟩ | exact ⟨key3, zeroS⟩) | ((try dsimp only [imp, C0, cG, cInt, cPl, cSlot, cPg, gwCodec] at *); (try refine inR64 ?_ ?_) <;> (try simp only [List.length_set, List.length_append, List.length_take, List.length_drop]) <;> omega))
  · rename_i u0 x2 h2 h3 r hr hcn x6 h6 e6 h7 u4 hky rA hrA u5 bA qA cA hcA hS hal
    obtain ⟨i, ⟨a1, A1, k1⟩, O1⟩ := x2
    obtain ⟨i6, j, ⟨a6, A6, k6⟩, oo, ob, oq, ol, on, oc⟩ := x6
    obtain rfl : i = i6 := Int.ofNat.inj e6
    have h3 : (i : Int) < (n : Int) := of_decide_eq_true h3
    have h6 : i < n ∧ j ≤ (rw (R.map fun r => r.l) i).length ∧ cntF n (R.map fun r => r.l) i (rw (R.map fun r => r.l) i) = true ∧ AOK ⟨bc, qc, bs, ps, ss, so, sb, sq, sl, sn, sc, bg, qg, R, n, c, bm⟩ ⟨bs, ps, ss⟩ (cAt ⟨bc, qc, bs, ps, ss, so, sb, sq, sl, sn, sc, bg, qg, R, n, c, bm⟩ i j) A6 k6 ∧ Gth (orfL vf (cAt ⟨bc, qc, bs, ps, ss, so, sb, sq, sl, sn, sc, bg, qg, R, n, c, bm⟩ i j)) (oo, ob, oq, ol, on, oc) := h6
    change Rw Pg at r
    have hr : R.getD i Rw.nil = r := hr
    have hm : r ∈ R := by rw [← hr]; exact getD_mem (by omega)
    have hk : Rok r := hrok r hm
    have hl : r.l.length < 1000000 := hfew r hm
    have hw : rw (R.map fun r => r.l) i = r.l := by rw [rwR, hr]
    rw [hw] at h6
    have h7 : (j : Int) < (r.l.length : Int) := of_decide_eq_true h7
    have hky : kyF ⟨bs, ps, ss⟩ (r.l.getD j pg0) = true := hky
    change Rw Pg at rA
    have hrA : mgetG A6 (gKey ⟨bs, ps, ss⟩ (r.l.getD j pg0)) = rA := hrA
    have ho := h6.2.2.2.1
    have hg := ho.rowl (gKey ⟨bs, ps, ss⟩ (r.l.getD j pg0))
    rw [hrA] at hg
    have hgl := grpL_len (g := ⟨bs, ps, ss⟩) (P := cAt ⟨bc, qc, bs, ps, ss, so, sb, sq, sl, sn, sc, bg, qg, R, n, c, bm⟩ i j) (k := gKey ⟨bs, ps, ss⟩ (r.l.getD j pg0))
    have hPl := pgsAt_len (f := cntF n (R.map fun r => r.l)) (rows_len hfew) i j
    have hgl : rA.l.length ≤ (i + 1) * 1000000 := by rw [hg.1]; exact Nat.le_trans hgl hPl
    exact inR64 (by show -9223372036854775808 ≤ (j : Int) + 1; omega) (by show (j : Int) + 1 ≤ 9223372036854775807; omega)
  · rename_i u0 x2 h2 h3 r hr hcn x6 h6 e6 h7 u4 hky rA hrA u5 bA qA cA hcA hS hal
    obtain ⟨i, ⟨a1, A1, k1⟩, O1⟩ := x2
    obtain ⟨i6, j, ⟨a6, A6, k6⟩, oo, ob, oq, ol, on, oc⟩ := x6
    obtain rfl : i = i6 := Int.ofNat.inj e6
    have h3 : (i : Int) < (n : Int) := of_decide_eq_true h3
    have h6 : i < n ∧ j ≤ (rw (R.map fun r => r.l) i).length ∧ cntF n (R.map fun r => r.l) i (rw (R.map fun r => r.l) i) = true ∧ AOK ⟨bc, qc, bs, ps, ss, so, sb, sq, sl, sn, sc, bg, qg, R, n, c, bm⟩ ⟨bs, ps, ss⟩ (cAt ⟨bc, qc, bs, ps, ss, so, sb, sq, sl, sn, sc, bg, qg, R, n, c, bm⟩ i j) A6 k6 ∧ Gth (orfL vf (cAt ⟨bc, qc, bs, ps, ss, so, sb, sq, sl, sn, sc, bg, qg, R, n, c, bm⟩ i j)) (oo, ob, oq, ol, on, oc) := h6
    change Rw Pg at r
    have hr : R.getD i Rw.nil = r := hr
    have hm : r ∈ R := by rw [← hr]; exact getD_mem (by omega)
    have hk : Rok r := hrok r hm
    have hl : r.l.length < 1000000 := hfew r hm
    have hw : rw (R.map fun r => r.l) i = r.l := by rw [rwR, hr]
    rw [hw] at h6
    have h7 : (j : Int) < (r.l.length : Int) := of_decide_eq_true h7
    have hky : kyF ⟨bs, ps, ss⟩ (r.l.getD j pg0) = true := hky
    change Rw Pg at rA
    have hrA : mgetG A6 (gKey ⟨bs, ps, ss⟩ (r.l.getD j pg0)) = rA := hrA
    have ho := h6.2.2.2.1
    have hg := ho.rowl (gKey ⟨bs, ps, ss⟩ (r.l.getD j pg0))
    rw [hrA] at hg
    have hgl := grpL_len (g := ⟨bs, ps, ss⟩) (P := cAt ⟨bc, qc, bs, ps, ss, so, sb, sq, sl, sn, sc, bg, qg, R, n, c, bm⟩ i j) (k := gKey ⟨bs, ps, ss⟩ (r.l.getD j pg0))
    have hPl := pgsAt_len (f := cntF n (R.map fun r => r.l)) (rows_len hfew) i j
    have hgl : rA.l.length ≤ (i + 1) * 1000000 := by rw [hg.1]; exact Nat.le_trans hgl hPl
    have hj : j < (rw (R.map fun r => r.l) i).length := by rw [hw]; omega
    have hp : (rw (R.map fun r => r.l) i).getD j pg0 = r.l.getD j pg0 := by rw [hw]
    have hcnt : cntF n (R.map fun r => r.l) i (rw (R.map fun r => r.l) i) = true := by rw [hw]; exact h6.2.2.1
    have hP : cAt ⟨bc, qc, bs, ps, ss, so, sb, sq, sl, sn, sc, bg, qg, R, n, c, bm⟩ i (j + 1) = cAt ⟨bc, qc, bs, ps, ss, so, sb, sq, sl, sn, sc, bg, qg, R, n, c, bm⟩ i j ++ [r.l.getD j pg0] := (pgsAt_yes (f := cntF n (R.map fun r => r.l)) hj hcnt).trans (by rw [hp])
    have hput : AOK ⟨bc, qc, bs, ps, ss, so, sb, sq, sl, sn, sc, bg, qg, R, n, c, bm⟩ ⟨bs, ps, ss⟩ (cAt ⟨bc, qc, bs, ps, ss, so, sb, sq, sl, sn, sc, bg, qg, R, n, c, bm⟩ i (j + 1)) (mputG A6 (gKey ⟨bs, ps, ss⟩ (r.l.getD j pg0)) ⟨true, bA, qA, cA, rA.l ++ [r.l.getD j pg0]⟩ k6) (mclk (C0 3) (C0 33) A6 (gKey ⟨bs, ps, ss⟩ (r.l.getD j pg0)) k6) := by
      rw [hP, hg.1]
      refine ho.put hky (by rw [← hg.1]; exact hcA) ?_
      rw [hrA]
      rcases hS with hS | hS
      · exact .inl ⟨hS.1, hS.2.2.1⟩
      · have hF := freshL_to hS
        refine .inr ⟨⟨fun e => (hF 1 (show 1 < 11 by decide)).1 rfl e.symm, fun hso e => (hF 3 (show 3 < 11 by decide)).1 hso e.symm, fun y hy => (hF 1 (show 1 < 11 by decide)).2 33 y (.rows hy)⟩, fun e he => (hF 5 (show 5 < 11 by decide)).2 33 e.2.1 (.inr ⟨3, A6, k6, rfl, e, he, rfl⟩)⟩
    have hal : orF vf (r.l.getD j pg0) = false := hal
    have horf : Gth (orfL vf (cAt ⟨bc, qc, bs, ps, ss, so, sb, sq, sl, sn, sc, bg, qg, R, n, c, bm⟩ i (j + 1))) (oo, ob, oq, ol, on, oc) := by
      rw [hP, orfL_no hal]
      exact h6.2.2.2.2
    refine Stands.one (i, j + 1, (a6, mputG A6 (gKey ⟨bs, ps, ss⟩ (r.l.getD j pg0)) ⟨true, bA, qA, cA, rA.l ++ [r.l.getD j pg0]⟩ k6, mclk (C0 3) (C0 33) A6 (gKey ⟨bs, ps, ss⟩ (r.l.getD j pg0)) k6), (oo, ob, oq, ol, on, oc)) ⟨⟨by show i < n; omega, by show j + 1 ≤ (rw (R.map fun r => r.l) i).length; omega, hcnt, hput, horf⟩, by show (rw (R.map fun r => r.l) i).length - (j + 1) < (rw (R.map fun r => r.l) i).length - j; omega, ?_⟩
    ((conv => (arg 1; reduce)); with_reducible repeat' (first | exact Tr.yes_h | refine Tr.and_h ?_ ?_ | refine Tr.imp_h fun _ => ?_ | refine Tr.all_h fun _ => ?_ | refine Tr.lf_h ?_))
    all_goals (first | first | (show Region.lexB _ _ = true; kernel_rfl) | (show planned _ _ = true; kernel_rfl) | exact rfl | exact True.intro | (first | exact key3 | exact zeroB | exact zeroR | exact zeroS | exact ⟨key3, zeroB⟩ | exact ⟨key3, zeroR⟩ | exact ⟨key3, zeroS⟩) | ((try dsimp only [imp, C0, cG, cInt, cPl, cSlot, cPg, gwCodec] at *); (try refine inR64 ?_ ?_) <;> (try simp only [List.length_set, List.length_append, List.length_take, List.length_drop]) <;> omega))
  · rename_i u0 x2 h2 h3 r hr hcn x6 h6 e6 h7 u4 hky hal u6
    obtain ⟨i, ⟨a1, A1, k1⟩, O1⟩ := x2
    obtain ⟨i6, j, ⟨a6, A6, k6⟩, oo, ob, oq, ol, on, oc⟩ := x6
    obtain rfl : i = i6 := Int.ofNat.inj e6
    have h3 : (i : Int) < (n : Int) := of_decide_eq_true h3
    have h6 : i < n ∧ j ≤ (rw (R.map fun r => r.l) i).length ∧ cntF n (R.map fun r => r.l) i (rw (R.map fun r => r.l) i) = true ∧ AOK ⟨bc, qc, bs, ps, ss, so, sb, sq, sl, sn, sc, bg, qg, R, n, c, bm⟩ ⟨bs, ps, ss⟩ (cAt ⟨bc, qc, bs, ps, ss, so, sb, sq, sl, sn, sc, bg, qg, R, n, c, bm⟩ i j) A6 k6 ∧ Gth (orfL vf (cAt ⟨bc, qc, bs, ps, ss, so, sb, sq, sl, sn, sc, bg, qg, R, n, c, bm⟩ i j)) (oo, ob, oq, ol, on, oc) := h6
    change Rw Pg at r
    have hr : R.getD i Rw.nil = r := hr
    have hm : r ∈ R := by rw [← hr]; exact getD_mem (by omega)
    have hk : Rok r := hrok r hm
    have hl : r.l.length < 1000000 := hfew r hm
    have hw : rw (R.map fun r => r.l) i = r.l := by rw [rwR, hr]
    rw [hw] at h6
    have h7 : (j : Int) < (r.l.length : Int) := of_decide_eq_true h7
    have hO := h6.2.2.2.2.room
    have hol := orfL_len (f := vf) (P := cAt ⟨bc, qc, bs, ps, ss, so, sb, sq, sl, sn, sc, bg, qg, R, n, c, bm⟩ i j)
    have hPl := pgsAt_len (f := cntF n (R.map fun r => r.l)) (rows_len hfew) i j
    have hon : on ≤ (i + 1) * 1000000 := by rw [hO.2.2.1]; exact Nat.le_trans hol hPl
    rw [byPl]
    exact ⟨hO.1, by show 0 + oc ≤ ol.length; omega, by simp, by show (on + 1) * 16 ≤ _; omega⟩
  · rename_i u0 x2 h2 h3 r hr hcn x6 h6 e6 h7 u4 hky hal u6
    obtain ⟨i, ⟨a1, A1, k1⟩, O1⟩ := x2
    obtain ⟨i6, j, ⟨a6, A6, k6⟩, oo, ob, oq, ol, on, oc⟩ := x6
    obtain rfl : i = i6 := Int.ofNat.inj e6
    have h3 : (i : Int) < (n : Int) := of_decide_eq_true h3
    have h6 : i < n ∧ j ≤ (rw (R.map fun r => r.l) i).length ∧ cntF n (R.map fun r => r.l) i (rw (R.map fun r => r.l) i) = true ∧ AOK ⟨bc, qc, bs, ps, ss, so, sb, sq, sl, sn, sc, bg, qg, R, n, c, bm⟩ ⟨bs, ps, ss⟩ (cAt ⟨bc, qc, bs, ps, ss, so, sb, sq, sl, sn, sc, bg, qg, R, n, c, bm⟩ i j) A6 k6 ∧ Gth (orfL vf (cAt ⟨bc, qc, bs, ps, ss, so, sb, sq, sl, sn, sc, bg, qg, R, n, c, bm⟩ i j)) (oo, ob, oq, ol, on, oc) := h6
    change Rw Pg at r
    have hr : R.getD i Rw.nil = r := hr
    have hm : r ∈ R := by rw [← hr]; exact getD_mem (by omega)
    have hk : Rok r := hrok r hm
    have hl : r.l.length < 1000000 := hfew r hm
    have hw : rw (R.map fun r => r.l) i = r.l := by rw [rwR, hr]
    rw [hw] at h6
    have h7 : (j : Int) < (r.l.length : Int) := of_decide_eq_true h7
    exact h6.2.2.2.2.room.2.2.2
  · rename_i u0 x2 h2 h3 r hr hcn x6 h6 e6 h7 u4 hky hal u6 b9 q9 sp cp hc1 hc2
    obtain ⟨i, ⟨a1, A1, k1⟩, O1⟩ := x2
    obtain ⟨i6, j, ⟨a6, A6, k6⟩, oo, ob, oq, ol, on, oc⟩ := x6
    obtain rfl : i = i6 := Int.ofNat.inj e6
    have h3 : (i : Int) < (n : Int) := of_decide_eq_true h3
    have h6 : i < n ∧ j ≤ (rw (R.map fun r => r.l) i).length ∧ cntF n (R.map fun r => r.l) i (rw (R.map fun r => r.l) i) = true ∧ AOK ⟨bc, qc, bs, ps, ss, so, sb, sq, sl, sn, sc, bg, qg, R, n, c, bm⟩ ⟨bs, ps, ss⟩ (cAt ⟨bc, qc, bs, ps, ss, so, sb, sq, sl, sn, sc, bg, qg, R, n, c, bm⟩ i j) A6 k6 ∧ Gth (orfL vf (cAt ⟨bc, qc, bs, ps, ss, so, sb, sq, sl, sn, sc, bg, qg, R, n, c, bm⟩ i j)) (oo, ob, oq, ol, on, oc) := h6
    change Rw Pg at r
    have hr : R.getD i Rw.nil = r := hr
    have hm : r ∈ R := by rw [← hr]; exact getD_mem (by omega)
    have hk : Rok r := hrok r hm
    have hl : r.l.length < 1000000 := hfew r hm
    have hw : rw (R.map fun r => r.l) i = r.l := by rw [rwR, hr]
    rw [hw] at h6
    have h7 : (j : Int) < (r.l.length : Int) := of_decide_eq_true h7
    exact inR64 (by show -9223372036854775808 ≤ (j : Int) + 1; omega) (by show (j : Int) + 1 ≤ 9223372036854775807; omega)
  · rename_i u0 x2 h2 h3 r hr hcn x6 h6 e6 h7 u4 hky hal u6 b9 q9 sp cp hc1 hc2
    obtain ⟨i, ⟨a1, A1, k1⟩, O1⟩ := x2
    obtain ⟨i6, j, ⟨a6, A6, k6⟩, oo, ob, oq, ol, on, oc⟩ := x6
    obtain rfl : i = i6 := Int.ofNat.inj e6
    have h3 : (i : Int) < (n : Int) := of_decide_eq_true h3
    have h6 : i < n ∧ j ≤ (rw (R.map fun r => r.l) i).length ∧ cntF n (R.map fun r => r.l) i (rw (R.map fun r => r.l) i) = true ∧ AOK ⟨bc, qc, bs, ps, ss, so, sb, sq, sl, sn, sc, bg, qg, R, n, c, bm⟩ ⟨bs, ps, ss⟩ (cAt ⟨bc, qc, bs, ps, ss, so, sb, sq, sl, sn, sc, bg, qg, R, n, c, bm⟩ i j) A6 k6 ∧ Gth (orfL vf (cAt ⟨bc, qc, bs, ps, ss, so, sb, sq, sl, sn, sc, bg, qg, R, n, c, bm⟩ i j)) (oo, ob, oq, ol, on, oc) := h6
    change Rw Pg at r
    have hr : R.getD i Rw.nil = r := hr
    have hm : r ∈ R := by rw [← hr]; exact getD_mem (by omega)
    have hk : Rok r := hrok r hm
    have hl : r.l.length < 1000000 := hfew r hm
    have hw : rw (R.map fun r => r.l) i = r.l := by rw [rwR, hr]
    rw [hw] at h6
    have h7 : (j : Int) < (r.l.length : Int) := of_decide_eq_true h7
    have hj : j < (rw (R.map fun r => r.l) i).length := by rw [hw]; omega
    have hp : (rw (R.map fun r => r.l) i).getD j pg0 = r.l.getD j pg0 := by rw [hw]
    have hcnt : cntF n (R.map fun r => r.l) i (rw (R.map fun r => r.l) i) = true := by rw [hw]; exact h6.2.2.1
    have hP : cAt ⟨bc, qc, bs, ps, ss, so, sb, sq, sl, sn, sc, bg, qg, R, n, c, bm⟩ i (j + 1) = cAt ⟨bc, qc, bs, ps, ss, so, sb, sq, sl, sn, sc, bg, qg, R, n, c, bm⟩ i j ++ [r.l.getD j pg0] := (pgsAt_yes (f := cntF n (R.map fun r => r.l)) hj hcnt).trans (by rw [hp])
    have hky : kyF ⟨bs, ps, ss⟩ (r.l.getD j pg0) = false := hky
    have hput : AOK ⟨bc, qc, bs, ps, ss, so, sb, sq, sl, sn, sc, bg, qg, R, n, c, bm⟩ ⟨bs, ps, ss⟩ (cAt ⟨bc, qc, bs, ps, ss, so, sb, sq, sl, sn, sc, bg, qg, R, n, c, bm⟩ i (j + 1)) A6 k6 := by
      rw [hP]; exact h6.2.2.2.1.no hky
    have hal : orF vf (r.l.getD j pg0) = true := hal
    have horf : Gth (orfL vf (cAt ⟨bc, qc, bs, ps, ss, so, sb, sq, sl, sn, sc, bg, qg, R, n, c, bm⟩ i (j + 1))) (true, b9, q9, ol.take on ++ [(r.l.getD j pg0).pl] ++ sp, on + 1, cp) := by
      rw [hP, orfL_yes hal]
      exact h6.2.2.2.2.snoc hc1 hc2
    refine Stands.one (i, j + 1, (a6, A6, k6), (true, b9, q9, ol.take on ++ [(r.l.getD j pg0).pl] ++ sp, on + 1, cp)) ⟨⟨by show i < n; omega, by show j + 1 ≤ (rw (R.map fun r => r.l) i).length; omega, hcnt, hput, horf⟩, by show (rw (R.map fun r => r.l) i).length - (j + 1) < (rw (R.map fun r => r.l) i).length - j; omega, ?_⟩
    ((conv => (arg 1; reduce)); with_reducible repeat' (first | exact Tr.yes_h | refine Tr.and_h ?_ ?_ | refine Tr.imp_h fun _ => ?_ | refine Tr.all_h fun _ => ?_ | refine Tr.lf_h ?_))
    all_goals (first | first | (show Region.lexB _ _ = true; kernel_rfl) | (show planned _ _ = true; kernel_rfl) | exact rfl | exact True.intro | (first | exact key3 | exact zeroB | exact zeroR | exact zeroS | exact ⟨key3, zeroB⟩ | exact ⟨key3, zeroR⟩ | exact ⟨key3, zeroS⟩) | ((try dsimp only [imp, C0, cG, cInt, cPl, cSlot, cPg, gwCodec] at *); (try refine inR64 ?_ ?_) <;> (try simp only [List.length_set, List.length_append, List.length_take, List.length_drop]) <;> omega))
  · rename_i u0 x2 h2 h3 r hr hcn x6 h6 e6 h7 u4 hky hal
    obtain ⟨i, ⟨a1, A1, k1⟩, O1⟩ := x2
    obtain ⟨i6, j, ⟨a6, A6, k6⟩, oo, ob, oq, ol, on, oc⟩ := x6
    obtain rfl : i = i6 := Int.ofNat.inj e6
    have h3 : (i : Int) < (n : Int) := of_decide_eq_true h3
    have h6 : i < n ∧ j ≤ (rw (R.map fun r => r.l) i).length ∧ cntF n (R.map fun r => r.l) i (rw (R.map fun r => r.l) i) = true ∧ AOK ⟨bc, qc, bs, ps, ss, so, sb, sq, sl, sn, sc, bg, qg, R, n, c, bm⟩ ⟨bs, ps, ss⟩ (cAt ⟨bc, qc, bs, ps, ss, so, sb, sq, sl, sn, sc, bg, qg, R, n, c, bm⟩ i j) A6 k6 ∧ Gth (orfL vf (cAt ⟨bc, qc, bs, ps, ss, so, sb, sq, sl, sn, sc, bg, qg, R, n, c, bm⟩ i j)) (oo, ob, oq, ol, on, oc) := h6
    change Rw Pg at r
    have hr : R.getD i Rw.nil = r := hr
    have hm : r ∈ R := by rw [← hr]; exact getD_mem (by omega)
    have hk : Rok r := hrok r hm
    have hl : r.l.length < 1000000 := hfew r hm
    have hw : rw (R.map fun r => r.l) i = r.l := by rw [rwR, hr]
    rw [hw] at h6
    have h7 : (j : Int) < (r.l.length : Int) := of_decide_eq_true h7
    exact inR64 (by show -9223372036854775808 ≤ (j : Int) + 1; omega) (by show (j : Int) + 1 ≤ 9223372036854775807; omega)
  · rename_i u0 x2 h2 h3 r hr hcn x6 h6 e6 h7 u4 hky hal
    obtain ⟨i, ⟨a1, A1, k1⟩, O1⟩ := x2
    obtain ⟨i6, j, ⟨a6, A6, k6⟩, oo, ob, oq, ol, on, oc⟩ := x6
    obtain rfl : i = i6 := Int.ofNat.inj e6
    have h3 : (i : Int) < (n : Int) := of_decide_eq_true h3
    have h6 : i < n ∧ j ≤ (rw (R.map fun r => r.l) i).length ∧ cntF n (R.map fun r => r.l) i (rw (R.map fun r => r.l) i) = true ∧ AOK ⟨bc, qc, bs, ps, ss, so, sb, sq, sl, sn, sc, bg, qg, R, n, c, bm⟩ ⟨bs, ps, ss⟩ (cAt ⟨bc, qc, bs, ps, ss, so, sb, sq, sl, sn, sc, bg, qg, R, n, c, bm⟩ i j) A6 k6 ∧ Gth (orfL vf (cAt ⟨bc, qc, bs, ps, ss, so, sb, sq, sl, sn, sc, bg, qg, R, n, c, bm⟩ i j)) (oo, ob, oq, ol, on, oc) := h6
    change Rw Pg at r
    have hr : R.getD i Rw.nil = r := hr
    have hm : r ∈ R := by rw [← hr]; exact getD_mem (by omega)
    have hk : Rok r := hrok r hm
    have hl : r.l.length < 1000000 := hfew r hm
    have hw : rw (R.map fun r => r.l) i = r.l := by rw [rwR, hr]
    rw [hw] at h6
    have h7 : (j : Int) < (r.l.length : Int) := of_decide_eq_true h7
    have hj : j < (rw (R.map fun r => r.l) i).length := by rw [hw]; omega
    have hp : (rw (R.map fun r => r.l) i).getD j pg0 = r.l.getD j pg0 := by rw [hw]
    have hcnt : cntF n (R.map fun r => r.l) i (rw (R.map fun r => r.l) i) = true := by rw [hw]; exact h6.2.2.1
    have hP : cAt ⟨bc, qc, bs, ps, ss, so, sb, sq, sl, sn, sc, bg, qg, R, n, c, bm⟩ i (j + 1) = cAt ⟨bc, qc, bs, ps, ss, so, sb, sq, sl, sn, sc, bg, qg, R, n, c, bm⟩ i j ++ [r.l.getD j pg0] := (pgsAt_yes (f := cntF n (R.map fun r => r.l)) hj hcnt).trans (by rw [hp])
    have hky : kyF ⟨bs, ps, ss⟩ (r.l.getD j pg0) = false := hky
    have hput : AOK ⟨bc, qc, bs, ps, ss, so, sb, sq, sl, sn, sc, bg, qg, R, n, c, bm⟩ ⟨bs, ps, ss⟩ (cAt ⟨bc, qc, bs, ps, ss, so, sb, sq, sl, sn, sc, bg, qg, R, n, c, bm⟩ i (j + 1)) A6 k6 := by
      rw [hP]; exact h6.2.2.2.1.no hky
    have hal : orF vf (r.l.getD j pg0) = false := hal
    have horf : Gth (orfL vf (cAt ⟨bc, qc, bs, ps, ss, so, sb, sq, sl, sn, sc, bg, qg, R, n, c, bm⟩ i (j + 1))) (oo, ob, oq, ol, on, oc) := by
      rw [hP, orfL_no hal]
      exact h6.2.2.2.2
    refine Stands.one (i, j + 1, (a6, A6, k6), (oo, ob, oq, ol, on, oc)) ⟨⟨by show i < n; omega, by show j + 1 ≤ (rw (R.map fun r => r.l) i).length; omega, hcnt, hput, horf⟩, by show (rw (R.map fun r => r.l) i).length - (j + 1) < (rw (R.map fun r => r.l) i).length - j; omega, ?_⟩
    ((conv => (arg 1; reduce)); with_reducible repeat' (first | exact Tr.yes_h | refine Tr.and_h ?_ ?_ | refine Tr.imp_h fun _ => ?_ | refine Tr.all_h fun _ => ?_ | refine Tr.lf_h ?_))
    all_goals (first | first | (show Region.lexB _ _ = true; kernel_rfl) | (show planned _ _ = true; kernel_rfl) | exact rfl | exact True.intro | (first | exact key3 | exact zeroB | exact zeroR | exact zeroS | exact ⟨key3, zeroB⟩ | exact ⟨key3, zeroR⟩ | exact ⟨key3, zeroS⟩) | ((try dsimp only [imp, C0, cG, cInt, cPl, cSlot, cPg, gwCodec] at *); (try refine inR64 ?_ ?_) <;> (try simp only [List.length_set, List.length_append, List.length_take, List.length_drop]) <;> omega))
  · rename_i u0 x2 h2 h3 r hr hcn x6 h6 e6 h7
    obtain ⟨i, ⟨a1, A1, k1⟩, O1⟩ := x2
    obtain ⟨i6, j, ⟨a6, A6, k6⟩, oo, ob, oq, ol, on, oc⟩ := x6
    obtain rfl : i = i6 := Int.ofNat.inj e6
    have h3 : (i : Int) < (n : Int) := of_decide_eq_true h3
    have h6 : i < n ∧ j ≤ (rw (R.map fun r => r.l) i).length ∧ cntF n (R.map fun r => r.l) i (rw (R.map fun r => r.l) i) = true ∧ AOK ⟨bc, qc, bs, ps, ss, so, sb, sq, sl, sn, sc, bg, qg, R, n, c, bm⟩ ⟨bs, ps, ss⟩ (cAt ⟨bc, qc, bs, ps, ss, so, sb, sq, sl, sn, sc, bg, qg, R, n, c, bm⟩ i j) A6 k6 ∧ Gth (orfL vf (cAt ⟨bc, qc, bs, ps, ss, so, sb, sq, sl, sn, sc, bg, qg, R, n, c, bm⟩ i j)) (oo, ob, oq, ol, on, oc) := h6
    change Rw Pg at r
    have hr : R.getD i Rw.nil = r := hr
    have hm : r ∈ R := by rw [← hr]; exact getD_mem (by omega)
    have hk : Rok r := hrok r hm
    have hl : r.l.length < 1000000 := hfew r hm
    have hw : rw (R.map fun r => r.l) i = r.l := by rw [rwR, hr]
    rw [hw] at h6
    have h7 : ¬ (j : Int) < (r.l.length : Int) := of_decide_eq_false h7
    exact inR64 (by show -9223372036854775808 ≤ (i : Int) + 1; omega) (by show (i : Int) + 1 ≤ 9223372036854775807; omega)
  · rename_i u0 x2 h2 h3 r hr hcn x6 h6 e6 h7
    obtain ⟨i, ⟨a1, A1, k1⟩, O1⟩ := x2
    obtain ⟨i6, j, ⟨a6, A6, k6⟩, oo, ob, oq, ol, on, oc⟩ := x6
    obtain rfl : i = i6 := Int.ofNat.inj e6
    have h3 : (i : Int) < (n : Int) := of_decide_eq_true h3
    have h6 : i < n ∧ j ≤ (rw (R.map fun r => r.l) i).length ∧ cntF n (R.map fun r => r.l) i (rw (R.map fun r => r.l) i) = true ∧ AOK ⟨bc, qc, bs, ps, ss, so, sb, sq, sl, sn, sc, bg, qg, R, n, c, bm⟩ ⟨bs, ps, ss⟩ (cAt ⟨bc, qc, bs, ps, ss, so, sb, sq, sl, sn, sc, bg, qg, R, n, c, bm⟩ i j) A6 k6 ∧ Gth (orfL vf (cAt ⟨bc, qc, bs, ps, ss, so, sb, sq, sl, sn, sc, bg, qg, R, n, c, bm⟩ i j)) (oo, ob, oq, ol, on, oc) := h6
    change Rw Pg at r
    have hr : R.getD i Rw.nil = r := hr
    have hm : r ∈ R := by rw [← hr]; exact getD_mem (by omega)
    have hk : Rok r := hrok r hm
    have hl : r.l.length < 1000000 := hfew r hm
    have hw : rw (R.map fun r => r.l) i = r.l := by rw [rwR, hr]
    rw [hw] at h6
    have h7 : ¬ (j : Int) < (r.l.length : Int) := of_decide_eq_false h7
    have hle : (rw (R.map fun r => r.l) i).length ≤ j := by rw [hw]; omega
    have hP : cAt ⟨bc, qc, bs, ps, ss, so, sb, sq, sl, sn, sc, bg, qg, R, n, c, bm⟩ i j = cTo ⟨bc, qc, bs, ps, ss, so, sb, sq, sl, sn, sc, bg, qg, R, n, c, bm⟩ (i + 1) := pgsAt_all hle
    refine Stands.one (i + 1, (a6, A6, k6), (oo, ob, oq, ol, on, oc)) ⟨⟨by show i + 1 ≤ n; omega, by show AOK ⟨bc, qc, bs, ps, ss, so, sb, sq, sl, sn, sc, bg, qg, R, n, c, bm⟩ ⟨bs, ps, ss⟩ (cTo ⟨bc, qc, bs, ps, ss, so, sb, sq, sl, sn, sc, bg, qg, R, n, c, bm⟩ (i + 1)) A6 k6; rw [← hP]; exact h6.2.2.2.1, by show Gth (orfL vf (cTo ⟨bc, qc, bs, ps, ss, so, sb, sq, sl, sn, sc, bg, qg, R, n, c, bm⟩ (i + 1))) _; rw [← hP]; exact h6.2.2.2.2⟩, by show n - (i + 1) < n - i; omega, ?_⟩
    ((conv => (arg 1; reduce)); with_reducible repeat' (first | exact Tr.yes_h | refine Tr.and_h ?_ ?_ | refine Tr.imp_h fun _ => ?_ | refine Tr.all_h fun _ => ?_ | refine Tr.lf_h ?_))
    all_goals (first | first | (show Region.lexB _ _ = true; kernel_rfl) | (show planned _ _ = true; kernel_rfl) | exact rfl | exact True.intro | (first | exact key3 | exact zeroB | exact zeroR | exact zeroS | exact ⟨key3, zeroB⟩ | exact ⟨key3, zeroR⟩ | exact ⟨key3, zeroS⟩) | ((try dsimp only [imp, C0, cG, cInt, cPl, cSlot, cPg, gwCodec] at *); (try refine inR64 ?_ ?_) <;> (try simp only [List.length_set, List.length_append, List.length_take, List.length_drop]) <;> omega))
  · rename_i u0 x2 h2 h3 u1 u2
    obtain ⟨i, ⟨a1, A1, k1⟩, O1⟩ := x2
    have h2 : i ≤ n ∧ AOK ⟨bc, qc, bs, ps, ss, so, sb, sq, sl, sn, sc, bg, qg, R, n, c, bm⟩ ⟨bs, ps, ss⟩ (cTo ⟨bc, qc, bs, ps, ss, so, sb, sq, sl, sn, sc, bg, qg, R, n, c, bm⟩ i) A1 k1 ∧ Gth (orfL vf (cTo ⟨bc, qc, bs, ps, ss, so, sb, sq, sl, sn, sc, bg, qg, R, n, c, bm⟩ i)) O1 := h2
    refine ⟨h2.2.1.keys.self, ?_⟩
    show A1.length < 1000000000
    have h8 := h2.2.1.keys.len
    have h9 := keyD_len (g := ⟨bs, ps, ss⟩) (P := cTo ⟨bc, qc, bs, ps, ss, so, sb, sq, sl, sn, sc, bg, qg, R, n, c, bm⟩ i)
    have hPl := pgsTo_len (f := cntF n (R.map fun r => r.l)) (rows_len hfew) i
    have h10 : A1.length ≤ i * 1000000 := Nat.le_trans h8 (Nat.le_trans h9 hPl)
    omega
  · rename_i u0 x2 h2 h3 u1 u2 y hy
    obtain ⟨i, ⟨a1, A1, k1⟩, O1⟩ := x2
    have h2 : i ≤ n ∧ AOK ⟨bc, qc, bs, ps, ss, so, sb, sq, sl, sn, sc, bg, qg, R, n, c, bm⟩ ⟨bs, ps, ss⟩ (cTo ⟨bc, qc, bs, ps, ss, so, sb, sq, sl, sn, sc, bg, qg, R, n, c, bm⟩ i) A1 k1 ∧ Gth (orfL vf (cTo ⟨bc, qc, bs, ps, ss, so, sb, sq, sl, sn, sc, bg, qg, R, n, c, bm⟩ i)) O1 := h2
    refine Stands.one (0, (false, 0, 0, [], 0, 0)) ⟨⟨Nat.zero_le _, by show Gth (sloL ⟨bs, ps, ss⟩ vf (cTo ⟨bc, qc, bs, ps, ss, so, sb, sq, sl, sn, sc, bg, qg, R, n, c, bm⟩ n) (List.take 0 _)) _; rw [sloL_zero]; exact Gth.nil⟩, ?_⟩
    ((conv => (arg 1; reduce)); with_reducible repeat' (first | exact Tr.yes_h | refine Tr.and_h ?_ ?_ | refine Tr.imp_h fun _ => ?_ | refine Tr.all_h fun _ => ?_ | refine Tr.lf_h ?_))
    all_goals (first | first | (show Region.lexB _ _ = true; kernel_rfl) | (show planned _ _ = true; kernel_rfl) | exact rfl | exact True.intro | (first | exact key3 | exact zeroB | exact zeroR | exact zeroS | exact ⟨key3, zeroB⟩ | exact ⟨key3, zeroR⟩ | exact ⟨key3, zeroS⟩) | ((try dsimp only [imp, C0, cG, cInt, cPl, cSlot, cPg, gwCodec] at *); (try refine inR64 ?_ ?_) <;> (try simp only [List.length_set, List.length_append, List.length_take, List.length_drop]) <;> omega))
  · rename_i u0 x2 h2 h3 u1 u2 y hy x6 h6 h7
    obtain ⟨i, ⟨a1, A1, k1⟩, O1⟩ := x2
    have h2 : i ≤ n ∧ AOK ⟨bc, qc, bs, ps, ss, so, sb, sq, sl, sn, sc, bg, qg, R, n, c, bm⟩ ⟨bs, ps, ss⟩ (cTo ⟨bc, qc, bs, ps, ss, so, sb, sq, sl, sn, sc, bg, qg, R, n, c, bm⟩ i) A1 k1 ∧ Gth (orfL vf (cTo ⟨bc, qc, bs, ps, ss, so, sb, sq, sl, sn, sc, bg, qg, R, n, c, bm⟩ i)) O1 := h2
    have h3 : ¬ (i : Int) < (n : Int) := of_decide_eq_false h3
    have ei : i = n := by omega
    rw [ei] at h2
    have hG := sd_keys hgeo h2.2.1 hy
    obtain ⟨yo, yb, yq, yl, yn, yc⟩ := y
    have hR := hG.room
    obtain ⟨j, wo, wb, wq, wl, wn, wc⟩ := x6
    have h6 : j ≤ (keyL ⟨bs, ps, ss⟩ (cTo ⟨bc, qc, bs, ps, ss, so, sb, sq, sl, sn, sc, bg, qg, R, n, c, bm⟩ n)).length ∧ Gth (sloL ⟨bs, ps, ss⟩ vf (cTo ⟨bc, qc, bs, ps, ss, so, sb, sq, sl, sn, sc, bg, qg, R, n, c, bm⟩ n) ((keyL ⟨bs, ps, ss⟩ (cTo ⟨bc, qc, bs, ps, ss, so, sb, sq, sl, sn, sc, bg, qg, R, n, c, bm⟩ n)).take j)) (wo, wb, wq, wl, wn, wc) := h6
    have h7 : (j : Int) < (yn : Int) := of_decide_eq_true h7
    exact on_of hR.2.2.2 (by omega)
  · rename_i u0 x2 h2 h3 u1 u2 y hy x6 h6 h7
    obtain ⟨i, ⟨a1, A1, k1⟩, O1⟩ := x2
    have h2 : i ≤ n ∧ AOK ⟨bc, qc, bs, ps, ss, so, sb, sq, sl, sn, sc, bg, qg, R, n, c, bm⟩ ⟨bs, ps, ss⟩ (cTo ⟨bc, qc, bs, ps, ss, so, sb, sq, sl, sn, sc, bg, qg, R, n, c, bm⟩ i) A1 k1 ∧ Gth (orfL vf (cTo ⟨bc, qc, bs, ps, ss, so, sb, sq, sl, sn, sc, bg, qg, R, n, c, bm⟩ i)) O1 := h2
    have h3 : ¬ (i : Int) < (n : Int) := of_decide_eq_false h3
    have ei : i = n := by omega
    rw [ei] at h2
    have hG := sd_keys hgeo h2.2.1 hy
    obtain ⟨yo, yb, yq, yl, yn, yc⟩ := y
    have hR := hG.room
    obtain ⟨j, wo, wb, wq, wl, wn, wc⟩ := x6
    have h6 : j ≤ (keyL ⟨bs, ps, ss⟩ (cTo ⟨bc, qc, bs, ps, ss, so, sb, sq, sl, sn, sc, bg, qg, R, n, c, bm⟩ n)).length ∧ Gth (sloL ⟨bs, ps, ss⟩ vf (cTo ⟨bc, qc, bs, ps, ss, so, sb, sq, sl, sn, sc, bg, qg, R, n, c, bm⟩ n) ((keyL ⟨bs, ps, ss⟩ (cTo ⟨bc, qc, bs, ps, ss, so, sb, sq, sl, sn, sc, bg, qg, R, n, c, bm⟩ n)).take j)) (wo, wb, wq, wl, wn, wc) := h6
    have h7 : (j : Int) < (yn : Int) := of_decide_eq_true h7
    exact h7
  · rename_i u0 x2 h2 h3 u1 u2 y hy x6 h6 h7
    obtain ⟨i, ⟨a1, A1, k1⟩, O1⟩ := x2
    have h2 : i ≤ n ∧ AOK ⟨bc, qc, bs, ps, ss, so, sb, sq, sl, sn, sc, bg, qg, R, n, c, bm⟩ ⟨bs, ps, ss⟩ (cTo ⟨bc, qc, bs, ps, ss, so, sb, sq, sl, sn, sc, bg, qg, R, n, c, bm⟩ i) A1 k1 ∧ Gth (orfL vf (cTo ⟨bc, qc, bs, ps, ss, so, sb, sq, sl, sn, sc, bg, qg, R, n, c, bm⟩ i)) O1 := h2
    have h3 : ¬ (i : Int) < (n : Int) := of_decide_eq_false h3
    have ei : i = n := by omega
    rw [ei] at h2
    have hG := sd_keys hgeo h2.2.1 hy
    obtain ⟨yo, yb, yq, yl, yn, yc⟩ := y
    have hR := hG.room
    obtain ⟨j, wo, wb, wq, wl, wn, wc⟩ := x6
    have h6 : j ≤ (keyL ⟨bs, ps, ss⟩ (cTo ⟨bc, qc, bs, ps, ss, so, sb, sq, sl, sn, sc, bg, qg, R, n, c, bm⟩ n)).length ∧ Gth (sloL ⟨bs, ps, ss⟩ vf (cTo ⟨bc, qc, bs, ps, ss, so, sb, sq, sl, sn, sc, bg, qg, R, n, c, bm⟩ n) ((keyL ⟨bs, ps, ss⟩ (cTo ⟨bc, qc, bs, ps, ss, so, sb, sq, sl, sn, sc, bg, qg, R, n, c, bm⟩ n)).take j)) (wo, wb, wq, wl, wn, wc) := h6
    have h7 : (j : Int) < (yn : Int) := of_decide_eq_true h7
    exact on_of hR.2.2.2 (by omega)
  · rename_i u0 x2 h2 h3 u1 u2 y hy x6 h6 h7
    obtain ⟨i, ⟨a1, A1, k1⟩, O1⟩ := x2
    have h2 : i ≤ n ∧ AOK ⟨bc, qc, bs, ps, ss, so, sb, sq, sl, sn, sc, bg, qg, R, n, c, bm⟩ ⟨bs, ps, ss⟩ (cTo ⟨bc, qc, bs, ps, ss, so, sb, sq, sl, sn, sc, bg, qg, R, n, c, bm⟩ i) A1 k1 ∧ Gth (orfL vf (cTo ⟨bc, qc, bs, ps, ss, so, sb, sq, sl, sn, sc, bg, qg, R, n, c, bm⟩ i)) O1 := h2
    have h3 : ¬ (i : Int) < (n : Int) := of_decide_eq_false h3
    have ei : i = n := by omega
    rw [ei] at h2
    have hG := sd_keys hgeo h2.2.1 hy
    obtain ⟨yo, yb, yq, yl, yn, yc⟩ := y
    have hR := hG.room
    obtain ⟨j, wo, wb, wq, wl, wn, wc⟩ := x6
    have h6 : j ≤ (keyL ⟨bs, ps, ss⟩ (cTo ⟨bc, qc, bs, ps, ss, so, sb, sq, sl, sn, sc, bg, qg, R, n, c, bm⟩ n)).length ∧ Gth (sloL ⟨bs, ps, ss⟩ vf (cTo ⟨bc, qc, bs, ps, ss, so, sb, sq, sl, sn, sc, bg, qg, R, n, c, bm⟩ n) ((keyL ⟨bs, ps, ss⟩ (cTo ⟨bc, qc, bs, ps, ss, so, sb, sq, sl, sn, sc, bg, qg, R, n, c, bm⟩ n)).take j)) (wo, wb, wq, wl, wn, wc) := h6
    have h7 : (j : Int) < (yn : Int) := of_decide_eq_true h7
    show j < yl.length
    omega
  · rename_i u0 x2 h2 h3 u1 u2 y hy x6 h6 h7 rA hrA
    obtain ⟨i, ⟨a1, A1, k1⟩, O1⟩ := x2
    have h2 : i ≤ n ∧ AOK ⟨bc, qc, bs, ps, ss, so, sb, sq, sl, sn, sc, bg, qg, R, n, c, bm⟩ ⟨bs, ps, ss⟩ (cTo ⟨bc, qc, bs, ps, ss, so, sb, sq, sl, sn, sc, bg, qg, R, n, c, bm⟩ i) A1 k1 ∧ Gth (orfL vf (cTo ⟨bc, qc, bs, ps, ss, so, sb, sq, sl, sn, sc, bg, qg, R, n, c, bm⟩ i)) O1 := h2
    have h3 : ¬ (i : Int) < (n : Int) := of_decide_eq_false h3
    have ei : i = n := by omega
    rw [ei] at h2
    have hG := sd_keys hgeo h2.2.1 hy
    obtain ⟨yo, yb, yq, yl, yn, yc⟩ := y
    have hR := hG.room
    obtain ⟨j, wo, wb, wq, wl, wn, wc⟩ := x6
    have h6 : j ≤ (keyL ⟨bs, ps, ss⟩ (cTo ⟨bc, qc, bs, ps, ss, so, sb, sq, sl, sn, sc, bg, qg, R, n, c, bm⟩ n)).length ∧ Gth (sloL ⟨bs, ps, ss⟩ vf (cTo ⟨bc, qc, bs, ps, ss, so, sb, sq, sl, sn, sc, bg, qg, R, n, c, bm⟩ n) ((keyL ⟨bs, ps, ss⟩ (cTo ⟨bc, qc, bs, ps, ss, so, sb, sq, sl, sn, sc, bg, qg, R, n, c, bm⟩ n)).take j)) (wo, wb, wq, wl, wn, wc) := h6
    have h7 : (j : Int) < (yn : Int) := of_decide_eq_true h7
    change Rw Pg at rA
    have hrA : mgetG A1 (yl.getD j 0) = rA := hrA
    rw [hG.at (d := 0) (by omega)] at hrA
    have hg := h2.2.1.rowl ((keyL ⟨bs, ps, ss⟩ (cTo ⟨bc, qc, bs, ps, ss, so, sb, sq, sl, sn, sc, bg, qg, R, n, c, bm⟩ n)).getD j 0)
    rw [hrA] at hg
    have hgl := grpL_len (g := ⟨bs, ps, ss⟩) (P := cTo ⟨bc, qc, bs, ps, ss, so, sb, sq, sl, sn, sc, bg, qg, R, n, c, bm⟩ n) (k := (keyL ⟨bs, ps, ss⟩ (cTo ⟨bc, qc, bs, ps, ss, so, sb, sq, sl, sn, sc, bg, qg, R, n, c, bm⟩ n)).getD j 0)
    have hPl := pgsTo_len (f := cntF n (R.map fun r => r.l)) (rows_len hfew) n
    have hgl : rA.l.length ≤ n * 1000000 := by rw [hg.1]; exact Nat.le_trans hgl hPl
    have htk : rA.l.take rA.l.length = grpL ⟨bs, ps, ss⟩ (cTo ⟨bc, qc, bs, ps, ss, so, sb, sq, sl, sn, sc, bg, qg, R, n, c, bm⟩ n) ((keyL ⟨bs, ps, ss⟩ (cTo ⟨bc, qc, bs, ps, ss, so, sb, sq, sl, sn, sc, bg, qg, R, n, c, bm⟩ n)).getD j 0) := by rw [List.take_of_length_le (Nat.le_refl _), hg.1]
    have hjk : j < (keyL ⟨bs, ps, ss⟩ (cTo ⟨bc, qc, bs, ps, ss, so, sb, sq, sl, sn, sc, bg, qg, R, n, c, bm⟩ n)).length := by omega
    exact ⟨Nat.le_refl _, hg.2.1, by show rA.l.length < 1000000000; omega⟩
  · rename_i u0 x2 h2 h3 u1 u2 y hy x6 h6 h7 rA hrA u7 hwn u8
    obtain ⟨i, ⟨a1, A1, k1⟩, O1⟩ := x2
    have h2 : i ≤ n ∧ AOK ⟨bc, qc, bs, ps, ss, so, sb, sq, sl, sn, sc, bg, qg, R, n, c, bm⟩ ⟨bs, ps, ss⟩ (cTo ⟨bc, qc, bs, ps, ss, so, sb, sq, sl, sn, sc, bg, qg, R, n, c, bm⟩ i) A1 k1 ∧ Gth (orfL vf (cTo ⟨bc, qc, bs, ps, ss, so, sb, sq, sl, sn, sc, bg, qg, R, n, c, bm⟩ i)) O1 := h2
    have h3 : ¬ (i : Int) < (n : Int) := of_decide_eq_false h3
    have ei : i = n := by omega
    rw [ei] at h2
    have hG := sd_keys hgeo h2.2.1 hy
    obtain ⟨yo, yb, yq, yl, yn, yc⟩ := y
    have hR := hG.room
    obtain ⟨j, wo, wb, wq, wl, wn, wc⟩ := x6
    have h6 : j ≤ (keyL ⟨bs, ps, ss⟩ (cTo ⟨bc, qc, bs, ps, ss, so, sb, sq, sl, sn, sc, bg, qg, R, n, c, bm⟩ n)).length ∧ Gth (sloL ⟨bs, ps, ss⟩ vf (cTo ⟨bc, qc, bs, ps, ss, so, sb, sq, sl, sn, sc, bg, qg, R, n, c, bm⟩ n) ((keyL ⟨bs, ps, ss⟩ (cTo ⟨bc, qc, bs, ps, ss, so, sb, sq, sl, sn, sc, bg, qg, R, n, c, bm⟩ n)).take j)) (wo, wb, wq, wl, wn, wc) := h6
    have h7 : (j : Int) < (yn : Int) := of_decide_eq_true h7
    change Rw Pg at rA
    have hrA : mgetG A1 (yl.getD j 0) = rA := hrA
    rw [hG.at (d := 0) (by omega)] at hrA
    have hg := h2.2.1.rowl ((keyL ⟨bs, ps, ss⟩ (cTo ⟨bc, qc, bs, ps, ss, so, sb, sq, sl, sn, sc, bg, qg, R, n, c, bm⟩ n)).getD j 0)
    rw [hrA] at hg
    have hgl := grpL_len (g := ⟨bs, ps, ss⟩) (P := cTo ⟨bc, qc, bs, ps, ss, so, sb, sq, sl, sn, sc, bg, qg, R, n, c, bm⟩ n) (k := (keyL ⟨bs, ps, ss⟩ (cTo ⟨bc, qc, bs, ps, ss, so, sb, sq, sl, sn, sc, bg, qg, R, n, c, bm⟩ n)).getD j 0)
    have hPl := pgsTo_len (f := cntF n (R.map fun r => r.l)) (rows_len hfew) n
    have hgl : rA.l.length ≤ n * 1000000 := by rw [hg.1]; exact Nat.le_trans hgl hPl
    have htk : rA.l.take rA.l.length = grpL ⟨bs, ps, ss⟩ (cTo ⟨bc, qc, bs, ps, ss, so, sb, sq, sl, sn, sc, bg, qg, R, n, c, bm⟩ n) ((keyL ⟨bs, ps, ss⟩ (cTo ⟨bc, qc, bs, ps, ss, so, sb, sq, sl, sn, sc, bg, qg, R, n, c, bm⟩ n)).getD j 0) := by rw [List.take_of_length_le (Nat.le_refl _), hg.1]
    have hjk : j < (keyL ⟨bs, ps, ss⟩ (cTo ⟨bc, qc, bs, ps, ss, so, sb, sq, sl, sn, sc, bg, qg, R, n, c, bm⟩ n)).length := by omega
    have hW := h6.2.room
    have hwl := Nat.le_trans (sloL_len (g := ⟨bs, ps, ss⟩) (f := vf) (P := cTo ⟨bc, qc, bs, ps, ss, so, sb, sq, sl, sn, sc, bg, qg, R, n, c, bm⟩ n) (K := (keyL ⟨bs, ps, ss⟩ (cTo ⟨bc, qc, bs, ps, ss, so, sb, sq, sl, sn, sc, bg, qg, R, n, c, bm⟩ n)).take j)) (List.length_take_le' _ _)
    have hkl := keyL_len (P := cTo ⟨bc, qc, bs, ps, ss, so, sb, sq, sl, sn, sc, bg, qg, R, n, c, bm⟩ n) hgeo
    have hwn' : wn ≤ 536871100 := by rw [hW.2.2.1]; exact Nat.le_trans hwl hkl
    rw [bySl]
    exact ⟨hW.1, by show 0 + wc ≤ wl.length; omega, by simp, by show (wn + 1) * 72 ≤ _; omega⟩
  · rename_i u0 x2 h2 h3 u1 u2 y hy x6 h6 h7 rA hrA u7 hwn u8
    obtain ⟨i, ⟨a1, A1, k1⟩, O1⟩ := x2
    have h2 : i ≤ n ∧ AOK ⟨bc, qc, bs, ps, ss, so, sb, sq, sl, sn, sc, bg, qg, R, n, c, bm⟩ ⟨bs, ps, ss⟩ (cTo ⟨bc, qc, bs, ps, ss, so, sb, sq, sl, sn, sc, bg, qg, R, n, c, bm⟩ i) A1 k1 ∧ Gth (orfL vf (cTo ⟨bc, qc, bs, ps, ss, so, sb, sq, sl, sn, sc, bg, qg, R, n, c, bm⟩ i)) O1 := h2
    have h3 : ¬ (i : Int) < (n : Int) := of_decide_eq_false h3
    have ei : i = n := by omega
    rw [ei] at h2
    have hG := sd_keys hgeo h2.2.1 hy
    obtain ⟨yo, yb, yq, yl, yn, yc⟩ := y
    have hR := hG.room
    obtain ⟨j, wo, wb, wq, wl, wn, wc⟩ := x6
    have h6 : j ≤ (keyL ⟨bs, ps, ss⟩ (cTo ⟨bc, qc, bs, ps, ss, so, sb, sq, sl, sn, sc, bg, qg, R, n, c, bm⟩ n)).length ∧ Gth (sloL ⟨bs, ps, ss⟩ vf (cTo ⟨bc, qc, bs, ps, ss, so, sb, sq, sl, sn, sc, bg, qg, R, n, c, bm⟩ n) ((keyL ⟨bs, ps, ss⟩ (cTo ⟨bc, qc, bs, ps, ss, so, sb, sq, sl, sn, sc, bg, qg, R, n, c, bm⟩ n)).take j)) (wo, wb, wq, wl, wn, wc) := h6
    have h7 : (j : Int) < (yn : Int) := of_decide_eq_true h7
    change Rw Pg at rA
    have hrA : mgetG A1 (yl.getD j 0) = rA := hrA
    rw [hG.at (d := 0) (by omega)] at hrA
    have hg := h2.2.1.rowl ((keyL ⟨bs, ps, ss⟩ (cTo ⟨bc, qc, bs, ps, ss, so, sb, sq, sl, sn, sc, bg, qg, R, n, c, bm⟩ n)).getD j 0)
    rw [hrA] at hg
    have hgl := grpL_len (g := ⟨bs, ps, ss⟩) (P := cTo ⟨bc, qc, bs, ps, ss, so, sb, sq, sl, sn, sc, bg, qg, R, n, c, bm⟩ n) (k := (keyL ⟨bs, ps, ss⟩ (cTo ⟨bc, qc, bs, ps, ss, so, sb, sq, sl, sn, sc, bg, qg, R, n, c, bm⟩ n)).getD j 0)
    have hPl := pgsTo_len (f := cntF n (R.map fun r => r.l)) (rows_len hfew) n
    have hgl : rA.l.length ≤ n * 1000000 := by rw [hg.1]; exact Nat.le_trans hgl hPl
    have htk : rA.l.take rA.l.length = grpL ⟨bs, ps, ss⟩ (cTo ⟨bc, qc, bs, ps, ss, so, sb, sq, sl, sn, sc, bg, qg, R, n, c, bm⟩ n) ((keyL ⟨bs, ps, ss⟩ (cTo ⟨bc, qc, bs, ps, ss, so, sb, sq, sl, sn, sc, bg, qg, R, n, c, bm⟩ n)).getD j 0) := by rw [List.take_of_length_le (Nat.le_refl _), hg.1]
    have hjk : j < (keyL ⟨bs, ps, ss⟩ (cTo ⟨bc, qc, bs, ps, ss, so, sb, sq, sl, sn, sc, bg, qg, R, n, c, bm⟩ n)).length := by omega
    exact h6.2.room.2.2.2
  · rename_i u0 x2 h2 h3 u1 u2 y hy x6 h6 h7 rA hrA u7 hwn u8 b9 q9 sp cp hc1 hc2
    obtain ⟨i, ⟨a1, A1, k1⟩, O1⟩ := x2
    have h2 : i ≤ n ∧ AOK ⟨bc, qc, bs, ps, ss, so, sb, sq, sl, sn, sc, bg, qg, R, n, c, bm⟩ ⟨bs, ps, ss⟩ (cTo ⟨bc, qc, bs, ps, ss, so, sb, sq, sl, sn, sc, bg, qg, R, n, c, bm⟩ i) A1 k1 ∧ Gth (orfL vf (cTo ⟨bc, qc, bs, ps, ss, so, sb, sq, sl, sn, sc, bg, qg, R, n, c, bm⟩ i)) O1 := h2
    have h3 : ¬ (i : Int) < (n : Int) := of_decide_eq_false h3
    have ei : i = n := by omega
    rw [ei] at h2
    have hG := sd_keys hgeo h2.2.1 hy
    obtain ⟨yo, yb, yq, yl, yn, yc⟩ := y
    have hR := hG.room
    obtain ⟨j, wo, wb, wq, wl, wn, wc⟩ := x6
    have h6 : j ≤ (keyL ⟨bs, ps, ss⟩ (cTo ⟨bc, qc, bs, ps, ss, so, sb, sq, sl, sn, sc, bg, qg, R, n, c, bm⟩ n)).length ∧ Gth (sloL ⟨bs, ps, ss⟩ vf (cTo ⟨bc, qc, bs, ps, ss, so, sb, sq, sl, sn, sc, bg, qg, R, n, c, bm⟩ n) ((keyL ⟨bs, ps, ss⟩ (cTo ⟨bc, qc, bs, ps, ss, so, sb, sq, sl, sn, sc, bg, qg, R, n, c, bm⟩ n)).take j)) (wo, wb, wq, wl, wn, wc) := h6
    have h7 : (j : Int) < (yn : Int) := of_decide_eq_true h7
    change Rw Pg at rA
    have hrA : mgetG A1 (yl.getD j 0) = rA := hrA
    rw [hG.at (d := 0) (by omega)] at hrA
    have hg := h2.2.1.rowl ((keyL ⟨bs, ps, ss⟩ (cTo ⟨bc, qc, bs, ps, ss, so, sb, sq, sl, sn, sc, bg, qg, R, n, c, bm⟩ n)).getD j 0)
    rw [hrA] at hg
    have hgl := grpL_len (g := ⟨bs, ps, ss⟩) (P := cTo ⟨bc, qc, bs, ps, ss, so, sb, sq, sl, sn, sc, bg, qg, R, n, c, bm⟩ n) (k := (keyL ⟨bs, ps, ss⟩ (cTo ⟨bc, qc, bs, ps, ss, so, sb, sq, sl, sn, sc, bg, qg, R, n, c, bm⟩ n)).getD j 0)
    have hPl := pgsTo_len (f := cntF n (R.map fun r => r.l)) (rows_len hfew) n
    have hgl : rA.l.length ≤ n * 1000000 := by rw [hg.1]; exact Nat.le_trans hgl hPl
    have htk : rA.l.take rA.l.length = grpL ⟨bs, ps, ss⟩ (cTo ⟨bc, qc, bs, ps, ss, so, sb, sq, sl, sn, sc, bg, qg, R, n, c, bm⟩ n) ((keyL ⟨bs, ps, ss⟩ (cTo ⟨bc, qc, bs, ps, ss, so, sb, sq, sl, sn, sc, bg, qg, R, n, c, bm⟩ n)).getD j 0) := by rw [List.take_of_length_le (Nat.le_refl _), hg.1]
    have hjk : j < (keyL ⟨bs, ps, ss⟩ (cTo ⟨bc, qc, bs, ps, ss, so, sb, sq, sl, sn, sc, bg, qg, R, n, c, bm⟩ n)).length := by omega
    have hkl := keyL_len (P := cTo ⟨bc, qc, bs, ps, ss, so, sb, sq, sl, sn, sc, bg, qg, R, n, c, bm⟩ n) hgeo
    have hj9 : j < 536871100 := Nat.lt_of_lt_of_le hjk hkl
    exact inR64 (by show -9223372036854775808 ≤ (j : Int) + 1; omega) (by show (j : Int) + 1 ≤ 9223372036854775807; omega)
  · rename_i u0 x2 h2 h3 u1 u2 y hy x6 h6 h7 rA hrA u7 hwn u8 b9 q9 sp cp hc1 hc2
    obtain ⟨i, ⟨a1, A1, k1⟩, O1⟩ := x2
    have h2 : i ≤ n ∧ AOK ⟨bc, qc, bs, ps, ss, so, sb, sq, sl, sn, sc, bg, qg, R, n, c, bm⟩ ⟨bs, ps, ss⟩ (cTo ⟨bc, qc, bs, ps, ss, so, sb, sq, sl, sn, sc, bg, qg, R, n, c, bm⟩ i) A1 k1 ∧ Gth (orfL vf (cTo ⟨bc, qc, bs, ps, ss, so, sb, sq, sl, sn, sc, bg, qg, R, n, c, bm⟩ i)) O1 := h2
    have h3 : ¬ (i : Int) < (n : Int) := of_decide_eq_false h3
    have ei : i = n := by omega
    rw [ei] at h2
    have hG := sd_keys hgeo h2.2.1 hy
    obtain ⟨yo, yb, yq, yl, yn, yc⟩ := y
    have hR := hG.room
    obtain ⟨j, wo, wb, wq, wl, wn, wc⟩ := x6
    have h6 : j ≤ (keyL ⟨bs, ps, ss⟩ (cTo ⟨bc, qc, bs, ps, ss, so, sb, sq, sl, sn, sc, bg, qg, R, n, c, bm⟩ n)).length ∧ Gth (sloL ⟨bs, ps, ss⟩ vf (cTo ⟨bc, qc, bs, ps, ss, so, sb, sq, sl, sn, sc, bg, qg, R, n, c, bm⟩ n) ((keyL ⟨bs, ps, ss⟩ (cTo ⟨bc, qc, bs, ps, ss, so, sb, sq, sl, sn, sc, bg, qg, R, n, c, bm⟩ n)).take j)) (wo, wb, wq, wl, wn, wc) := h6
    have h7 : (j : Int) < (yn : Int) := of_decide_eq_true h7
    change Rw Pg at rA
    have hrA : mgetG A1 (yl.getD j 0) = rA := hrA
    rw [hG.at (d := 0) (by omega)] at hrA
    have hg := h2.2.1.rowl ((keyL ⟨bs, ps, ss⟩ (cTo ⟨bc, qc, bs, ps, ss, so, sb, sq, sl, sn, sc, bg, qg, R, n, c, bm⟩ n)).getD j 0)
    rw [hrA] at hg
    have hgl := grpL_len (g := ⟨bs, ps, ss⟩) (P := cTo ⟨bc, qc, bs, ps, ss, so, sb, sq, sl, sn, sc, bg, qg, R, n, c, bm⟩ n) (k := (keyL ⟨bs, ps, ss⟩ (cTo ⟨bc, qc, bs, ps, ss, so, sb, sq, sl, sn, sc, bg, qg, R, n, c, bm⟩ n)).getD j 0)
    have hPl := pgsTo_len (f := cntF n (R.map fun r => r.l)) (rows_len hfew) n
    have hgl : rA.l.length ≤ n * 1000000 := by rw [hg.1]; exact Nat.le_trans hgl hPl
    have htk : rA.l.take rA.l.length = grpL ⟨bs, ps, ss⟩ (cTo ⟨bc, qc, bs, ps, ss, so, sb, sq, sl, sn, sc, bg, qg, R, n, c, bm⟩ n) ((keyL ⟨bs, ps, ss⟩ (cTo ⟨bc, qc, bs, ps, ss, so, sb, sq, sl, sn, sc, bg, qg, R, n, c, bm⟩ n)).getD j 0) := by rw [List.take_of_length_le (Nat.le_refl _), hg.1]
    have hjk : j < (keyL ⟨bs, ps, ss⟩ (cTo ⟨bc, qc, bs, ps, ss, so, sb, sq, sl, sn, sc, bg, qg, R, n, c, bm⟩ n)).length := by omega
    have hwn : winB vf (rA.l.take rA.l.length) = true := hwn
    rw [htk] at hwn
    refine Stands.one (j + 1, true, b9, q9, wl.take wn ++ [sloOf ⟨bs, ps, ss⟩ vf (cTo ⟨bc, qc, bs, ps, ss, so, sb, sq, sl, sn, sc, bg, qg, R, n, c, bm⟩ n) ((keyL ⟨bs, ps, ss⟩ (cTo ⟨bc, qc, bs, ps, ss, so, sb, sq, sl, sn, sc, bg, qg, R, n, c, bm⟩ n)).getD j 0)] ++ sp, wn + 1, cp) ⟨⟨by show j + 1 ≤ (keyL ⟨bs, ps, ss⟩ (cTo ⟨bc, qc, bs, ps, ss, so, sb, sq, sl, sn, sc, bg, qg, R, n, c, bm⟩ n)).length; omega, ?_⟩, by show (keyL ⟨bs, ps, ss⟩ (cTo ⟨bc, qc, bs, ps, ss, so, sb, sq, sl, sn, sc, bg, qg, R, n, c, bm⟩ n)).length - (j + 1) < (keyL ⟨bs, ps, ss⟩ (cTo ⟨bc, qc, bs, ps, ss, so, sb, sq, sl, sn, sc, bg, qg, R, n, c, bm⟩ n)).length - j; omega, ?_⟩
    · show Gth (sloL ⟨bs, ps, ss⟩ vf (cTo ⟨bc, qc, bs, ps, ss, so, sb, sq, sl, sn, sc, bg, qg, R, n, c, bm⟩ n) ((keyL ⟨bs, ps, ss⟩ (cTo ⟨bc, qc, bs, ps, ss, so, sb, sq, sl, sn, sc, bg, qg, R, n, c, bm⟩ n)).take (j + 1))) _
      rw [sloL_yes hjk hwn]
      exact h6.2.snoc hc1 hc2
    have eK : (yl.getD j 0 : Int) = (keyL ⟨bs, ps, ss⟩ (cTo ⟨bc, qc, bs, ps, ss, so, sb, sq, sl, sn, sc, bg, qg, R, n, c, bm⟩ n)).getD j 0 := hG.at (by omega)
    have eS : sloOf ⟨bs, ps, ss⟩ vf (cTo ⟨bc, qc, bs, ps, ss, so, sb, sq, sl, sn, sc, bg, qg, R, n, c, bm⟩ n) ((keyL ⟨bs, ps, ss⟩ (cTo ⟨bc, qc, bs, ps, ss, so, sb, sq, sl, sn, sc, bg, qg, R, n, c, bm⟩ n)).getD j 0) = ⟨yl.getD j 0, (winP vf (rA.l.take rA.l.length)).pl, (winP vf (rA.l.take rA.l.length)).me⟩ := by rw [htk, eK]; rfl
    rw [eS]
    ((conv => (arg 1; reduce)); with_reducible repeat' (first | exact Tr.yes_h | refine Tr.and_h ?_ ?_ | refine Tr.imp_h fun _ => ?_ | refine Tr.all_h fun _ => ?_ | refine Tr.lf_h ?_))
    all_goals (first | first | (show Region.lexB _ _ = true; kernel_rfl) | (show planned _ _ = true; kernel_rfl) | exact rfl | exact True.intro | (first | exact key3 | exact zeroB | exact zeroR | exact zeroS | exact ⟨key3, zeroB⟩ | exact ⟨key3, zeroR⟩ | exact ⟨key3, zeroS⟩) | ((try dsimp only [imp, C0, cG, cInt, cPl, cSlot, cPg, gwCodec] at *); (try refine inR64 ?_ ?_) <;> (try simp only [List.length_set, List.length_append, List.length_take, List.length_drop]) <;> omega))
  · rename_i u0 x2 h2 h3 u1 u2 y hy x6 h6 h7 rA hrA u7 hwn
    obtain ⟨i, ⟨a1, A1, k1⟩, O1⟩ := x2
    have h2 : i ≤ n ∧ AOK ⟨bc, qc, bs, ps, ss, so, sb, sq, sl, sn, sc, bg, qg, R, n, c, bm⟩ ⟨bs, ps, ss⟩ (cTo ⟨bc, qc, bs, ps, ss, so, sb, sq, sl, sn, sc, bg, qg, R, n, c, bm⟩ i) A1 k1 ∧ Gth (orfL vf (cTo ⟨bc, qc, bs, ps, ss, so, sb, sq, sl, sn, sc, bg, qg, R, n, c, bm⟩ i)) O1 := h2
    have h3 : ¬ (i : Int) < (n : Int) := of_decide_eq_false h3
    have ei : i = n := by omega
    rw [ei] at h2
    have hG := sd_keys hgeo h2.2.1 hy
    obtain ⟨yo, yb, yq, yl, yn, yc⟩ := y
    have hR := hG.room
    obtain ⟨j, wo, wb, wq, wl, wn, wc⟩ := x6
    have h6 : j ≤ (keyL ⟨bs, ps, ss⟩ (cTo ⟨bc, qc, bs, ps, ss, so, sb, sq, sl, sn, sc, bg, qg, R, n, c, bm⟩ n)).length ∧ Gth (sloL ⟨bs, ps, ss⟩ vf (cTo ⟨bc, qc, bs, ps, ss, so, sb, sq, sl, sn, sc, bg, qg, R, n, c, bm⟩ n) ((keyL ⟨bs, ps, ss⟩ (cTo ⟨bc, qc, bs, ps, ss, so, sb, sq, sl, sn, sc, bg, qg, R, n, c, bm⟩ n)).take j)) (wo, wb, wq, wl, wn, wc) := h6
    have h7 : (j : Int) < (yn : Int) := of_decide_eq_true h7
    change Rw Pg at rA
    have hrA : mgetG A1 (yl.getD j 0) = rA := hrA
    rw [hG.at (d := 0) (by omega)] at hrA
    have hg := h2.2.1.rowl ((keyL ⟨bs, ps, ss⟩ (cTo ⟨bc, qc, bs, ps, ss, so, sb, sq, sl, sn, sc, bg, qg, R, n, c, bm⟩ n)).getD j 0)
    rw [hrA] at hg
    have hgl := grpL_len (g := ⟨bs, ps, ss⟩) (P := cTo ⟨bc, qc, bs, ps, ss, so, sb, sq, sl, sn, sc, bg, qg, R, n, c, bm⟩ n) (k := (keyL ⟨bs, ps, ss⟩ (cTo ⟨bc, qc, bs, ps, ss, so, sb, sq, sl, sn, sc, bg, qg, R, n, c, bm⟩ n)).getD j 0)
    have hPl := pgsTo_len (f := cntF n (R.map fun r => r.l)) (rows_len hfew) n
    have hgl : rA.l.length ≤ n * 1000000 := by rw [hg.1]; exact Nat.le_trans hgl hPl
    have htk : rA.l.take rA.l.length = grpL ⟨bs, ps, ss⟩ (cTo ⟨bc, qc, bs, ps, ss, so, sb, sq, sl, sn, sc, bg, qg, R, n, c, bm⟩ n) ((keyL ⟨bs, ps, ss⟩ (cTo ⟨bc, qc, bs, ps, ss, so, sb, sq, sl, sn, sc, bg, qg, R, n, c, bm⟩ n)).getD j 0) := by rw [List.take_of_length_le (Nat.le_refl _), hg.1]
    have hjk : j < (keyL ⟨bs, ps, ss⟩ (cTo ⟨bc, qc, bs, ps, ss, so, sb, sq, sl, sn, sc, bg, qg, R, n, c, bm⟩ n)).length := by omega
    have hkl := keyL_len (P := cTo ⟨bc, qc, bs, ps, ss, so, sb, sq, sl, sn, sc, bg, qg, R, n, c, bm⟩ n) hgeo
    have hj9 : j < 536871100 := Nat.lt_of_lt_of_le hjk hkl
    exact inR64 (by show -9223372036854775808 ≤ (j : Int) + 1; omega) (by show (j : Int) + 1 ≤ 9223372036854775807; omega)
  · rename_i u0 x2 h2 h3 u1 u2 y hy x6 h6 h7 rA hrA u7 hwn
    obtain ⟨i, ⟨a1, A1, k1⟩, O1⟩ := x2
    have h2 : i ≤ n ∧ AOK ⟨bc, qc, bs, ps, ss, so, sb, sq, sl, sn, sc, bg, qg, R, n, c, bm⟩ ⟨bs, ps, ss⟩ (cTo ⟨bc, qc, bs, ps, ss, so, sb, sq, sl, sn, sc, bg, qg, R, n, c, bm⟩ i) A1 k1 ∧ Gth (orfL vf (cTo ⟨bc, qc, bs, ps, ss, so, sb, sq, sl, sn, sc, bg, qg, R, n, c, bm⟩ i)) O1 := h2
    have h3 : ¬ (i : Int) < (n : Int) := of_decide_eq_false h3
    have ei : i = n := by omega
    rw [ei] at h2
    have hG := sd_keys hgeo h2.2.1 hy
    obtain ⟨yo, yb, yq, yl, yn, yc⟩ := y
    have hR := hG.room
    obtain ⟨j, wo, wb, wq, wl, wn, wc⟩ := x6
    have h6 : j ≤ (keyL ⟨bs, ps, ss⟩ (cTo ⟨bc, qc, bs, ps, ss, so, sb, sq, sl, sn, sc, bg, qg, R, n, c, bm⟩ n)).length ∧ Gth (sloL ⟨bs, ps, ss⟩ vf (cTo ⟨bc, qc, bs, ps, ss, so, sb, sq, sl, sn, sc, bg, qg, R, n, c, bm⟩ n) ((keyL ⟨bs, ps, ss⟩ (cTo ⟨bc, qc, bs, ps, ss, so, sb, sq, sl, sn, sc, bg, qg, R, n, c, bm⟩ n)).take j)) (wo, wb, wq, wl, wn, wc) := h6
    have h7 : (j : Int) < (yn : Int) := of_decide_eq_true h7
    change Rw Pg at rA
    have hrA : mgetG A1 (yl.getD j 0) = rA := hrA
    rw [hG.at (d := 0) (by omega)] at hrA
    have hg := h2.2.1.rowl ((keyL ⟨bs, ps, ss⟩ (cTo ⟨bc, qc, bs, ps, ss, so, sb, sq, sl, sn, sc, bg, qg, R, n, c, bm⟩ n)).getD j 0)
    rw [hrA] at hg
    have hgl := grpL_len (g := ⟨bs, ps, ss⟩) (P := cTo ⟨bc, qc, bs, ps, ss, so, sb, sq, sl, sn, sc, bg, qg, R, n, c, bm⟩ n) (k := (keyL ⟨bs, ps, ss⟩ (cTo ⟨bc, qc, bs, ps, ss, so, sb, sq, sl, sn, sc, bg, qg, R, n, c, bm⟩ n)).getD j 0)
    have hPl := pgsTo_len (f := cntF n (R.map fun r => r.l)) (rows_len hfew) n
    have hgl : rA.l.length ≤ n * 1000000 := by rw [hg.1]; exact Nat.le_trans hgl hPl
    have htk : rA.l.take rA.l.length = grpL ⟨bs, ps, ss⟩ (cTo ⟨bc, qc, bs, ps, ss, so, sb, sq, sl, sn, sc, bg, qg, R, n, c, bm⟩ n) ((keyL ⟨bs, ps, ss⟩ (cTo ⟨bc, qc, bs, ps, ss, so, sb, sq, sl, sn, sc, bg, qg, R, n, c, bm⟩ n)).getD j 0) := by rw [List.take_of_length_le (Nat.le_refl _), hg.1]
    have hjk : j < (keyL ⟨bs, ps, ss⟩ (cTo ⟨bc, qc, bs, ps, ss, so, sb, sq, sl, sn, sc, bg, qg, R, n, c, bm⟩ n)).length := by omega
    have hwn : winB vf (rA.l.take rA.l.length) = false := hwn
    rw [htk] at hwn
    refine Stands.one (j + 1, wo, wb, wq, wl, wn, wc) ⟨⟨by show j + 1 ≤ (keyL ⟨bs, ps, ss⟩ (cTo ⟨bc, qc, bs, ps, ss, so, sb, sq, sl, sn, sc, bg, qg, R, n, c, bm⟩ n)).length; omega, ?_⟩, by show (keyL ⟨bs, ps, ss⟩ (cTo ⟨bc, qc, bs, ps, ss, so, sb, sq, sl, sn, sc, bg, qg, R, n, c, bm⟩ n)).length - (j + 1) < (keyL ⟨bs, ps, ss⟩ (cTo ⟨bc, qc, bs, ps, ss, so, sb, sq, sl, sn, sc, bg, qg, R, n, c, bm⟩ n)).length - j; omega, ?_⟩
    · show Gth (sloL ⟨bs, ps, ss⟩ vf (cTo ⟨bc, qc, bs, ps, ss, so, sb, sq, sl, sn, sc, bg, qg, R, n, c, bm⟩ n) ((keyL ⟨bs, ps, ss⟩ (cTo ⟨bc, qc, bs, ps, ss, so, sb, sq, sl, sn, sc, bg, qg, R, n, c, bm⟩ n)).take (j + 1))) _
      rw [sloL_no hjk hwn]
      exact h6.2
    ((conv => (arg 1; reduce)); with_reducible repeat' (first | exact Tr.yes_h | refine Tr.and_h ?_ ?_ | refine Tr.imp_h fun _ => ?_ | refine Tr.all_h fun _ => ?_ | refine Tr.lf_h ?_))
    all_goals (first | first | (show Region.lexB _ _ = true; kernel_rfl) | (show planned _ _ = true; kernel_rfl) | exact rfl | exact True.intro | (first | exact key3 | exact zeroB | exact zeroR | exact zeroS | exact ⟨key3, zeroB⟩ | exact ⟨key3, zeroR⟩ | exact ⟨key3, zeroS⟩) | ((try dsimp only [imp, C0, cG, cInt, cPl, cSlot, cPg, gwCodec] at *); (try refine inR64 ?_ ?_) <;> (try simp only [List.length_set, List.length_append, List.length_take, List.length_drop]) <;> omega))
  · rename_i u0 x2 h2 h3 u1 u2 y hy x6 h6 h7 rA hrA u7
    obtain ⟨i, ⟨a1, A1, k1⟩, O1⟩ := x2
    have h2 : i ≤ n ∧ AOK ⟨bc, qc, bs, ps, ss, so, sb, sq, sl, sn, sc, bg, qg, R, n, c, bm⟩ ⟨bs, ps, ss⟩ (cTo ⟨bc, qc, bs, ps, ss, so, sb, sq, sl, sn, sc, bg, qg, R, n, c, bm⟩ i) A1 k1 ∧ Gth (orfL vf (cTo ⟨bc, qc, bs, ps, ss, so, sb, sq, sl, sn, sc, bg, qg, R, n, c, bm⟩ i)) O1 := h2
    have h3 : ¬ (i : Int) < (n : Int) := of_decide_eq_false h3
    have ei : i = n := by omega
    rw [ei] at h2
    have hG := sd_keys hgeo h2.2.1 hy
    obtain ⟨yo, yb, yq, yl, yn, yc⟩ := y
    have hR := hG.room
    obtain ⟨j, wo, wb, wq, wl, wn, wc⟩ := x6
    have h6 : j ≤ (keyL ⟨bs, ps, ss⟩ (cTo ⟨bc, qc, bs, ps, ss, so, sb, sq, sl, sn, sc, bg, qg, R, n, c, bm⟩ n)).length ∧ Gth (sloL ⟨bs, ps, ss⟩ vf (cTo ⟨bc, qc, bs, ps, ss, so, sb, sq, sl, sn, sc, bg, qg, R, n, c, bm⟩ n) ((keyL ⟨bs, ps, ss⟩ (cTo ⟨bc, qc, bs, ps, ss, so, sb, sq, sl, sn, sc, bg, qg, R, n, c, bm⟩ n)).take j)) (wo, wb, wq, wl, wn, wc) := h6
    have h7 : (j : Int) < (yn : Int) := of_decide_eq_true h7
    change Rw Pg at rA
    have hrA : mgetG A1 (yl.getD j 0) = rA := hrA
    rw [hG.at (d := 0) (by omega)] at hrA
    have hg := h2.2.1.rowl ((keyL ⟨bs, ps, ss⟩ (cTo ⟨bc, qc, bs, ps, ss, so, sb, sq, sl, sn, sc, bg, qg, R, n, c, bm⟩ n)).getD j 0)
    rw [hrA] at hg
    have hgl := grpL_len (g := ⟨bs, ps, ss⟩) (P := cTo ⟨bc, qc, bs, ps, ss, so, sb, sq, sl, sn, sc, bg, qg, R, n, c, bm⟩ n) (k := (keyL ⟨bs, ps, ss⟩ (cTo ⟨bc, qc, bs, ps, ss, so, sb, sq, sl, sn, sc, bg, qg, R, n, c, bm⟩ n)).getD j 0)
    have hPl := pgsTo_len (f := cntF n (R.map fun r => r.l)) (rows_len hfew) n
    have hgl : rA.l.length ≤ n * 1000000 := by rw [hg.1]; exact Nat.le_trans hgl hPl
    have htk : rA.l.take rA.l.length = grpL ⟨bs, ps, ss⟩ (cTo ⟨bc, qc, bs, ps, ss, so, sb, sq, sl, sn, sc, bg, qg, R, n, c, bm⟩ n) ((keyL ⟨bs, ps, ss⟩ (cTo ⟨bc, qc, bs, ps, ss, so, sb, sq, sl, sn, sc, bg, qg, R, n, c, bm⟩ n)).getD j 0) := by rw [List.take_of_length_le (Nat.le_refl _), hg.1]
    have hjk : j < (keyL ⟨bs, ps, ss⟩ (cTo ⟨bc, qc, bs, ps, ss, so, sb, sq, sl, sn, sc, bg, qg, R, n, c, bm⟩ n)).length := by omega
    exact ⟨Nat.le_refl _, hg.2.1, by show rA.l.length < 1000000000; omega⟩
  · rename_i u0 x2 h2 h3 u1 u2 y hy x6 h6 h7 rA hrA u7 hwn u8
    obtain ⟨i, ⟨a1, A1, k1⟩, O1⟩ := x2
    have h2 : i ≤ n ∧ AOK ⟨bc, qc, bs, ps, ss, so, sb, sq, sl, sn, sc, bg, qg, R, n, c, bm⟩ ⟨bs, ps, ss⟩ (cTo ⟨bc, qc, bs, ps, ss, so, sb, sq, sl, sn, sc, bg, qg, R, n, c, bm⟩ i) A1 k1 ∧ Gth (orfL vf (cTo ⟨bc, qc, bs, ps, ss, so, sb, sq, sl, sn, sc, bg, qg, R, n, c, bm⟩ i)) O1 := h2
    have h3 : ¬ (i : Int) < (n : Int) := of_decide_eq_false h3
    have ei : i = n := by omega
    rw [ei] at h2
    have hG := sd_keys hgeo h2.2.1 hy
    obtain ⟨yo, yb, yq, yl, yn, yc⟩ := y
    have hR := hG.room
    obtain ⟨j, wo, wb, wq, wl, wn, wc⟩ := x6
    have h6 : j ≤ (keyL ⟨bs, ps, ss⟩ (cTo ⟨bc, qc, bs, ps, ss, so, sb, sq, sl, sn, sc, bg, qg, R, n, c, bm⟩ n)).length ∧ Gth (sloL ⟨bs, ps, ss⟩ vf (cTo ⟨bc, qc, bs, ps, ss, so, sb, sq, sl, sn, sc, bg, qg, R, n, c, bm⟩ n) ((keyL ⟨bs, ps, ss⟩ (cTo ⟨bc, qc, bs, ps, ss, so, sb, sq, sl, sn, sc, bg, qg, R, n, c, bm⟩ n)).take j)) (wo, wb, wq, wl, wn, wc) := h6
    have h7 : (j : Int) < (yn : Int) := of_decide_eq_true h7
    change Rw Pg at rA
    have hrA : mgetG A1 (yl.getD j 0) = rA := hrA
    rw [hG.at (d := 0) (by omega)] at hrA
    have hg := h2.2.1.rowl ((keyL ⟨bs, ps, ss⟩ (cTo ⟨bc, qc, bs, ps, ss, so, sb, sq, sl, sn, sc, bg, qg, R, n, c, bm⟩ n)).getD j 0)
    rw [hrA] at hg
    have hgl := grpL_len (g := ⟨bs, ps, ss⟩) (P := cTo ⟨bc, qc, bs, ps, ss, so, sb, sq, sl, sn, sc, bg, qg, R, n, c, bm⟩ n) (k := (keyL ⟨bs, ps, ss⟩ (cTo ⟨bc, qc, bs, ps, ss, so, sb, sq, sl, sn, sc, bg, qg, R, n, c, bm⟩ n)).getD j 0)
    have hPl := pgsTo_len (f := cntF n (R.map fun r => r.l)) (rows_len hfew) n
    have hgl : rA.l.length ≤ n * 1000000 := by rw [hg.1]; exact Nat.le_trans hgl hPl
    have htk : rA.l.take rA.l.length = grpL ⟨bs, ps, ss⟩ (cTo ⟨bc, qc, bs, ps, ss, so, sb, sq, sl, sn, sc, bg, qg, R, n, c, bm⟩ n) ((keyL ⟨bs, ps, ss⟩ (cTo ⟨bc, qc, bs, ps, ss, so, sb, sq, sl, sn, sc, bg, qg, R, n, c, bm⟩ n)).getD j 0) := by rw [List.take_of_length_le (Nat.le_refl _), hg.1]
    have hjk : j < (keyL ⟨bs, ps, ss⟩ (cTo ⟨bc, qc, bs, ps, ss, so, sb, sq, sl, sn, sc, bg, qg, R, n, c, bm⟩ n)).length := by omega
    have hW := h6.2.room
    have hwl := Nat.le_trans (sloL_len (g := ⟨bs, ps, ss⟩) (f := vf) (P := cTo ⟨bc, qc, bs, ps, ss, so, sb, sq, sl, sn, sc, bg, qg, R, n, c, bm⟩ n) (K := (keyL ⟨bs, ps, ss⟩ (cTo ⟨bc, qc, bs, ps, ss, so, sb, sq, sl, sn, sc, bg, qg, R, n, c, bm⟩ n)).take j)) (List.length_take_le' _ _)
    have hkl := keyL_len (P := cTo ⟨bc, qc, bs, ps, ss, so, sb, sq, sl, sn, sc, bg, qg, R, n, c, bm⟩ n) hgeo
    have hwn' : wn ≤ 536871100 := by rw [hW.2.2.1]; exact Nat.le_trans hwl hkl
    rw [bySl]
    exact ⟨hW.1, by show 0 + wc ≤ wl.length; omega, by simp, by show (wn + 1) * 72 ≤ _; omega⟩
  · rename_i u0 x2 h2 h3 u1 u2 y hy x6 h6 h7 rA hrA u7 hwn u8
    obtain ⟨i, ⟨a1, A1, k1⟩, O1⟩ := x2
    have h2 : i ≤ n ∧ AOK ⟨bc, qc, bs, ps, ss, so, sb, sq, sl, sn, sc, bg, qg, R, n, c, bm⟩ ⟨bs, ps, ss⟩ (cTo ⟨bc, qc, bs, ps, ss, so, sb, sq, sl, sn, sc, bg, qg, R, n, c, bm⟩ i) A1 k1 ∧ Gth (orfL vf (cTo ⟨bc, qc, bs, ps, ss, so, sb, sq, sl, sn, sc, bg, qg, R, n, c, bm⟩ i)) O1 := h2
    have h3 : ¬ (i : Int) < (n : Int) := of_decide_eq_false h3
    have ei : i = n := by omega
    rw [ei] at h2
    have hG := sd_keys hgeo h2.2.1 hy
    obtain ⟨yo, yb, yq, yl, yn, yc⟩ := y
    have hR := hG.room
    obtain ⟨j, wo, wb, wq, wl, wn, wc⟩ := x6
    have h6 : j ≤ (keyL ⟨bs, ps, ss⟩ (cTo ⟨bc, qc, bs, ps, ss, so, sb, sq, sl, sn, sc, bg, qg, R, n, c, bm⟩ n)).length ∧ Gth (sloL ⟨bs, ps, ss⟩ vf (cTo ⟨bc, qc, bs, ps, ss, so, sb, sq, sl, sn, sc, bg, qg, R, n, c, bm⟩ n) ((keyL ⟨bs, ps, ss⟩ (cTo ⟨bc, qc, bs, ps, ss, so, sb, sq, sl, sn, sc, bg, qg, R, n, c, bm⟩ n)).take j)) (wo, wb, wq, wl, wn, wc) := h6
    have h7 : (j : Int) < (yn : Int) := of_decide_eq_true h7
    change Rw Pg at rA
    have hrA : mgetG A1 (yl.getD j 0) = rA := hrA
    rw [hG.at (d := 0) (by omega)] at hrA
    have hg := h2.2.1.rowl ((keyL ⟨bs, ps, ss⟩ (cTo ⟨bc, qc, bs, ps, ss, so, sb, sq, sl, sn, sc, bg, qg, R, n, c, bm⟩ n)).getD j 0)
    rw [hrA] at hg
    have hgl := grpL_len (g := ⟨bs, ps, ss⟩) (P := cTo ⟨bc, qc, bs, ps, ss, so, sb, sq, sl, sn, sc, bg, qg, R, n, c, bm⟩ n) (k := (keyL ⟨bs, ps, ss⟩ (cTo ⟨bc, qc, bs, ps, ss, so, sb, sq, sl, sn, sc, bg, qg, R, n, c, bm⟩ n)).getD j 0)
    have hPl := pgsTo_len (f := cntF n (R.map fun r => r.l)) (rows_len hfew) n
    have hgl : rA.l.length ≤ n * 1000000 := by rw [hg.1]; exact Nat.le_trans hgl hPl
    have htk : rA.l.take rA.l.length = grpL ⟨bs, ps, ss⟩ (cTo ⟨bc, qc, bs, ps, ss, so, sb, sq, sl, sn, sc, bg, qg, R, n, c, bm⟩ n) ((keyL ⟨bs, ps, ss⟩ (cTo ⟨bc, qc, bs, ps, ss, so, sb, sq, sl, sn, sc, bg, qg, R, n, c, bm⟩ n)).getD j 0) := by rw [List.take_of_length_le (Nat.le_refl _), hg.1]
    have hjk : j < (keyL ⟨bs, ps, ss⟩ (cTo ⟨bc, qc, bs, ps, ss, so, sb, sq, sl, sn, sc, bg, qg, R, n, c, bm⟩ n)).length := by omega
    exact h6.2.room.2.2.2
  · rename_i u0 x2 h2 h3 u1 u2 y hy x6 h6 h7 rA hrA u7 hwn u8 b9 q9 sp cp hc1 hc2
    obtain ⟨i, ⟨a1, A1, k1⟩, O1⟩ := x2
    have h2 : i ≤ n ∧ AOK ⟨bc, qc, bs, ps, ss, so, sb, sq, sl, sn, sc, bg, qg, R, n, c, bm⟩ ⟨bs, ps, ss⟩ (cTo ⟨bc, qc, bs, ps, ss, so, sb, sq, sl, sn, sc, bg, qg, R, n, c, bm⟩ i) A1 k1 ∧ Gth (orfL vf (cTo ⟨bc, qc, bs, ps, ss, so, sb, sq, sl, sn, sc, bg, qg, R, n, c, bm⟩ i)) O1 := h2
    have h3 : ¬ (i : Int) < (n : Int) := of_decide_eq_false h3
    have ei : i = n := by omega
    rw [ei] at h2
    have hG := sd_keys hgeo h2.2.1 hy
    obtain ⟨yo, yb, yq, yl, yn, yc⟩ := y
    have hR := hG.room
    obtain ⟨j, wo, wb, wq, wl, wn, wc⟩ := x6
    have h6 : j ≤ (keyL ⟨bs, ps, ss⟩ (cTo ⟨bc, qc, bs, ps, ss, so, sb, sq, sl, sn, sc, bg, qg, R, n, c, bm⟩ n)).length ∧ Gth (sloL ⟨bs, ps, ss⟩ vf (cTo ⟨bc, qc, bs, ps, ss, so, sb, sq, sl, sn, sc, bg, qg, R, n, c, bm⟩ n) ((keyL ⟨bs, ps, ss⟩ (cTo ⟨bc, qc, bs, ps, ss, so, sb, sq, sl, sn, sc, bg, qg, R, n, c, bm⟩ n)).take j)) (wo, wb, wq, wl, wn, wc) := h6
    have h7 : (j : Int) < (yn : Int) := of_decide_eq_true h7
    change Rw Pg at rA
    have hrA : mgetG A1 (yl.getD j 0) = rA := hrA
    rw [hG.at (d := 0) (by omega)] at hrA
    have hg := h2.2.1.rowl ((keyL ⟨bs, ps, ss⟩ (cTo ⟨bc, qc, bs, ps, ss, so, sb, sq, sl, sn, sc, bg, qg, R, n, c, bm⟩ n)).getD j 0)
    rw [hrA] at hg
    have hgl := grpL_len (g := ⟨bs, ps, ss⟩) (P := cTo ⟨bc, qc, bs, ps, ss, so, sb, sq, sl, sn, sc, bg, qg, R, n, c, bm⟩ n) (k := (keyL ⟨bs, ps, ss⟩ (cTo ⟨bc, qc, bs, ps, ss, so, sb, sq, sl, sn, sc, bg, qg, R, n, c, bm⟩ n)).getD j 0)
    have hPl := pgsTo_len (f := cntF n (R.map fun r => r.l)) (rows_len hfew) n
    have hgl : rA.l.length ≤ n * 1000000 := by rw [hg.1]; exact Nat.le_trans hgl hPl
    have htk : rA.l.take rA.l.length = grpL ⟨bs, ps, ss⟩ (cTo ⟨bc, qc, bs, ps, ss, so, sb, sq, sl, sn, sc, bg, qg, R, n, c, bm⟩ n) ((keyL ⟨bs, ps, ss⟩ (cTo ⟨bc, qc, bs, ps, ss, so, sb, sq, sl, sn, sc, bg, qg, R, n, c, bm⟩ n)).getD j 0) := by rw [List.take_of_length_le (Nat.le_refl _), hg.1]
    have hjk : j < (keyL ⟨bs, ps, ss⟩ (cTo ⟨bc, qc, bs, ps, ss, so, sb, sq, sl, sn, sc, bg, qg, R, n, c, bm⟩ n)).length := by omega
    have hkl := keyL_len (P := cTo ⟨bc, qc, bs, ps, ss, so, sb, sq, sl, sn, sc, bg, qg, R, n, c, bm⟩ n) hgeo
    have hj9 : j < 536871100 := Nat.lt_of_lt_of_le hjk hkl
    exact inR64 (by show -9223372036854775808 ≤ (j : Int) + 1; omega) (by show (j : Int) + 1 ≤ 9223372036854775807; omega)
  · rename_i u0 x2 h2 h3 u1 u2 y hy x6 h6 h7 rA hrA u7 hwn u8 b9 q9 sp cp hc1 hc2
    obtain ⟨i, ⟨a1, A1, k1⟩, O1⟩ := x2
    have h2 : i ≤ n ∧ AOK ⟨bc, qc, bs, ps, ss, so, sb, sq, sl, sn, sc, bg, qg, R, n, c, bm⟩ ⟨bs, ps, ss⟩ (cTo ⟨bc, qc, bs, ps, ss, so, sb, sq, sl, sn, sc, bg, qg, R, n, c, bm⟩ i) A1 k1 ∧ Gth (orfL vf (cTo ⟨bc, qc, bs, ps, ss, so, sb, sq, sl, sn, sc, bg, qg, R, n, c, bm⟩ i)) O1 := h2
    have h3 : ¬ (i : Int) < (n : Int) := of_decide_eq_false h3
    have ei : i = n := by omega
    rw [ei] at h2
    have hG := sd_keys hgeo h2.2.1 hy
    obtain ⟨yo, yb, yq, yl, yn, yc⟩ := y
    have hR := hG.room
    obtain ⟨j, wo, wb, wq, wl, wn, wc⟩ := x6
    have h6 : j ≤ (keyL ⟨bs, ps, ss⟩ (cTo ⟨bc, qc, bs, ps, ss, so, sb, sq, sl, sn, sc, bg, qg, R, n, c, bm⟩ n)).length ∧ Gth (sloL ⟨bs, ps, ss⟩ vf (cTo ⟨bc, qc, bs, ps, ss, so, sb, sq, sl, sn, sc, bg, qg, R, n, c, bm⟩ n) ((keyL ⟨bs, ps, ss⟩ (cTo ⟨bc, qc, bs, ps, ss, so, sb, sq, sl, sn, sc, bg, qg, R, n, c, bm⟩ n)).take j)) (wo, wb, wq, wl, wn, wc) := h6
    have h7 : (j : Int) < (yn : Int) := of_decide_eq_true h7
    change Rw Pg at rA
    have hrA : mgetG A1 (yl.getD j 0) = rA := hrA
    rw [hG.at (d := 0) (by omega)] at hrA
    have hg := h2.2.1.rowl ((keyL ⟨bs, ps, ss⟩ (cTo ⟨bc, qc, bs, ps, ss, so, sb, sq, sl, sn, sc, bg, qg, R, n, c, bm⟩ n)).getD j 0)
    rw [hrA] at hg
    have hgl := grpL_len (g := ⟨bs, ps, ss⟩) (P := cTo ⟨bc, qc, bs, ps, ss, so, sb, sq, sl, sn, sc, bg, qg, R, n, c, bm⟩ n) (k := (keyL ⟨bs, ps, ss⟩ (cTo ⟨bc, qc, bs, ps, ss, so, sb, sq, sl, sn, sc, bg, qg, R, n, c, bm⟩ n)).getD j 0)
    have hPl := pgsTo_len (f := cntF n (R.map fun r => r.l)) (rows_len hfew) n
    have hgl : rA.l.length ≤ n * 1000000 := by rw [hg.1]; exact Nat.le_trans hgl hPl
    have htk : rA.l.take rA.l.length = grpL ⟨bs, ps, ss⟩ (cTo ⟨bc, qc, bs, ps, ss, so, sb, sq, sl, sn, sc, bg, qg, R, n, c, bm⟩ n) ((keyL ⟨bs, ps, ss⟩ (cTo ⟨bc, qc, bs, ps, ss, so, sb, sq, sl, sn, sc, bg, qg, R, n, c, bm⟩ n)).getD j 0) := by rw [List.take_of_length_le (Nat.le_refl _), hg.1]
    have hjk : j < (keyL ⟨bs, ps, ss⟩ (cTo ⟨bc, qc, bs, ps, ss, so, sb, sq, sl, sn, sc, bg, qg, R, n, c, bm⟩ n)).length := by omega
    have hwn : winB vf (rA.l.take rA.l.length) = true := hwn
    rw [htk] at hwn
    refine Stands.one (j + 1, true, b9, q9, wl.take wn ++ [sloOf ⟨bs, ps, ss⟩ vf (cTo ⟨bc, qc, bs, ps, ss, so, sb, sq, sl, sn, sc, bg, qg, R, n, c, bm⟩ n) ((keyL ⟨bs, ps, ss⟩ (cTo ⟨bc, qc, bs, ps, ss, so, sb, sq, sl, sn, sc, bg, qg, R, n, c, bm⟩ n)).getD j 0)] ++ sp, wn + 1, cp) ⟨⟨by show j + 1 ≤ (keyL ⟨bs, ps, ss⟩ (cTo ⟨bc, qc, bs, ps, ss, so, sb, sq, sl, sn, sc, bg, qg, R, n, c, bm⟩ n)).length; omega, ?_⟩, by show (keyL ⟨bs, ps, ss⟩ (cTo ⟨bc, qc, bs, ps, ss, so, sb, sq, sl, sn, sc, bg, qg, R, n, c, bm⟩ n)).length - (j + 1) < (keyL ⟨bs, ps, ss⟩ (cTo ⟨bc, qc, bs, ps, ss, so, sb, sq, sl, sn, sc, bg, qg, R, n, c, bm⟩ n)).length - j; omega, ?_⟩
    · show Gth (sloL ⟨bs, ps, ss⟩ vf (cTo ⟨bc, qc, bs, ps, ss, so, sb, sq, sl, sn, sc, bg, qg, R, n, c, bm⟩ n) ((keyL ⟨bs, ps, ss⟩ (cTo ⟨bc, qc, bs, ps, ss, so, sb, sq, sl, sn, sc, bg, qg, R, n, c, bm⟩ n)).take (j + 1))) _
      rw [sloL_yes hjk hwn]
      exact h6.2.snoc hc1 hc2
    have eK : (yl.getD j 0 : Int) = (keyL ⟨bs, ps, ss⟩ (cTo ⟨bc, qc, bs, ps, ss, so, sb, sq, sl, sn, sc, bg, qg, R, n, c, bm⟩ n)).getD j 0 := hG.at (by omega)
    have eS : sloOf ⟨bs, ps, ss⟩ vf (cTo ⟨bc, qc, bs, ps, ss, so, sb, sq, sl, sn, sc, bg, qg, R, n, c, bm⟩ n) ((keyL ⟨bs, ps, ss⟩ (cTo ⟨bc, qc, bs, ps, ss, so, sb, sq, sl, sn, sc, bg, qg, R, n, c, bm⟩ n)).getD j 0) = ⟨yl.getD j 0, (winP vf (rA.l.take rA.l.length)).pl, (winP vf (rA.l.take rA.l.length)).me⟩ := by rw [htk, eK]; rfl
    rw [eS]
    ((conv => (arg 1; reduce)); with_reducible repeat' (first | exact Tr.yes_h | refine Tr.and_h ?_ ?_ | refine Tr.imp_h fun _ => ?_ | refine Tr.all_h fun _ => ?_ | refine Tr.lf_h ?_))
    all_goals (first | first | (show Region.lexB _ _ = true; kernel_rfl) | (show planned _ _ = true; kernel_rfl) | exact rfl | exact True.intro | (first | exact key3 | exact zeroB | exact zeroR | exact zeroS | exact ⟨key3, zeroB⟩ | exact ⟨key3, zeroR⟩ | exact ⟨key3, zeroS⟩) | ((try dsimp only [imp, C0, cG, cInt, cPl, cSlot, cPg, gwCodec] at *); (try refine inR64 ?_ ?_) <;> (try simp only [List.length_set, List.length_append, List.length_take, List.length_drop]) <;> omega))
  · rename_i u0 x2 h2 h3 u1 u2 y hy x6 h6 h7 rA hrA u7 hwn
    obtain ⟨i, ⟨a1, A1, k1⟩, O1⟩ := x2
    have h2 : i ≤ n ∧ AOK ⟨bc, qc, bs, ps, ss, so, sb, sq, sl, sn, sc, bg, qg, R, n, c, bm⟩ ⟨bs, ps, ss⟩ (cTo ⟨bc, qc, bs, ps, ss, so, sb, sq, sl, sn, sc, bg, qg, R, n, c, bm⟩ i) A1 k1 ∧ Gth (orfL vf (cTo ⟨bc, qc, bs, ps, ss, so, sb, sq, sl, sn, sc, bg, qg, R, n, c, bm⟩ i)) O1 := h2
    have h3 : ¬ (i : Int) < (n : Int) := of_decide_eq_false h3
    have ei : i = n := by omega
    rw [ei] at h2
    have hG := sd_keys hgeo h2.2.1 hy
    obtain ⟨yo, yb, yq, yl, yn, yc⟩ := y
    have hR := hG.room
    obtain ⟨j, wo, wb, wq, wl, wn, wc⟩ := x6
    have h6 : j ≤ (keyL ⟨bs, ps, ss⟩ (cTo ⟨bc, qc, bs, ps, ss, so, sb, sq, sl, sn, sc, bg, qg, R, n, c, bm⟩ n)).length ∧ Gth (sloL ⟨bs, ps, ss⟩ vf (cTo ⟨bc, qc, bs, ps, ss, so, sb, sq, sl, sn, sc, bg, qg, R, n, c, bm⟩ n) ((keyL ⟨bs, ps, ss⟩ (cTo ⟨bc, qc, bs, ps, ss, so, sb, sq, sl, sn, sc, bg, qg, R, n, c, bm⟩ n)).take j)) (wo, wb, wq, wl, wn, wc) := h6
    have h7 : (j : Int) < (yn : Int) := of_decide_eq_true h7
    change Rw Pg at rA
    have hrA : mgetG A1 (yl.getD j 0) = rA := hrA
    rw [hG.at (d := 0) (by omega)] at hrA
    have hg := h2.2.1.rowl ((keyL ⟨bs, ps, ss⟩ (cTo ⟨bc, qc, bs, ps, ss, so, sb, sq, sl, sn, sc, bg, qg, R, n, c, bm⟩ n)).getD j 0)
    rw [hrA] at hg
    have hgl := grpL_len (g := ⟨bs, ps, ss⟩) (P := cTo ⟨bc, qc, bs, ps, ss, so, sb, sq, sl, sn, sc, bg, qg, R, n, c, bm⟩ n) (k := (keyL ⟨bs, ps, ss⟩ (cTo ⟨bc, qc, bs, ps, ss, so, sb, sq, sl, sn, sc, bg, qg, R, n, c, bm⟩ n)).getD j 0)
    have hPl := pgsTo_len (f := cntF n (R.map fun r => r.l)) (rows_len hfew) n
    have hgl : rA.l.length ≤ n * 1000000 := by rw [hg.1]; exact Nat.le_trans hgl hPl
    have htk : rA.l.take rA.l.length = grpL ⟨bs, ps, ss⟩ (cTo ⟨bc, qc, bs, ps, ss, so, sb, sq, sl, sn, sc, bg, qg, R, n, c, bm⟩ n) ((keyL ⟨bs, ps, ss⟩ (cTo ⟨bc, qc, bs, ps, ss, so, sb, sq, sl, sn, sc, bg, qg, R, n, c, bm⟩ n)).getD j 0) := by rw [List.take_of_length_le (Nat.le_refl _), hg.1]
    have hjk : j < (keyL ⟨bs, ps, ss⟩ (cTo ⟨bc, qc, bs, ps, ss, so, sb, sq, sl, sn, sc, bg, qg, R, n, c, bm⟩ n)).length := by omega
    have hkl := keyL_len (P := cTo ⟨bc, qc, bs, ps, ss, so, sb, sq, sl, sn, sc, bg, qg, R, n, c, bm⟩ n) hgeo
    have hj9 : j < 536871100 := Nat.lt_of_lt_of_le hjk hkl
    exact inR64 (by show -9223372036854775808 ≤ (j : Int) + 1; omega) (by show (j : Int) + 1 ≤ 9223372036854775807; omega)
  · rename_i u0 x2 h2 h3 u1 u2 y hy x6 h6 h7 rA hrA u7 hwn
    obtain ⟨i, ⟨a1, A1, k1⟩, O1⟩ := x2
    have h2 : i ≤ n ∧ AOK ⟨bc, qc, bs, ps, ss, so, sb, sq, sl, sn, sc, bg, qg, R, n, c, bm⟩ ⟨bs, ps, ss⟩ (cTo ⟨bc, qc, bs, ps, ss, so, sb, sq, sl, sn, sc, bg, qg, R, n, c, bm⟩ i) A1 k1 ∧ Gth (orfL vf (cTo ⟨bc, qc, bs, ps, ss, so, sb, sq, sl, sn, sc, bg, qg, R, n, c, bm⟩ i)) O1 := h2
    have h3 : ¬ (i : Int) < (n : Int) := of_decide_eq_false h3
    have ei : i = n := by omega
    rw [ei] at h2
    have hG := sd_keys hgeo h2.2.1 hy
    obtain ⟨yo, yb, yq, yl, yn, yc⟩ := y
    have hR := hG.room
    obtain ⟨j, wo, wb, wq, wl, wn, wc⟩ := x6
    have h6 : j ≤ (keyL ⟨bs, ps, ss⟩ (cTo ⟨bc, qc, bs, ps, ss, so, sb, sq, sl, sn, sc, bg, qg, R, n, c, bm⟩ n)).length ∧ Gth (sloL ⟨bs, ps, ss⟩ vf (cTo ⟨bc, qc, bs, ps, ss, so, sb, sq, sl, sn, sc, bg, qg, R, n, c, bm⟩ n) ((keyL ⟨bs, ps, ss⟩ (cTo ⟨bc, qc, bs, ps, ss, so, sb, sq, sl, sn, sc, bg, qg, R, n, c, bm⟩ n)).take j)) (wo, wb, wq, wl, wn, wc) := h6
    have h7 : (j : Int) < (yn : Int) := of_decide_eq_true h7
    change Rw Pg at rA
    have hrA : mgetG A1 (yl.getD j 0) = rA := hrA
    rw [hG.at (d := 0) (by omega)] at hrA
    have hg := h2.2.1.rowl ((keyL ⟨bs, ps, ss⟩ (cTo ⟨bc, qc, bs, ps, ss, so, sb, sq, sl, sn, sc, bg, qg, R, n, c, bm⟩ n)).getD j 0)
    rw [hrA] at hg
    have hgl := grpL_len (g := ⟨bs, ps, ss⟩) (P := cTo ⟨bc, qc, bs, ps, ss, so, sb, sq, sl, sn, sc, bg, qg, R, n, c, bm⟩ n) (k := (keyL ⟨bs, ps, ss⟩ (cTo ⟨bc, qc, bs, ps, ss, so, sb, sq, sl, sn, sc, bg, qg, R, n, c, bm⟩ n)).getD j 0)
    have hPl := pgsTo_len (f := cntF n (R.map fun r => r.l)) (rows_len hfew) n
    have hgl : rA.l.length ≤ n * 1000000 := by rw [hg.1]; exact Nat.le_trans hgl hPl
    have htk : rA.l.take rA.l.length = grpL ⟨bs, ps, ss⟩ (cTo ⟨bc, qc, bs, ps, ss, so, sb, sq, sl, sn, sc, bg, qg, R, n, c, bm⟩ n) ((keyL ⟨bs, ps, ss⟩ (cTo ⟨bc, qc, bs, ps, ss, so, sb, sq, sl, sn, sc, bg, qg, R, n, c, bm⟩ n)).getD j 0) := by rw [List.take_of_length_le (Nat.le_refl _), hg.1]
    have hjk : j < (keyL ⟨bs, ps, ss⟩ (cTo ⟨bc, qc, bs, ps, ss, so, sb, sq, sl, sn, sc, bg, qg, R, n, c, bm⟩ n)).length := by omega
    have hwn : winB vf (rA.l.take rA.l.length) = false := hwn
    rw [htk] at hwn
    refine Stands.one (j + 1, wo, wb, wq, wl, wn, wc) ⟨⟨by show j + 1 ≤ (keyL ⟨bs, ps, ss⟩ (cTo ⟨bc, qc, bs, ps, ss, so, sb, sq, sl, sn, sc, bg, qg, R, n, c, bm⟩ n)).length; omega, ?_⟩, by show (keyL ⟨bs, ps, ss⟩ (cTo ⟨bc, qc, bs, ps, ss, so, sb, sq, sl, sn, sc, bg, qg, R, n, c, bm⟩ n)).length - (j + 1) < (keyL ⟨bs, ps, ss⟩ (cTo ⟨bc, qc, bs, ps, ss, so, sb, sq, sl, sn, sc, bg, qg, R, n, c, bm⟩ n)).length - j; omega, ?_⟩
    · show Gth (sloL ⟨bs, ps, ss⟩ vf (cTo ⟨bc, qc, bs, ps, ss, so, sb, sq, sl, sn, sc, bg, qg, R, n, c, bm⟩ n) ((keyL ⟨bs, ps, ss⟩ (cTo ⟨bc, qc, bs, ps, ss, so, sb, sq, sl, sn, sc, bg, qg, R, n, c, bm⟩ n)).take (j + 1))) _
      rw [sloL_no hjk hwn]
      exact h6.2
    ((conv => (arg 1; reduce)); with_reducible repeat' (first | exact Tr.yes_h | refine Tr.and_h ?_ ?_ | refine Tr.imp_h fun _ => ?_ | refine Tr.all_h fun _ => ?_ | refine Tr.lf_h ?_))
    all_goals (first | first | (show Region.lexB _ _ = true; kernel_rfl) | (show planned _ _ = true; kernel_rfl) | exact rfl | exact True.intro | (first | exact key3 | exact zeroB | exact zeroR | exact zeroS | exact ⟨key3, zeroB⟩ | exact ⟨key3, zeroR⟩ | exact ⟨key3, zeroS⟩) | ((try dsimp only [imp, C0, cG, cInt, cPl, cSlot, cPg, gwCodec] at *); (try refine inR64 ?_ ?_) <;> (try simp only [List.length_set, List.length_append, List.length_take, List.length_drop]) <;> omega))
  · rename_i u0 x2 h2 h3 u1 u2 y hy x6 h6 h7
    obtain ⟨i, ⟨a1, A1, k1⟩, O1⟩ := x2
    have h2 : i ≤ n ∧ AOK ⟨bc, qc, bs, ps, ss, so, sb, sq, sl, sn, sc, bg, qg, R, n, c, bm⟩ ⟨bs, ps, ss⟩ (cTo ⟨bc, qc, bs, ps, ss, so, sb, sq, sl, sn, sc, bg, qg, R, n, c, bm⟩ i) A1 k1 ∧ Gth (orfL vf (cTo ⟨bc, qc, bs, ps, ss, so, sb, sq, sl, sn, sc, bg, qg, R, n, c, bm⟩ i)) O1 := h2
    have h3 : ¬ (i : Int) < (n : Int) := of_decide_eq_false h3
    have ei : i = n := by omega
    rw [ei] at h2
    have hG := sd_keys hgeo h2.2.1 hy
    obtain ⟨yo, yb, yq, yl, yn, yc⟩ := y
    have hR := hG.room
    obtain ⟨j, wo, wb, wq, wl, wn, wc⟩ := x6
    have h6 : j ≤ (keyL ⟨bs, ps, ss⟩ (cTo ⟨bc, qc, bs, ps, ss, so, sb, sq, sl, sn, sc, bg, qg, R, n, c, bm⟩ n)).length ∧ Gth (sloL ⟨bs, ps, ss⟩ vf (cTo ⟨bc, qc, bs, ps, ss, so, sb, sq, sl, sn, sc, bg, qg, R, n, c, bm⟩ n) ((keyL ⟨bs, ps, ss⟩ (cTo ⟨bc, qc, bs, ps, ss, so, sb, sq, sl, sn, sc, bg, qg, R, n, c, bm⟩ n)).take j)) (wo, wb, wq, wl, wn, wc) := h6
    have h7 : ¬ (j : Int) < (yn : Int) := of_decide_eq_false h7
    have hjn : j = (keyL ⟨bs, ps, ss⟩ (cTo ⟨bc, qc, bs, ps, ss, so, sb, sq, sl, sn, sc, bg, qg, R, n, c, bm⟩ n)).length := by omega
    rw [hjn, List.take_of_length_le (Nat.le_refl _)] at h6
    obtain ⟨oo, ob, oq, ol, on, oc⟩ := O1
    refine Ends.one ((wo, wb, wq, wl, wn, wc), (oo, ob, oq, ol, on, oc)) ⟨h6.2, h2.2.2⟩ ?_
    ((conv => (arg 1; reduce)); with_reducible repeat' (first | exact Tr.yes_h | refine Tr.and_h ?_ ?_ | refine Tr.imp_h fun _ => ?_ | refine Tr.all_h fun _ => ?_ | refine Tr.lf_h ?_))
    all_goals (first | first | (show Region.lexB _ _ = true; kernel_rfl) | (show planned _ _ = true; kernel_rfl) | exact rfl | exact True.intro | (first | exact key3 | exact zeroB | exact zeroR | exact zeroS | exact ⟨key3, zeroB⟩ | exact ⟨key3, zeroR⟩ | exact ⟨key3, zeroS⟩) | ((try dsimp only [imp, C0, cG, cInt, cPl, cSlot, cPg, gwCodec] at *); (try refine inR64 ?_ ?_) <;> (try simp only [List.length_set, List.length_append, List.length_take, List.length_drop]) <;> omega))
end Go.Vx
set_option maxRecDepth 100000
namespace Go.Vx
open Go Go.Proofs
variable [Gl]
def outB (sk : List Int) (n : Nat) (Q : List (List Pg)) (i : Nat) : Bool := anyF (eqI (i : Int)) sk || decide ((i : Int) ∈ badTo n Q n)
def freP (sk : List Int) (n : Nat) (Q : List (List Pg)) (i : Nat) : Bool := !outB sk n Q i && decide ((rw Q i).length = 0)
def dirP (sk : List Int) (n : Nat) (Q : List (List Pg)) (f : Int) (S : List Slot) (i : Nat) : Bool :=
  !outB sk n Q i && !decide ((rw Q i).length = 0) && (!isHd (i : Int) (rw Q i) || !decide ((i : Int) ∈ S.map fun s => s.pl.1) || anyF (amP f) (rw Q i))
@[irreducible] def numL (p : Nat → Bool) (i : Nat) : List Int := ((List.range i).filter p).map Int.ofNat
section
variable {p : Nat → Bool} {i : Nat}
theorem numL_zero : numL p 0 = [] := by unfold numL; rfl
theorem numL_yes (h : p i = true) : numL p (i + 1) = numL p i ++ [(i : Int)] := by
  unfold numL
  rw [List.range_succ, List.filter_append, List.filter_cons_of_pos h, List.filter_nil, List.map_append]; rfl
theorem numL_no (h : p i = false) : numL p (i + 1) = numL p i := by
  unfold numL
  rw [List.range_succ, List.filter_append, List.filter_cons_of_neg (by rw [h]; exact Bool.false_ne_true), List.filter_nil, List.append_nil]
theorem numL_len : (numL p i).length ≤ i := by
  unfold numL
  rw [List.length_map]
  exact Nat.le_trans (List.length_filter_le _ _) (by rw [List.length_range]; exact Nat.le_refl _)
end
theorem take_map_snoc {S : List Slot} {i : Nat} (h : i < S.length) : (S.take (i + 1)).map (fun s => s.pl.1) = (S.take i).map (fun s => s.pl.1) ++ [(S.getD i slot0).pl.1] := by
  rw [take_snoc (d := slot0) h, List.map_append]; rfl
end Go.Vx
set_option maxRecDepth 100000
namespace Go.Vx
open Go Go.Proofs
variable [Gl]
abbrev outR : Nm → Sq Int → SV → SV → SV → SV → List SV
  | ⟨s, t, b, f⟩, (bo, bb, bq, bl, bn, bx), u, fr, di, v => [u, .int .i64 s, .int .i64 t, .int .i64 b, .int .i64 f, fr, di, .sl 4 0 bn bx, v]
abbrev chL : Sq Slot → Ck C0
  | (so, sb, sq, sl, sn, sc) => ⟨sb, sq, 9, true, some so, .rows 40 sl⟩
abbrev chO : Sq Pl → Ck C0
  | (po, pb, pq, pl, pn, pc) => ⟨pb, pq, 2, true, some po, .rows 36 pl⟩
abbrev chI : Sq Int → Ck C0
  | (bo, bb, bq, bl, bn, bx) => ⟨bb, bq, 1, true, some bo, .rows 3 bl⟩
abbrev svL (k : Nat) : Sq Slot → SV
  | (so, sb, sq, sl, sn, sc) => .sl k 0 sn sc
abbrev svO (k : Nat) : Sq Pl → SV
  | (so, sb, sq, sl, sn, sc) => .sl k 0 sn sc
abbrev svI (k : Nat) : Sq Int → SV
  | (so, sb, sq, sl, sn, sc) => .sl k 0 sn sc
abbrev skp (x : Cx) : List Int := x.sl.take x.sn
def R3 (SL : List Slot) : Inv' C0 := ⟨3, Nat × Bm × Nat, fun y => [(15, .int .i64 (y.1 : Int))],
  fun y m => match m with
    | c0 :: c1 :: c2 :: c3 :: c4 :: c5 :: c6 :: c7 :: ⟨lb, _, _, _, _, _⟩ :: _ => [c0, c1, c2, c3, c4, c5, c6, c7, ⟨lb, 0, 0, true, none, .mp 3 4 y.2.1 y.2.2⟩]
    | _ => [],
  fun y => y.1 ≤ SL.length ∧ MSet y.2.1 y.2.2 ((SL.take y.1).map fun s => s.pl.1), fun y => SL.length - y.1⟩
def R8 (x : Cx) (f : Int) (SL : List Slot) : Inv' C0 := ⟨8, Nat × Sq Int × Sq Int, fun y => [(29, .int .i64 (y.1 : Int))],
  fun y m => match m with
    | ⟨b0, q0, _, _, _, .one [a1, a2, a3, a4, a5, a6, a7, a8, a9, a10, a11, _, _, a14, a15]⟩ :: c1 :: c2 :: c3 :: c4 :: c5 :: c6 :: c7 :: c8 :: _ =>
      [⟨b0, q0, 15, true, none, .one [a1, a2, a3, a4, a5, a6, a7, a8, a9, a10, a11, .sl 9 0 y.2.1.2.2.2.2.1 y.2.1.2.2.2.2.2, .sl 10 0 y.2.2.2.2.2.2.1 y.2.2.2.2.2.2.2, a14, a15]⟩, c1, c2, c3, c4, c5, c6, c7, c8,
        ⟨y.2.1.2.1, y.2.1.2.2.1, 1, true, some y.2.1.1, .rows 3 y.2.1.2.2.2.1⟩, ⟨y.2.2.2.1, y.2.2.2.2.1, 1, true, some y.2.2.1, .rows 3 y.2.2.2.2.2.1⟩]
    | _ => [],
  fun y => y.1 ≤ x.n ∧ Gth (numL (freP (skp x) x.n x.Q) y.1) y.2.1 ∧ Gth (numL (dirP (skp x) x.n x.Q f SL) y.1) y.2.2, fun y => x.n - y.1⟩
abbrev plR : List Tk := [.p 0, .p 1, .p 2, .p 3, .p 4, .p 5, .p 6, .e 7, .e 8, .p 9, .p 10, .p 11, .f 12]
set_option maxHeartbeats 64000000 in
theorem rest_ok (x : Cx) (h : x.ok) (v : Nm) (bd : Sq Int) (M : Bm) (clk : Nat) (hM : MSet M clk (badTo x.n x.Q x.n)) (S : Sq Slot) (O : Sq Pl) (SL : List Slot) (hS : Gth SL S) (hSl : SL.length ≤ 536871100) :
    Does (C := C0) Tryd.prog (.fn 29) [chW true x (outS v bd (svL 5 S) (svO 6 O)), chG x, chM true x M clk, chS x, chB bd, chL S, chO O] [.ptr 0 0 0]
    [⟨Sq Int × Sq Int, fun y => Gth (numL (freP (skp x) x.n x.Q) x.n) y.1 ∧ Gth (numL (dirP (skp x) x.n x.Q v.f SL) x.n) y.2, fun _ => .tup [],
      fun y => [chW true x (outR v bd (svL 5 S) (svI 7 y.1) (svI 8 y.2) (svO 6 O)), chG x, chM true x M clk, chS x, chB bd, chL S, chO O, chI y.1, chI y.2]⟩] := by
  obtain ⟨bc, qc, bs, ps, ss, so, sb, sq, sl, sn, sc, bg, qg, R, n, c, bm⟩ := x
  obtain ⟨vs, vt, vb, vf⟩ := v
  obtain ⟨bo, bb, bq, bl, bn, bx⟩ := bd
  obtain ⟨So, Sb, Sq', Sl, Sn, Sc⟩ := S
  obtain ⟨Oo, Ob, Oq, Ol, On, Oc⟩ := O
  have hbs : bs = (n : Int) := h.bs
  have hn : n = R.length := h.n
  have hn64 : n ≤ 64 := h.n64
  have hrok : ∀ r ∈ R, Rok r := h.rok
  have hfew : ∀ r ∈ R, r.l.length < 1000000 := h.few
  have hsk : sn ≤ sl.length ∧ sn < 1000000000 ∧ (so = false → sn = 0 ∧ sc = 0) := h.skip
  have hR := hS.room
  refine loc_fn (P := Tryd.prog) (E := ⟨[], [pcContains, pcHeaded, pcHasa], 95, [(13, [0, 1000001], plR), (15, [0, 1000001], plR)], [fG], []⟩) (L := [R3 SL, R8 ⟨bc, qc, bs, ps, ss, so, sb, sq, sl, sn, sc, bg, qg, R, n, c, bm⟩ vf SL]) mix Tryd.func29 rfl (by kernel_rfl) (by kernel_rfl) rfl rfl ?_
  ((conv => (arg 1; reduce)); with_reducible repeat' (first | exact Tr.yes_h | refine Tr.and_h ?_ ?_ | refine Tr.imp_h fun _ => ?_ | refine Tr.all_h fun _ => ?_ | refine Tr.lf_h ?_))
  all_goals try (first | first | (show Region.lexB _ _ = true; kernel_rfl) | (show planned _ _ = true; kernel_rfl) | exact rfl | exact True.intro | (first | exact key3 | exact zeroB | exact zeroR | exact zeroS | exact ⟨key3, zeroB⟩ | exact ⟨key3, zeroR⟩ | exact ⟨key3, zeroS⟩) | ((try dsimp only [imp, C0, cG, cInt, cPl, cSlot, cPg, gwCodec] at *); (try refine inR64 ?_ ?_) <;> (try simp only [List.length_set, List.length_append, List.length_take, List.length_drop]) <;> omega))
  · refine Stands.one (0, [], 0) ⟨⟨Nat.zero_le _, MSet.nil⟩, ?_⟩
    ((conv => (arg 1; reduce)); with_reducible repeat' (first | exact Tr.yes_h | refine Tr.and_h ?_ ?_ | refine Tr.imp_h fun _ => ?_ | refine Tr.all_h fun _ => ?_ | refine Tr.lf_h ?_))
    all_goals (first | first | (show Region.lexB _ _ = true; kernel_rfl) | (show planned _ _ = true; kernel_rfl) | exact rfl | exact True.intro | (first | exact key3 | exact zeroB | exact zeroR | exact zeroS | exact ⟨key3, zeroB⟩ | exact ⟨key3, zeroR⟩ | exact ⟨key3, zeroS⟩) | ((try dsimp only [imp, C0, cG, cInt, cPl, cSlot, cPg, gwCodec] at *); (try refine inR64 ?_ ?_) <;> (try simp only [List.length_set, List.length_append, List.length_take, List.length_drop]) <;> omega))
  · rename_i u0 u1 x3 h3 h4
    obtain ⟨s3, LM, lc⟩ := x3
    have h3 : s3 ≤ SL.length ∧ MSet LM lc ((SL.take s3).map (fun s => s.pl.1)) := h3
    have h4 : (s3 : Int) < (Sn : Int) := of_decide_eq_true h4
    exact on_of hR.2.2.2 (by omega)
  · rename_i u0 u1 x3 h3 h4
    obtain ⟨s3, LM, lc⟩ := x3
    have h3 : s3 ≤ SL.length ∧ MSet LM lc ((SL.take s3).map (fun s => s.pl.1)) := h3
    have h4 : (s3 : Int) < (Sn : Int) := of_decide_eq_true h4
    exact h4
  · rename_i u0 u1 x3 h3 h4
    obtain ⟨s3, LM, lc⟩ := x3
    have h3 : s3 ≤ SL.length ∧ MSet LM lc ((SL.take s3).map (fun s => s.pl.1)) := h3
    have h4 : (s3 : Int) < (Sn : Int) := of_decide_eq_true h4
    exact on_of hR.2.2.2 (by omega)
  · rename_i u0 u1 x3 h3 h4
    obtain ⟨s3, LM, lc⟩ := x3
    have h3 : s3 ≤ SL.length ∧ MSet LM lc ((SL.take s3).map (fun s => s.pl.1)) := h3
    have h4 : (s3 : Int) < (Sn : Int) := of_decide_eq_true h4
    show s3 < Sl.length
    omega
  · rename_i u0 u1 x3 h3 h4 u2
    obtain ⟨s3, LM, lc⟩ := x3
    have h3 : s3 ≤ SL.length ∧ MSet LM lc ((SL.take s3).map (fun s => s.pl.1)) := h3
    have h4 : (s3 : Int) < (Sn : Int) := of_decide_eq_true h4
    exact inR64 (by show -9223372036854775808 ≤ (s3 : Int) + 1; omega) (by show (s3 : Int) + 1 ≤ 9223372036854775807; omega)
  · rename_i u0 u1 x3 h3 h4 u2
    obtain ⟨s3, LM, lc⟩ := x3
    have h3 : s3 ≤ SL.length ∧ MSet LM lc ((SL.take s3).map (fun s => s.pl.1)) := h3
    have h4 : (s3 : Int) < (Sn : Int) := of_decide_eq_true h4
    have hs : s3 < SL.length := by omega
    have e : Sl.getD s3 slot0 = SL.getD s3 slot0 := hS.at (by omega)
    refine Stands.one (s3 + 1, mput (C0 3) (C0 4) LM (Sl.getD s3 slot0).pl.1 true lc, mclk (C0 3) (C0 4) LM (Sl.getD s3 slot0).pl.1 lc) ⟨⟨by show s3 + 1 ≤ SL.length; omega, ?_⟩, by show SL.length - (s3 + 1) < SL.length - s3; omega, ?_⟩
    · show MSet _ _ ((SL.take (s3 + 1)).map (fun s => s.pl.1))
      rw [take_map_snoc hs, e]
      exact h3.2.put _
    ((conv => (arg 1; reduce)); with_reducible repeat' (first | exact Tr.yes_h | refine Tr.and_h ?_ ?_ | refine Tr.imp_h fun _ => ?_ | refine Tr.all_h fun _ => ?_ | refine Tr.lf_h ?_))
    all_goals (first | first | (show Region.lexB _ _ = true; kernel_rfl) | (show planned _ _ = true; kernel_rfl) | exact rfl | exact True.intro | (first | exact key3 | exact zeroB | exact zeroR | exact zeroS | exact ⟨key3, zeroB⟩ | exact ⟨key3, zeroR⟩ | exact ⟨key3, zeroS⟩) | ((try dsimp only [imp, C0, cG, cInt, cPl, cSlot, cPg, gwCodec] at *); (try refine inR64 ?_ ?_) <;> (try simp only [List.length_set, List.length_append, List.length_take, List.length_drop]) <;> omega))
  · rename_i u0 u1 x3 h3 h4
    refine Stands.one (0, (false, 0, 0, [], 0, 0), (false, 0, 0, [], 0, 0)) ⟨⟨Nat.zero_le _, by show Gth (numL _ 0) _; rw [numL_zero]; exact Gth.nil, by show Gth (numL _ 0) _; rw [numL_zero]; exact Gth.nil⟩, ?_⟩
    ((conv => (arg 1; reduce)); with_reducible repeat' (first | exact Tr.yes_h | refine Tr.and_h ?_ ?_ | refine Tr.imp_h fun _ => ?_ | refine Tr.all_h fun _ => ?_ | refine Tr.lf_h ?_))
    all_goals (first | first | (show Region.lexB _ _ = true; kernel_rfl) | (show planned _ _ = true; kernel_rfl) | exact rfl | exact True.intro | (first | exact key3 | exact zeroB | exact zeroR | exact zeroS | exact ⟨key3, zeroB⟩ | exact ⟨key3, zeroR⟩ | exact ⟨key3, zeroS⟩) | ((try dsimp only [imp, C0, cG, cInt, cPl, cSlot, cPg, gwCodec] at *); (try refine inR64 ?_ ?_) <;> (try simp only [List.length_set, List.length_append, List.length_take, List.length_drop]) <;> omega))
  · rename_i u0 u1 x3 h3 h4 x8 h8 h9
    obtain ⟨s3, LM, lc⟩ := x3
    have h3 : s3 ≤ SL.length ∧ MSet LM lc ((SL.take s3).map (fun s => s.pl.1)) := h3
    have h4 : ¬ (s3 : Int) < (Sn : Int) := of_decide_eq_false h4
    have e3 : s3 = SL.length := by omega
    have hL : MSet LM lc (SL.map (fun s => s.pl.1)) := by
      have := h3.2
      rw [e3, List.take_of_length_le (Nat.le_refl _)] at this
      exact this
    obtain ⟨i, ⟨fo, fb, fq, fl, fn, fc⟩, ⟨do', db, dq, dl, dn, dc⟩⟩ := x8
    have h8 : i ≤ n ∧ Gth (numL (freP (sl.take sn) n (R.map fun r => r.l)) i) (fo, fb, fq, fl, fn, fc) ∧ Gth (numL (dirP (sl.take sn) n (R.map fun r => r.l) vf SL) i) (do', db, dq, dl, dn, dc) := h8
    have h9 : (i : Int) < (n : Int) := of_decide_eq_true h9
    exact h9
  · rename_i u0 u1 x3 h3 h4 x8 h8 h9
    obtain ⟨s3, LM, lc⟩ := x3
    have h3 : s3 ≤ SL.length ∧ MSet LM lc ((SL.take s3).map (fun s => s.pl.1)) := h3
    have h4 : ¬ (s3 : Int) < (Sn : Int) := of_decide_eq_false h4
    have e3 : s3 = SL.length := by omega
    have hL : MSet LM lc (SL.map (fun s => s.pl.1)) := by
      have := h3.2
      rw [e3, List.take_of_length_le (Nat.le_refl _)] at this
      exact this
    obtain ⟨i, ⟨fo, fb, fq, fl, fn, fc⟩, ⟨do', db, dq, dl, dn, dc⟩⟩ := x8
    have h8 : i ≤ n ∧ Gth (numL (freP (sl.take sn) n (R.map fun r => r.l)) i) (fo, fb, fq, fl, fn, fc) ∧ Gth (numL (dirP (sl.take sn) n (R.map fun r => r.l) vf SL) i) (do', db, dq, dl, dn, dc) := h8
    have h9 : (i : Int) < (n : Int) := of_decide_eq_true h9
    show i < R.length
    omega
  · rename_i u0 u1 x3 h3 h4 x8 h8 h9 r hr
    obtain ⟨s3, LM, lc⟩ := x3
    have h3 : s3 ≤ SL.length ∧ MSet LM lc ((SL.take s3).map (fun s => s.pl.1)) := h3
    have h4 : ¬ (s3 : Int) < (Sn : Int) := of_decide_eq_false h4
    have e3 : s3 = SL.length := by omega
    have hL : MSet LM lc (SL.map (fun s => s.pl.1)) := by
      have := h3.2
      rw [e3, List.take_of_length_le (Nat.le_refl _)] at this
      exact this
    obtain ⟨i, ⟨fo, fb, fq, fl, fn, fc⟩, ⟨do', db, dq, dl, dn, dc⟩⟩ := x8
    have h8 : i ≤ n ∧ Gth (numL (freP (sl.take sn) n (R.map fun r => r.l)) i) (fo, fb, fq, fl, fn, fc) ∧ Gth (numL (dirP (sl.take sn) n (R.map fun r => r.l) vf SL) i) (do', db, dq, dl, dn, dc) := h8
    have h9 : (i : Int) < (n : Int) := of_decide_eq_true h9
    change Rw Pg at r
    have hr : R.getD i Rw.nil = r := hr
    have hm : r ∈ R := by rw [← hr]; exact getD_mem (by omega)
    have hk : Rok r := hrok r hm
    have hl : r.l.length < 1000000 := hfew r hm
    have hw : rw (R.map fun r => r.l) i = r.l := by rw [rwR, hr]
    exact ⟨hsk.1, by show sn < 4611686018427387904; omega, hsk.2.2⟩
  · rename_i u0 u1 x3 h3 h4 x8 h8 h9 r hr hob
    obtain ⟨s3, LM, lc⟩ := x3
    have h3 : s3 ≤ SL.length ∧ MSet LM lc ((SL.take s3).map (fun s => s.pl.1)) := h3
    have h4 : ¬ (s3 : Int) < (Sn : Int) := of_decide_eq_false h4
    have e3 : s3 = SL.length := by omega
    have hL : MSet LM lc (SL.map (fun s => s.pl.1)) := by
      have := h3.2
      rw [e3, List.take_of_length_le (Nat.le_refl _)] at this
      exact this
    obtain ⟨i, ⟨fo, fb, fq, fl, fn, fc⟩, ⟨do', db, dq, dl, dn, dc⟩⟩ := x8
    have h8 : i ≤ n ∧ Gth (numL (freP (sl.take sn) n (R.map fun r => r.l)) i) (fo, fb, fq, fl, fn, fc) ∧ Gth (numL (dirP (sl.take sn) n (R.map fun r => r.l) vf SL) i) (do', db, dq, dl, dn, dc) := h8
    have h9 : (i : Int) < (n : Int) := of_decide_eq_true h9
    change Rw Pg at r
    have hr : R.getD i Rw.nil = r := hr
    have hm : r ∈ R := by rw [← hr]; exact getD_mem (by omega)
    have hk : Rok r := hrok r hm
    have hl : r.l.length < 1000000 := hfew r hm
    have hw : rw (R.map fun r => r.l) i = r.l := by rw [rwR, hr]
    exact inR64 (by show -9223372036854775808 ≤ (i : Int) + 1; omega) (by show (i : Int) + 1 ≤ 9223372036854775807; omega)
  · rename_i u0 u1 x3 h3 h4 x8 h8 h9 r hr hob
    obtain ⟨s3, LM, lc⟩ := x3
    have h3 : s3 ≤ SL.length ∧ MSet LM lc ((SL.take s3).map (fun s => s.pl.1)) := h3
    have h4 : ¬ (s3 : Int) < (Sn : Int) := of_decide_eq_false h4
    have e3 : s3 = SL.length := by omega
    have hL : MSet LM lc (SL.map (fun s => s.pl.1)) := by
      have := h3.2
      rw [e3, List.take_of_length_le (Nat.le_refl _)] at this
      exact this
    obtain ⟨i, ⟨fo, fb, fq, fl, fn, fc⟩, ⟨do', db, dq, dl, dn, dc⟩⟩ := x8
    have h8 : i ≤ n ∧ Gth (numL (freP (sl.take sn) n (R.map fun r => r.l)) i) (fo, fb, fq, fl, fn, fc) ∧ Gth (numL (dirP (sl.take sn) n (R.map fun r => r.l) vf SL) i) (do', db, dq, dl, dn, dc) := h8
    have h9 : (i : Int) < (n : Int) := of_decide_eq_true h9
    change Rw Pg at r
    have hr : R.getD i Rw.nil = r := hr
    have hm : r ∈ R := by rw [← hr]; exact getD_mem (by omega)
    have hk : Rok r := hrok r hm
    have hl : r.l.length < 1000000 := hfew r hm
    have hw : rw (R.map fun r => r.l) i = r.l := by rw [rwR, hr]
    have hob : outB (sl.take sn) n (R.map fun r => r.l) i = true := by unfold outB; rw [← hM.get]; exact hob
    have hf : freP (sl.take sn) n (R.map fun r => r.l) i = false := by unfold freP; rw [hob]; rfl
    have hd : dirP (sl.take sn) n (R.map fun r => r.l) vf SL i = false := by unfold dirP; rw [hob]; rfl
    refine Stands.one (i + 1, (fo, fb, fq, fl, fn, fc), (do', db, dq, dl, dn, dc)) ⟨⟨by show i + 1 ≤ n; omega, ?_, ?_⟩, by show n - (i + 1) < n - i; omega, ?_⟩
    · show Gth (numL (freP (sl.take sn) n (R.map fun r => r.l)) (i + 1)) _
      rw [numL_no hf]
      exact h8.2.1
    · show Gth (numL (dirP (sl.take sn) n (R.map fun r => r.l) vf SL) (i + 1)) _
      rw [numL_no hd]
      exact h8.2.2
    ((conv => (arg 1; reduce)); with_reducible repeat' (first | exact Tr.yes_h | refine Tr.and_h ?_ ?_ | refine Tr.imp_h fun _ => ?_ | refine Tr.all_h fun _ => ?_ | refine Tr.lf_h ?_))
    all_goals (first | first | (show Region.lexB _ _ = true; kernel_rfl) | (show planned _ _ = true; kernel_rfl) | exact rfl | exact True.intro | (first | exact key3 | exact zeroB | exact zeroR | exact zeroS | exact ⟨key3, zeroB⟩ | exact ⟨key3, zeroR⟩ | exact ⟨key3, zeroS⟩) | ((try dsimp only [imp, C0, cG, cInt, cPl, cSlot, cPg, gwCodec] at *); (try refine inR64 ?_ ?_) <;> (try simp only [List.length_set, List.length_append, List.length_take, List.length_drop]) <;> omega))
  · rename_i u0 u1 x3 h3 h4 x8 h8 h9 r hr hob hem u2
    obtain ⟨s3, LM, lc⟩ := x3
    have h3 : s3 ≤ SL.length ∧ MSet LM lc ((SL.take s3).map (fun s => s.pl.1)) := h3
    have h4 : ¬ (s3 : Int) < (Sn : Int) := of_decide_eq_false h4
    have e3 : s3 = SL.length := by omega
    have hL : MSet LM lc (SL.map (fun s => s.pl.1)) := by
      have := h3.2
      rw [e3, List.take_of_length_le (Nat.le_refl _)] at this
      exact this
    obtain ⟨i, ⟨fo, fb, fq, fl, fn, fc⟩, ⟨do', db, dq, dl, dn, dc⟩⟩ := x8
    have h8 : i ≤ n ∧ Gth (numL (freP (sl.take sn) n (R.map fun r => r.l)) i) (fo, fb, fq, fl, fn, fc) ∧ Gth (numL (dirP (sl.take sn) n (R.map fun r => r.l) vf SL) i) (do', db, dq, dl, dn, dc) := h8
    have h9 : (i : Int) < (n : Int) := of_decide_eq_true h9
    change Rw Pg at r
    have hr : R.getD i Rw.nil = r := hr
    have hm : r ∈ R := by rw [← hr]; exact getD_mem (by omega)
    have hk : Rok r := hrok r hm
    have hl : r.l.length < 1000000 := hfew r hm
    have hw : rw (R.map fun r => r.l) i = r.l := by rw [rwR, hr]
    have hG := h8.2.1.room
    have hnl := numL_len (p := freP (sl.take sn) n (R.map fun r => r.l)) (i := i)
    have hkn : fn ≤ i := by rw [hG.2.2.1]; exact hnl
    rw [by3]
    exact ⟨hG.1, by show 0 + fc ≤ fl.length; omega, by simp, by show (fn + 1) * 8 ≤ _; omega⟩
  · rename_i u0 u1 x3 h3 h4 x8 h8 h9 r hr hob hem u2
    obtain ⟨s3, LM, lc⟩ := x3
    have h3 : s3 ≤ SL.length ∧ MSet LM lc ((SL.take s3).map (fun s => s.pl.1)) := h3
    have h4 : ¬ (s3 : Int) < (Sn : Int) := of_decide_eq_false h4
    have e3 : s3 = SL.length := by omega
    have hL : MSet LM lc (SL.map (fun s => s.pl.1)) := by
      have := h3.2
      rw [e3, List.take_of_length_le (Nat.le_refl _)] at this
      exact this
    obtain ⟨i, ⟨fo, fb, fq, fl, fn, fc⟩, ⟨do', db, dq, dl, dn, dc⟩⟩ := x8
    have h8 : i ≤ n ∧ Gth (numL (freP (sl.take sn) n (R.map fun r => r.l)) i) (fo, fb, fq, fl, fn, fc) ∧ Gth (numL (dirP (sl.take sn) n (R.map fun r => r.l) vf SL) i) (do', db, dq, dl, dn, dc) := h8
    have h9 : (i : Int) < (n : Int) := of_decide_eq_true h9
    change Rw Pg at r
    have hr : R.getD i Rw.nil = r := hr
    have hm : r ∈ R := by rw [← hr]; exact getD_mem (by omega)
    have hk : Rok r := hrok r hm
    have hl : r.l.length < 1000000 := hfew r hm
    have hw : rw (R.map fun r => r.l) i = r.l := by rw [rwR, hr]
    exact h8.2.1.room.2.2.2
  · rename_i u0 u1 x3 h3 h4 x8 h8 h9 r hr hob hem u2 b9 q9 sp cp hc1 hc2
    obtain ⟨s3, LM, lc⟩ := x3
    have h3 : s3 ≤ SL.length ∧ MSet LM lc ((SL.take s3).map (fun s => s.pl.1)) := h3
    have h4 : ¬ (s3 : Int) < (Sn : Int) := of_decide_eq_false h4
    have e3 : s3 = SL.length := by omega
    have hL : MSet LM lc (SL.map (fun s => s.pl.1)) := by
      have := h3.2
      rw [e3, List.take_of_length_le (Nat.le_refl _)] at this
      exact this
    obtain ⟨i, ⟨fo, fb, fq, fl, fn, fc⟩, ⟨do', db, dq, dl, dn, dc⟩⟩ := x8
    have h8 : i ≤ n ∧ Gth (numL (freP (sl.take sn) n (R.map fun r => r.l)) i) (fo, fb, fq, fl, fn, fc) ∧ Gth (numL (dirP (sl.take sn) n (R.map fun r => r.l) vf SL) i) (do', db, dq, dl, dn, dc) := h8
    have h9 : (i : Int) < (n : Int) := of_decide_eq_true h9
    change Rw Pg at r
    have hr : R.getD i Rw.nil = r := hr
    have hm : r ∈ R := by rw [← hr]; exact getD_mem (by omega)
    have hk : Rok r := hrok r hm
    have hl : r.l.length < 1000000 := hfew r hm
    have hw : rw (R.map fun r => r.l) i = r.l := by rw [rwR, hr]
    exact inR64 (by show -9223372036854775808 ≤ (i : Int) + 1; omega) (by show (i : Int) + 1 ≤ 9223372036854775807; omega)
  · rename_i u0 u1 x3 h3 h4 x8 h8 h9 r hr hob hem u2 b9 q9 sp cp hc1 hc2
    obtain ⟨s3, LM, lc⟩ := x3
    have h3 : s3 ≤ SL.length ∧ MSet LM lc ((SL.take s3).map (fun s => s.pl.1)) := h3
    have h4 : ¬ (s3 : Int) < (Sn : Int) := of_decide_eq_false h4
    have e3 : s3 = SL.length := by omega
    have hL : MSet LM lc (SL.map (fun s => s.pl.1)) := by
      have := h3.2
      rw [e3, List.take_of_length_le (Nat.le_refl _)] at this
      exact this
    obtain ⟨i, ⟨fo, fb, fq, fl, fn, fc⟩, ⟨do', db, dq, dl, dn, dc⟩⟩ := x8
    have h8 : i ≤ n ∧ Gth (numL (freP (sl.take sn) n (R.map fun r => r.l)) i) (fo, fb, fq, fl, fn, fc) ∧ Gth (numL (dirP (sl.take sn) n (R.map fun r => r.l) vf SL) i) (do', db, dq, dl, dn, dc) := h8
    have h9 : (i : Int) < (n : Int) := of_decide_eq_true h9
    change Rw Pg at r
    have hr : R.getD i Rw.nil = r := hr
    have hm : r ∈ R := by rw [← hr]; exact getD_mem (by omega)
    have hk : Rok r := hrok r hm
    have hl : r.l.length < 1000000 := hfew r hm
    have hw : rw (R.map fun r => r.l) i = r.l := by rw [rwR, hr]
    have hob : outB (sl.take sn) n (R.map fun r => r.l) i = false := by unfold outB; rw [← hM.get]; exact hob
    have hem : (r.l.length : Int) = 0 := of_decide_eq_true hem
    have hem : (rw (R.map fun r => r.l) i).length = 0 := by rw [hw]; omega
    have hf : freP (sl.take sn) n (R.map fun r => r.l) i = true := by unfold freP; rw [hob, decide_eq_true hem]; rfl
    have hd : dirP (sl.take sn) n (R.map fun r => r.l) vf SL i = false := by unfold dirP; rw [hob, decide_eq_true hem]; rfl
    refine Stands.one (i + 1, (true, b9, q9, fl.take fn ++ [(i : Int)] ++ sp, fn + 1, cp), (do', db, dq, dl, dn, dc)) ⟨⟨by show i + 1 ≤ n; omega, ?_, ?_⟩, by show n - (i + 1) < n - i; omega, ?_⟩
    · show Gth (numL (freP (sl.take sn) n (R.map fun r => r.l)) (i + 1)) _
      rw [numL_yes hf]
      exact h8.2.1.snoc hc1 hc2
    · show Gth (numL (dirP (sl.take sn) n (R.map fun r => r.l) vf SL) (i + 1)) _
      rw [numL_no hd]
      exact h8.2.2
    ((conv => (arg 1; reduce)); with_reducible repeat' (first | exact Tr.yes_h | refine Tr.and_h ?_ ?_ | refine Tr.imp_h fun _ => ?_ | refine Tr.all_h fun _ => ?_ | refine Tr.lf_h ?_))
    all_goals (first | first | (show Region.lexB _ _ = true; kernel_rfl) | (show planned _ _ = true; kernel_rfl) | exact rfl | exact True.intro | (first | exact key3 | exact zeroB | exact zeroR | exact zeroS | exact ⟨key3, zeroB⟩ | exact ⟨key3, zeroR⟩ | exact ⟨key3, zeroS⟩) | ((try dsimp only [imp, C0, cG, cInt, cPl, cSlot, cPg, gwCodec] at *); (try refine inR64 ?_ ?_) <;> (try simp only [List.length_set, List.length_append, List.length_take, List.length_drop]) <;> omega))
  · rename_i u0 u1 x3 h3 h4 x8 h8 h9 r hr hob hem
    obtain ⟨s3, LM, lc⟩ := x3
    have h3 : s3 ≤ SL.length ∧ MSet LM lc ((SL.take s3).map (fun s => s.pl.1)) := h3
    have h4 : ¬ (s3 : Int) < (Sn : Int) := of_decide_eq_false h4
    have e3 : s3 = SL.length := by omega
    have hL : MSet LM lc (SL.map (fun s => s.pl.1)) := by
      have := h3.2
      rw [e3, List.take_of_length_le (Nat.le_refl _)] at this
      exact this
    obtain ⟨i, ⟨fo, fb, fq, fl, fn, fc⟩, ⟨do', db, dq, dl, dn, dc⟩⟩ := x8
    have h8 : i ≤ n ∧ Gth (numL (freP (sl.take sn) n (R.map fun r => r.l)) i) (fo, fb, fq, fl, fn, fc) ∧ Gth (numL (dirP (sl.take sn) n (R.map fun r => r.l) vf SL) i) (do', db, dq, dl, dn, dc) := h8
    have h9 : (i : Int) < (n : Int) := of_decide_eq_true h9
    change Rw Pg at r
    have hr : R.getD i Rw.nil = r := hr
    have hm : r ∈ R := by rw [← hr]; exact getD_mem (by omega)
    have hk : Rok r := hrok r hm
    have hl : r.l.length < 1000000 := hfew r hm
    have hw : rw (R.map fun r => r.l) i = r.l := by rw [rwR, hr]
    exact ⟨by omega, ⟨by omega, h9⟩, hrok⟩
  · rename_i u0 u1 x3 h3 h4 x8 h8 h9 r hr hob hem hda
    obtain ⟨s3, LM, lc⟩ := x3
    have h3 : s3 ≤ SL.length ∧ MSet LM lc ((SL.take s3).map (fun s => s.pl.1)) := h3
    have h4 : ¬ (s3 : Int) < (Sn : Int) := of_decide_eq_false h4
    have e3 : s3 = SL.length := by omega
    have hL : MSet LM lc (SL.map (fun s => s.pl.1)) := by
      have := h3.2
      rw [e3, List.take_of_length_le (Nat.le_refl _)] at this
      exact this
    obtain ⟨i, ⟨fo, fb, fq, fl, fn, fc⟩, ⟨do', db, dq, dl, dn, dc⟩⟩ := x8
    have h8 : i ≤ n ∧ Gth (numL (freP (sl.take sn) n (R.map fun r => r.l)) i) (fo, fb, fq, fl, fn, fc) ∧ Gth (numL (dirP (sl.take sn) n (R.map fun r => r.l) vf SL) i) (do', db, dq, dl, dn, dc) := h8
    have h9 : (i : Int) < (n : Int) := of_decide_eq_true h9
    change Rw Pg at r
    have hr : R.getD i Rw.nil = r := hr
    have hm : r ∈ R := by rw [← hr]; exact getD_mem (by omega)
    have hk : Rok r := hrok r hm
    have hl : r.l.length < 1000000 := hfew r hm
    have hw : rw (R.map fun r => r.l) i = r.l := by rw [rwR, hr]
    exact ⟨Nat.le_refl _, by show r.l.length < 4611686018427387904; omega, hk.1⟩
  · rename_i u0 u1 x3 h3 h4 x8 h8 h9 r hr hob hem hda u2
    obtain ⟨s3, LM, lc⟩ := x3
    have h3 : s3 ≤ SL.length ∧ MSet LM lc ((SL.take s3).map (fun s => s.pl.1)) := h3
    have h4 : ¬ (s3 : Int) < (Sn : Int) := of_decide_eq_false h4
    have e3 : s3 = SL.length := by omega
    have hL : MSet LM lc (SL.map (fun s => s.pl.1)) := by
      have := h3.2
      rw [e3, List.take_of_length_le (Nat.le_refl _)] at this
      exact this
    obtain ⟨i, ⟨fo, fb, fq, fl, fn, fc⟩, ⟨do', db, dq, dl, dn, dc⟩⟩ := x8
    have h8 : i ≤ n ∧ Gth (numL (freP (sl.take sn) n (R.map fun r => r.l)) i) (fo, fb, fq, fl, fn, fc) ∧ Gth (numL (dirP (sl.take sn) n (R.map fun r => r.l) vf SL) i) (do', db, dq, dl, dn, dc) := h8
    have h9 : (i : Int) < (n : Int) := of_decide_eq_true h9
    change Rw Pg at r
    have hr : R.getD i Rw.nil = r := hr
    have hm : r ∈ R := by rw [← hr]; exact getD_mem (by omega)
    have hk : Rok r := hrok r hm
    have hl : r.l.length < 1000000 := hfew r hm
    have hw : rw (R.map fun r => r.l) i = r.l := by rw [rwR, hr]
    have hG := h8.2.2.room
    have hnl := numL_len (p := dirP (sl.take sn) n (R.map fun r => r.l) vf SL) (i := i)
    have hkn : dn ≤ i := by rw [hG.2.2.1]; exact hnl
    rw [by3]
    exact ⟨hG.1, by show 0 + dc ≤ dl.length; omega, by simp, by show (dn + 1) * 8 ≤ _; omega⟩
  · rename_i u0 u1 x3 h3 h4 x8 h8 h9 r hr hob hem hda u2
    obtain ⟨s3, LM, lc⟩ := x3
    have h3 : s3 ≤ SL.length ∧ MSet LM lc ((SL.take s3).map (fun s => s.pl.1)) := h3
    have h4 : ¬ (s3 : Int) < (Sn : Int) := of_decide_eq_false h4
    have e3 : s3 = SL.length := by omega
    have hL : MSet LM lc (SL.map (fun s => s.pl.1)) := by
      have := h3.2
      rw [e3, List.take_of_length_le (Nat.le_refl _)] at this
      exact this
    obtain ⟨i, ⟨fo, fb, fq, fl, fn, fc⟩, ⟨do', db, dq, dl, dn, dc⟩⟩ := x8
    have h8 : i ≤ n ∧ Gth (numL (freP (sl.take sn) n (R.map fun r => r.l)) i) (fo, fb, fq, fl, fn, fc) ∧ Gth (numL (dirP (sl.take sn) n (R.map fun r => r.l) vf SL) i) (do', db, dq, dl, dn, dc) := h8
    have h9 : (i : Int) < (n : Int) := of_decide_eq_true h9
    change Rw Pg at r
    have hr : R.getD i Rw.nil = r := hr
    have hm : r ∈ R := by rw [← hr]; exact getD_mem (by omega)
    have hk : Rok r := hrok r hm
    have hl : r.l.length < 1000000 := hfew r hm
    have hw : rw (R.map fun r => r.l) i = r.l := by rw [rwR, hr]
    exact h8.2.2.room.2.2.2
  · rename_i u0 u1 x3 h3 h4 x8 h8 h9 r hr hob hem hda u2 b9 q9 sp cp hc1 hc2
    obtain ⟨s3, LM, lc⟩ := x3
    have h3 : s3 ≤ SL.length ∧ MSet LM lc ((SL.take s3).map (fun s => s.pl.1)) := h3
    have h4 : ¬ (s3 : Int) < (Sn : Int) := of_decide_eq_false h4
    have e3 : s3 = SL.length := by omega
    have hL : MSet LM lc (SL.map (fun s => s.pl.1)) := by
      have := h3.2
      rw [e3, List.take_of_length_le (Nat.le_refl _)] at this
      exact this
    obtain ⟨i, ⟨fo, fb, fq, fl, fn, fc⟩, ⟨do', db, dq, dl, dn, dc⟩⟩ := x8
    have h8 : i ≤ n ∧ Gth (numL (freP (sl.take sn) n (R.map fun r => r.l)) i) (fo, fb, fq, fl, fn, fc) ∧ Gth (numL (dirP (sl.take sn) n (R.map fun r => r.l) vf SL) i) (do', db, dq, dl, dn, dc) := h8
    have h9 : (i : Int) < (n : Int) := of_decide_eq_true h9
    change Rw Pg at r
    have hr : R.getD i Rw.nil = r := hr
    have hm : r ∈ R := by rw [← hr]; exact getD_mem (by omega)
    have hk : Rok r := hrok r hm
    have hl : r.l.length < 1000000 := hfew r hm
    have hw : rw (R.map fun r => r.l) i = r.l := by rw [rwR, hr]
    exact inR64 (by show -9223372036854775808 ≤ (i : Int) + 1; omega) (by show (i : Int) + 1 ≤ 9223372036854775807; omega)
  · rename_i u0 u1 x3 h3 h4 x8 h8 h9 r hr hob hem hda u2 b9 q9 sp cp hc1 hc2
    obtain ⟨s3, LM, lc⟩ := x3
    have h3 : s3 ≤ SL.length ∧ MSet LM lc ((SL.take s3).map (fun s => s.pl.1)) := h3
    have h4 : ¬ (s3 : Int) < (Sn : Int) := of_decide_eq_false h4
    have e3 : s3 = SL.length := by omega
    have hL : MSet LM lc (SL.map (fun s => s.pl.1)) := by
      have := h3.2
      rw [e3, List.take_of_length_le (Nat.le_refl _)] at this
      exact this
    obtain ⟨i, ⟨fo, fb, fq, fl, fn, fc⟩, ⟨do', db, dq, dl, dn, dc⟩⟩ := x8
    have h8 : i ≤ n ∧ Gth (numL (freP (sl.take sn) n (R.map fun r => r.l)) i) (fo, fb, fq, fl, fn, fc) ∧ Gth (numL (dirP (sl.take sn) n (R.map fun r => r.l) vf SL) i) (do', db, dq, dl, dn, dc) := h8
    have h9 : (i : Int) < (n : Int) := of_decide_eq_true h9
    change Rw Pg at r
    have hr : R.getD i Rw.nil = r := hr
    have hm : r ∈ R := by rw [← hr]; exact getD_mem (by omega)
    have hk : Rok r := hrok r hm
    have hl : r.l.length < 1000000 := hfew r hm
    have hw : rw (R.map fun r => r.l) i = r.l := by rw [rwR, hr]
    have hob : outB (sl.take sn) n (R.map fun r => r.l) i = false := by unfold outB; rw [← hM.get]; exact hob
    have hem : ¬ (r.l.length : Int) = 0 := of_decide_eq_false hem
    have hem : ¬ (rw (R.map fun r => r.l) i).length = 0 := by rw [hw]; omega
    have hf : freP (sl.take sn) n (R.map fun r => r.l) i = false := by unfold freP; rw [hob, decide_eq_false hem]; rfl
    have hda : (!isHd (i : Int) (R.getD i Rw.nil).l || !mgetB LM (i : Int) || anyF (amP vf) (r.l.take r.l.length)) = true := hda
    have hdd : (!isHd (i : Int) (rw (R.map fun r => r.l) i) || !decide ((i : Int) ∈ SL.map (fun s => s.pl.1)) || anyF (amP vf) (rw (R.map fun r => r.l) i)) = true := by
      rw [rwR, ← hL.get]
      rw [List.take_of_length_le (Nat.le_refl _)] at hda
      rw [← hr] at hda
      exact hda
    have hd : dirP (sl.take sn) n (R.map fun r => r.l) vf SL i = true := by unfold dirP; rw [hob, decide_eq_false hem, hdd]; rfl
    refine Stands.one (i + 1, (fo, fb, fq, fl, fn, fc), (true, b9, q9, dl.take dn ++ [(i : Int)] ++ sp, dn + 1, cp)) ⟨⟨by show i + 1 ≤ n; omega, ?_, ?_⟩, by show n - (i + 1) < n - i; omega, ?_⟩
    · show Gth (numL (freP (sl.take sn) n (R.map fun r => r.l)) (i + 1)) _
      rw [numL_no hf]
      exact h8.2.1
    · show Gth (numL (dirP (sl.take sn) n (R.map fun r => r.l) vf SL) (i + 1)) _
      rw [numL_yes hd]
      exact h8.2.2.snoc hc1 hc2
    ((conv => (arg 1; reduce)); with_reducible repeat' (first | exact Tr.yes_h | refine Tr.and_h ?_ ?_ | refine Tr.imp_h fun _ => ?_ | refine Tr.all_h fun _ => ?_ | refine Tr.lf_h ?_))
    all_goals (first | first | (show Region.lexB _ _ = true; kernel_rfl) | (show planned _ _ = true; kernel_rfl) | exact rfl | exact True.intro | (first | exact key3 | exact zeroB | exact zeroR | exact zeroS | exact ⟨key3, zeroB⟩ | exact ⟨key3, zeroR⟩ | exact ⟨key3, zeroS⟩) | ((try dsimp only [imp, C0, cG, cInt, cPl, cSlot, cPg, gwCodec] at *); (try refine inR64 ?_ ?_) <;> (try simp only [List.length_set, List.length_append, List.length_take, List.length_drop]) <;> omega))
  · rename_i u0 u1 x3 h3 h4 x8 h8 h9 r hr hob hem hda
    obtain ⟨s3, LM, lc⟩ := x3
    have h3 : s3 ≤ SL.length ∧ MSet LM lc ((SL.take s3).map (fun s => s.pl.1)) := h3
    have h4 : ¬ (s3 : Int) < (Sn : Int) := of_decide_eq_false h4
    have e3 : s3 = SL.length := by omega
    have hL : MSet LM lc (SL.map (fun s => s.pl.1)) := by
      have := h3.2
      rw [e3, List.take_of_length_le (Nat.le_refl _)] at this
      exact this
    obtain ⟨i, ⟨fo, fb, fq, fl, fn, fc⟩, ⟨do', db, dq, dl, dn, dc⟩⟩ := x8
    have h8 : i ≤ n ∧ Gth (numL (freP (sl.take sn) n (R.map fun r => r.l)) i) (fo, fb, fq, fl, fn, fc) ∧ Gth (numL (dirP (sl.take sn) n (R.map fun r => r.l) vf SL) i) (do', db, dq, dl, dn, dc) := h8
    have h9 : (i : Int) < (n : Int) := of_decide_eq_true h9
    change Rw Pg at r
    have hr : R.getD i Rw.nil = r := hr
    have hm : r ∈ R := by rw [← hr]; exact getD_mem (by omega)
    have hk : Rok r := hrok r hm
    have hl : r.l.length < 1000000 := hfew r hm
    have hw : rw (R.map fun r => r.l) i = r.l := by rw [rwR, hr]
    exact inR64 (by show -9223372036854775808 ≤ (i : Int) + 1; omega) (by show (i : Int) + 1 ≤ 9223372036854775807; omega)
  · rename_i u0 u1 x3 h3 h4 x8 h8 h9 r hr hob hem hda
    obtain ⟨s3, LM, lc⟩ := x3
    have h3 : s3 ≤ SL.length ∧ MSet LM lc ((SL.take s3).map (fun s => s.pl.1)) := h3
    have h4 : ¬ (s3 : Int) < (Sn : Int) := of_decide_eq_false h4
    have e3 : s3 = SL.length := by omega
    have hL : MSet LM lc (SL.map (fun s => s.pl.1)) := by
      have := h3.2
      rw [e3, List.take_of_length_le (Nat.le_refl _)] at this
      exact this
    obtain ⟨i, ⟨fo, fb, fq, fl, fn, fc⟩, ⟨do', db, dq, dl, dn, dc⟩⟩ := x8
    have h8 : i ≤ n ∧ Gth (numL (freP (sl.take sn) n (R.map fun r => r.l)) i) (fo, fb, fq, fl, fn, fc) ∧ Gth (numL (dirP (sl.take sn) n (R.map fun r => r.l) vf SL) i) (do', db, dq, dl, dn, dc) := h8
    have h9 : (i : Int) < (n : Int) := of_decide_eq_true h9
    change Rw Pg at r
    have hr : R.getD i Rw.nil = r := hr
    have hm : r ∈ R := by rw [← hr]; exact getD_mem (by omega)
    have hk : Rok r := hrok r hm
    have hl : r.l.length < 1000000 := hfew r hm
    have hw : rw (R.map fun r => r.l) i = r.l := by rw [rwR, hr]
    have hob : outB (sl.take sn) n (R.map fun r => r.l) i = false := by unfold outB; rw [← hM.get]; exact hob
    have hem : ¬ (r.l.length : Int) = 0 := of_decide_eq_false hem
    have hem : ¬ (rw (R.map fun r => r.l) i).length = 0 := by rw [hw]; omega
    have hf : freP (sl.take sn) n (R.map fun r => r.l) i = false := by unfold freP; rw [hob, decide_eq_false hem]; rfl
    have hda : (!isHd (i : Int) (R.getD i Rw.nil).l || !mgetB LM (i : Int) || anyF (amP vf) (r.l.take r.l.length)) = false := hda
    have hdd : (!isHd (i : Int) (rw (R.map fun r => r.l) i) || !decide ((i : Int) ∈ SL.map (fun s => s.pl.1)) || anyF (amP vf) (rw (R.map fun r => r.l) i)) = false := by
      rw [rwR, ← hL.get]
      rw [List.take_of_length_le (Nat.le_refl _)] at hda
      rw [← hr] at hda
      exact hda
    have hd : dirP (sl.take sn) n (R.map fun r => r.l) vf SL i = false := by unfold dirP; rw [hob, decide_eq_false hem, hdd]; rfl
    refine Stands.one (i + 1, (fo, fb, fq, fl, fn, fc), (do', db, dq, dl, dn, dc)) ⟨⟨by show i + 1 ≤ n; omega, ?_, ?_⟩, by show n - (i + 1) < n - i; omega, ?_⟩
    · show Gth (numL (freP (sl.take sn) n (R.map fun r => r.l)) (i + 1)) _
      rw [numL_no hf]
      exact h8.2.1
    · show Gth (numL (dirP (sl.take sn) n (R.map fun r => r.l) vf SL) (i + 1)) _
      rw [numL_no hd]
      exact h8.2.2
    ((conv => (arg 1; reduce)); with_reducible repeat' (first | exact Tr.yes_h | refine Tr.and_h ?_ ?_ | refine Tr.imp_h fun _ => ?_ | refine Tr.all_h fun _ => ?_ | refine Tr.lf_h ?_))
    all_goals (first | first | (show Region.lexB _ _ = true; kernel_rfl) | (show planned _ _ = true; kernel_rfl) | exact rfl | exact True.intro | (first | exact key3 | exact zeroB | exact zeroR | exact zeroS | exact ⟨key3, zeroB⟩ | exact ⟨key3, zeroR⟩ | exact ⟨key3, zeroS⟩) | ((try dsimp only [imp, C0, cG, cInt, cPl, cSlot, cPg, gwCodec] at *); (try refine inR64 ?_ ?_) <;> (try simp only [List.length_set, List.length_append, List.length_take, List.length_drop]) <;> omega))
  · rename_i u0 u1 x3 h3 h4 x8 h8 h9
    obtain ⟨s3, LM, lc⟩ := x3
    have h3 : s3 ≤ SL.length ∧ MSet LM lc ((SL.take s3).map (fun s => s.pl.1)) := h3
    have h4 : ¬ (s3 : Int) < (Sn : Int) := of_decide_eq_false h4
    have e3 : s3 = SL.length := by omega
    have hL : MSet LM lc (SL.map (fun s => s.pl.1)) := by
      have := h3.2
      rw [e3, List.take_of_length_le (Nat.le_refl _)] at this
      exact this
    obtain ⟨i, ⟨fo, fb, fq, fl, fn, fc⟩, ⟨do', db, dq, dl, dn, dc⟩⟩ := x8
    have h8 : i ≤ n ∧ Gth (numL (freP (sl.take sn) n (R.map fun r => r.l)) i) (fo, fb, fq, fl, fn, fc) ∧ Gth (numL (dirP (sl.take sn) n (R.map fun r => r.l) vf SL) i) (do', db, dq, dl, dn, dc) := h8
    have h9 : ¬ (i : Int) < (n : Int) := of_decide_eq_false h9
    have e : i = n := by omega
    subst e
    refine Ends.one ((fo, fb, fq, fl, fn, fc), (do', db, dq, dl, dn, dc)) ⟨h8.2.1, h8.2.2⟩ ?_
    ((conv => (arg 1; reduce)); with_reducible repeat' (first | exact Tr.yes_h | refine Tr.and_h ?_ ?_ | refine Tr.imp_h fun _ => ?_ | refine Tr.all_h fun _ => ?_ | refine Tr.lf_h ?_))
    all_goals (first | first | (show Region.lexB _ _ = true; kernel_rfl) | (show planned _ _ = true; kernel_rfl) | exact rfl | exact True.intro | (first | exact key3 | exact zeroB | exact zeroR | exact zeroS | exact ⟨key3, zeroB⟩ | exact ⟨key3, zeroR⟩ | exact ⟨key3, zeroS⟩) | ((try dsimp only [imp, C0, cG, cInt, cPl, cSlot, cPg, gwCodec] at *); (try refine inR64 ?_ ?_) <;> (try simp only [List.length_set, List.length_append, List.length_take, List.length_drop]) <;> omega))
end Go.Vx
set_option maxRecDepth 100000
namespace Go.Vx
open Go Go.Proofs
variable [Gl]
noncomputable def fcNumbers : Fc Tryd.prog C0 where
  tg := .fn 27
  X := Cx
  args := fun _ => [.ptr 0 0 0]
  mem := fun x => [chW true x out0, chG x, chM true x [] 0, chS x]
  pre := fun x => x.ok
  alts := fun x => [⟨Bm × Nat × Sq Int, fun y => MSet y.1 y.2.1 (badTo x.n x.Q x.n) ∧ Gth (badL x.n x.Q) y.2.2, fun _ => .tup [], fun y => numOut x y⟩]
  mat vs m := match vs with
    | [.ptr a _ _] => match nth m a with
      | ⟨bc, qc, _, _, _, .one (.int _ bs :: .int _ ps :: .int _ ss :: .sl s _ sn sc :: .sl g _ n c :: .mp p :: _)⟩ => match nth m g, nth m p, nth m s with
        | ⟨bg, qg, _, _, _, .rows 33 R⟩, ⟨bm, _, _, _, _, .mp 3 4 _ _⟩, ⟨sb, sq, _, _, so, .rows 3 sl⟩ => some (⟨bc, qc, bs, ps, ss, onOf so, sb, sq, sl, sn, sc, bg, qg, R, n, c, bm⟩, [a, g, p, s])
        | _, _, _ => none
      | _ => none
    | _ => none
  ok := fun x h => numbers_ok x h
noncomputable def fcSlots : Fc Tryd.prog C0 where
  tg := .fn 28
  X := Cx × Nm × Sq Int × Bm × Nat
  args := fun _ => [.ptr 0 0 0]
  mem := fun (x, v, bd, M, clk) => [chW true x (outS v bd .nils .nils), chG x, chM true x M clk, chS x, chB bd]
  pre := fun (x, v, bd, M, clk) => x.ok ∧ MSet M clk (badTo x.n x.Q x.n)
  alts := fun (x, v, bd, M, clk) => [⟨Sq Slot × Sq Pl, fun y => Gth (sloL (geo x) v.f (cTo x x.n) (keyL (geo x) (cTo x x.n))) y.1 ∧ Gth (orfL v.f (cTo x x.n)) y.2, fun _ => .tup [], fun y => sloO x v bd M clk y⟩]
  mat vs m := match vs with
    | [.ptr a _ _] => match nth m a with
      | ⟨bc, qc, _, _, _, .one [.int _ bs, .int _ ps, .int _ ss, .sl s _ sn sc, .sl g _ n c, .mp p, _, .int _ v1, .int _ v2, .int _ v3, .int _ v4, _, _, .sl b _ bn bx, _]⟩ => match nth m g, nth m p, nth m s, nth m b with
        | ⟨bg, qg, _, _, _, .rows 33 R⟩, ⟨bm, _, _, _, _, .mp 3 4 M clk⟩, ⟨sb, sq, _, _, so, .rows 3 sl⟩, ⟨bb, bq, _, _, bo, .rows 3 bl⟩ => some ((⟨bc, qc, bs, ps, ss, onOf so, sb, sq, sl, sn, sc, bg, qg, R, n, c, bm⟩, ⟨v1, v2, v3, v4⟩, (onOf bo, bb, bq, bl, bn, bx), M, clk), [a, g, p, s, b])
        | _, _, _, _ => none
      | _ => none
    | _ => none
  ok := fun (x, v, bd, M, clk) h => slots_ok x h.1 v bd M clk h.2
noncomputable def fcRest : Fc Tryd.prog C0 where
  tg := .fn 29
  X := Cx × Nm × Sq Int × Bm × Nat × Sq Slot × Sq Pl
  args := fun _ => [.ptr 0 0 0]
  mem := fun (x, v, bd, M, clk, S, O) => [chW true x (outS v bd (svL 5 S) (svO 6 O)), chG x, chM true x M clk, chS x, chB bd, chL S, chO O]
  pre := fun (x, v, bd, M, clk, S, O) => x.ok ∧ MSet M clk (badTo x.n x.Q x.n) ∧ Gth (S.2.2.2.1.take S.2.2.2.2.1) S ∧ (S.2.2.2.1.take S.2.2.2.2.1).length ≤ 536871100
  alts := fun (x, v, bd, M, clk, S, O) => [⟨Sq Int × Sq Int, fun y => Gth (numL (freP (skp x) x.n x.Q) x.n) y.1 ∧ Gth (numL (dirP (skp x) x.n x.Q v.f (S.2.2.2.1.take S.2.2.2.2.1)) x.n) y.2, fun _ => .tup [],
      fun y => [chW true x (outR v bd (svL 5 S) (svI 7 y.1) (svI 8 y.2) (svO 6 O)), chG x, chM true x M clk, chS x, chB bd, chL S, chO O, chI y.1, chI y.2]⟩]
  mat vs m := match vs with
    | [.ptr a _ _] => match nth m a with
      | ⟨bc, qc, _, _, _, .one [.int _ bs, .int _ ps, .int _ ss, .sl s _ sn sc, .sl g _ n c, .mp p, .sl u _ un uc, .int _ v1, .int _ v2, .int _ v3, .int _ v4, _, _, .sl b _ bn bx, .sl w _ wn wc]⟩ => match nth m g, nth m p, nth m s, nth m b with
        | ⟨bg, qg, _, _, _, .rows 33 R⟩, ⟨bm, _, _, _, _, .mp 3 4 M clk⟩, ⟨sb, sq, _, _, so, .rows 3 sl⟩, ⟨bb, bq, _, _, bo, .rows 3 bl⟩ => match nth m u, nth m w with
          | ⟨ub, uq, _, _, uo, .rows 40 ul⟩, ⟨wb, wq, _, _, wo, .rows 36 wl⟩ => some ((⟨bc, qc, bs, ps, ss, onOf so, sb, sq, sl, sn, sc, bg, qg, R, n, c, bm⟩, ⟨v1, v2, v3, v4⟩, (onOf bo, bb, bq, bl, bn, bx), M, clk, (onOf uo, ub, uq, ul, un, uc), (onOf wo, wb, wq, wl, wn, wc)), [a, g, p, s, b, u, w])
          | _, _ => none
        | _, _, _, _ => none
      | _ => none
    | _ => none
  ok := fun (x, v, bd, M, clk, S, O) h => rest_ok x h.1 v bd M clk h.2.1 S O _ h.2.2.1 h.2.2.2
end Go.Vx
set_option maxRecDepth 100000
namespace Go.Vx
open Go Go.Proofs
variable [Gl]
def isB (b : Nat) (p : Pg) : Bool := decide (p.pl.1 = (b : Int)) && !decide (p.cl = 2)
@[irreducible] def blkL (L : List Pg) (b : Nat) : List Pg := L.filter (isB b)
section
variable {L : List Pg} {p : Pg} {b : Nat}
theorem blkL_yes (h : isB b p = true) : blkL (L ++ [p]) b = blkL L b ++ [p] := by
  unfold blkL
  rw [List.filter_append, List.filter_cons_of_pos h, List.filter_nil]
theorem blkL_no (h : isB b p = false) : blkL (L ++ [p]) b = blkL L b := by
  unfold blkL
  rw [List.filter_append, List.filter_cons_of_neg (by rw [h]; exact Bool.false_ne_true), List.filter_nil, List.append_nil]
theorem blkL_nil : blkL [] b = [] := by unfold blkL; rfl
theorem blkL_len : (blkL L b).length ≤ L.length := by unfold blkL; exact List.length_filter_le _ _
end
@[irreducible] def gridL (n : Nat) (L : List Pg) : List (List Pg) := (List.range n).map fun b => blkL L b
theorem gridL_at {n : Nat} {L : List Pg} {b : Nat} (h : b < n) : rw (gridL n L) b = blkL L b := by
  unfold gridL rw
  rw [List.getD_eq_getElem?_getD, List.getElem?_map, List.getElem?_range h]; rfl
theorem gridL_len {n : Nat} {L : List Pg} : (gridL n L).length = n := by unfold gridL; simp
structure GOK (n : Nat) (so : Bool) (sb : Nat) (lo : Bool) (lb : Nat) (L : List Pg) (R : List (Rw Pg)) : Prop where
  len : R.length = n
  row : ∀ b, b < n → (R.getD b Rw.nil).l = blkL L b
  rok : ∀ b, b < n → ((R.getD b Rw.nil).on = false → (R.getD b Rw.nil).l.length = 0 ∧ (R.getD b Rw.nil).m = 0) ∧ (R.getD b Rw.nil).l.length ≤ (R.getD b Rw.nil).m
  far : ∀ b, b < n → (R.getD b Rw.nil).on = true → (so = true → (R.getD b Rw.nil).b ≠ sb) ∧ (lo = true → (R.getD b Rw.nil).b ≠ lb)
  two : ∀ a b, a < n → b < n → a ≠ b → (R.getD a Rw.nil).on = true → (R.getD b Rw.nil).on = true → (R.getD a Rw.nil).b ≠ (R.getD b Rw.nil).b
theorem getD_repl (n b : Nat) : (List.replicate n (Rw.nil : Rw Pg)).getD b Rw.nil = Rw.nil := by
  rw [List.getD_eq_getElem?_getD]
  by_cases h : b < n
  · rw [List.getElem?_replicate, if_pos h]; rfl
  · rw [List.getElem?_eq_none (by simp; omega)]; rfl
theorem getD_put {R : List (Rw Pg)} {a b : Nat} {r : Rw Pg} (h : a < R.length) : (R.set a r).getD b Rw.nil = if a = b then r else R.getD b Rw.nil := by
  rw [List.getD_eq_getElem?_getD, List.getD_eq_getElem?_getD, List.getElem?_set]
  by_cases e : a = b
  · rw [if_pos e, if_pos h, if_pos e]; rfl
  · rw [if_neg e, if_neg e]
section
variable {n : Nat} {so lo : Bool} {sb lb : Nat} {L : List Pg} {R : List (Rw Pg)}
theorem GOK.nil : GOK n so sb lo lb [] (List.replicate n Rw.nil) := by
  refine ⟨by simp, fun b _ => ?_, fun b _ => ?_, fun b _ h => ?_, fun a b _ _ _ h => ?_⟩
  · rw [getD_repl, blkL_nil]; rfl
  · rw [getD_repl]; exact ⟨fun _ => ⟨rfl, rfl⟩, Nat.le_refl _⟩
  · rw [getD_repl] at h; cases h
  · rw [getD_repl] at h; cases h
theorem GOK.no (h : GOK n so sb lo lb L R) {p : Pg} (hp : p.cl = 2) : GOK n so sb lo lb (L ++ [p]) R :=
  ⟨h.len, fun b hb => by rw [blkL_no (by unfold isB; rw [decide_eq_true hp]; simp)]; exact h.row b hb, h.rok, h.far, h.two⟩
theorem GOK.put (h : GOK n so sb lo lb L R) {p : Pg} {a : Nat} (ha : a < n) (hpa : p.pl.1 = (a : Int)) (hp : ¬ p.cl = 2) {b q c : Nat} (hc : (blkL L a).length + 1 ≤ c)
    (hb : ((R.getD a Rw.nil).on = true ∧ b = (R.getD a Rw.nil).b) ∨ ((so = true → b ≠ sb) ∧ (lo = true → b ≠ lb) ∧ ∀ r ∈ R, b ∉ r.blks)) :
    GOK n so sb lo lb (L ++ [p]) (R.set a ⟨true, b, q, c, blkL L a ++ [p]⟩) := by
  have hla : a < R.length := by rw [h.len]; exact ha
  have hfar : ((so = true → b ≠ sb) ∧ (lo = true → b ≠ lb)) ∧ ∀ j, j < n → j ≠ a → (R.getD j Rw.nil).on = true → (R.getD j Rw.nil).b ≠ b := by
    rcases hb with ⟨h1, rfl⟩ | ⟨h1, h2, h3⟩
    · exact ⟨h.far a ha h1, fun j hj hja hon => h.two j a hj ha hja hon h1⟩
    · refine ⟨⟨h1, h2⟩, fun j hj _ hon e => h3 (R.getD j Rw.nil) (getD_mem (by rw [h.len]; exact hj)) ?_⟩
      unfold Rw.blks
      rw [hon]; exact List.mem_singleton.2 e.symm
  have hya : isB a p = true := by unfold isB; rw [decide_eq_true hpa, decide_eq_false hp]; rfl
  have hno : ∀ j, j ≠ a → isB j p = false := by
    intro j hj
    unfold isB
    rw [decide_eq_false (fun e => hj (by rw [hpa] at e; exact (Int.ofNat.inj e).symm))]; rfl
  refine ⟨by rw [List.length_set]; exact h.len, fun j hj => ?_, fun j hj => ?_, fun j hj hon => ?_, fun i j hi hj hij hon hon' => ?_⟩
  · rw [getD_put hla]
    split
    · rename_i e; subst e; rw [blkL_yes hya]
    · rename_i e; rw [blkL_no (hno j (Ne.symm e))]; exact h.row j hj
  · rw [getD_put hla]
    split
    · exact ⟨fun h => (by cases h), by show (_ ++ [p]).length ≤ c; simp; omega⟩
    · exact h.rok j hj
  · rw [getD_put hla] at hon ⊢
    split
    · exact hfar.1
    · rename_i e; rw [if_neg e] at hon; exact h.far j hj hon
  · rw [getD_put hla] at hon hon' ⊢
    rw [getD_put hla]
    by_cases ei : a = i
    · rw [if_pos ei]
      rw [if_neg (fun e => hij (ei.symm.trans e))] at hon' ⊢
      exact Ne.symm (hfar.2 j hj (fun e => hij (ei.symm.trans e.symm)) hon')
    · rw [if_neg ei] at hon ⊢
      by_cases ej : a = j
      · rw [if_pos ej]; exact hfar.2 i hi (Ne.symm ei) hon
      · rw [if_neg ej] at hon' ⊢; exact h.two i j hi hj hij hon hon'
theorem GOK.mem (h : GOK n so sb lo lb L R) (hl : L.length < 1000000) : ∀ r ∈ R, Rok r ∧ r.l.length < 1000000 := by
  intro r hr
  obtain ⟨b, hb, rfl⟩ := List.getElem_of_mem hr
  have hbn : b < n := by rw [← h.len]; exact hb
  have e : R.getD b Rw.nil = R[b] := by rw [List.getD_eq_getElem?_getD, List.getElem?_eq_getElem hb]; rfl
  have h1 := h.rok b hbn
  have h2 := h.row b hbn
  rw [e] at h1 h2
  have h3 : R[b].l.length ≤ L.length := by rw [h2]; exact blkL_len
  exact ⟨⟨h1.1, h1.2, by omega⟩, by omega⟩
theorem GOK.grid (h : GOK n so sb lo lb L R) : (R.map fun r => r.l) = gridL n L := by
  refine List.ext_getElem (by rw [List.length_map, h.len, gridL_len]) fun b h1 h2 => ?_
  rw [List.length_map] at h1
  have hbn : b < n := by rw [← h.len]; exact h1
  have e : R.getD b Rw.nil = R[b] := by rw [List.getD_eq_getElem?_getD, List.getElem?_eq_getElem h1]; rfl
  have h3 := gridL_at (L := L) hbn
  unfold rw at h3
  rw [List.getD_eq_getElem?_getD, List.getElem?_eq_getElem h2] at h3
  rw [List.getElem_map, ← e, h.row b hbn]
  exact h3.symm
theorem GOK.excl (h : GOK n so sb lo lb L R) {a : Nat} (ha : a < n) (hon : (R.getD a Rw.nil).on = true) : ∀ j, j < R.length → j ≠ a → (R.getD a Rw.nil).b ∉ (R.getD j Rw.nil).blks := by
  intro j hj hja hb
  unfold Rw.blks at hb
  cases ho : (R.getD j Rw.nil).on with
  | false => rw [ho] at hb; cases hb
  | true =>
    rw [ho] at hb
    exact h.two a j ha (by rw [← h.len]; exact hj) (Ne.symm hja) hon ho (List.mem_singleton.1 hb)
end
def pgBad (bs ps : Int) (sk : List Int) (L : List Pg) (i : Nat) : Bool :=
  !(decide (0 ≤ (L.getD i pg0).pl.1) && decide ((L.getD i pg0).pl.1 < bs) && decide (0 ≤ (L.getD i pg0).pl.2) && decide ((L.getD i pg0).pl.2 < ps))
  || (decide (0 < (i : Int)) && decide (0 ≤ plc (L.getD (i - 1) pg0).pl (L.getD i pg0).pl)) || anyF (eqI (L.getD i pg0).pl.1) sk || decide ((L.getD i pg0).cl < 1) || decide (3 < (L.getD i pg0).cl)
theorem pgBad_no {bs ps : Int} {sk : List Int} {L : List Pg} {i : Nat} (h : pgBad bs ps sk L i = false) :
    0 ≤ (L.getD i pg0).pl.1 ∧ (L.getD i pg0).pl.1 < bs ∧ 0 ≤ (L.getD i pg0).pl.2 ∧ (L.getD i pg0).pl.2 < ps ∧ (0 < i → plLt (L.getD (i - 1) pg0).pl (L.getD i pg0).pl) ∧ anyF (eqI (L.getD i pg0).pl.1) sk = false ∧ 1 ≤ (L.getD i pg0).cl ∧ (L.getD i pg0).cl ≤ 3 := by
  unfold pgBad at h
  simp only [Bool.or_eq_false_iff, Bool.not_eq_false', Bool.and_eq_true, decide_eq_true_eq, decide_eq_false_iff_not, Bool.and_eq_false_iff] at h
  obtain ⟨⟨⟨⟨⟨⟨⟨h1, h2⟩, h3⟩, h4⟩, h5⟩, h6⟩, h7⟩, h8⟩ := h
  refine ⟨h1, h2, h3, h4, fun hi => ?_, h6, by omega, by omega⟩
  rcases h5 with h5 | h5
  · omega
  · exact plc_lt.1 (by omega)
def nmOf (n : Nat) (Q : List (List Pg)) : Nm := ⟨fTo (mxH Me.seq) allF Q n, fTo (mxH Me.stamp) allF Q n, max (fTo (mxH Me.batch) allF Q n) (fTo flH (cntF n Q) Q n), fTo flH (cntF n Q) Q n⟩
def cntP (n : Nat) (Q : List (List Pg)) : List Pg := pgsTo (cntF n Q) Q n
def sloS (g : Geo) (n : Nat) (Q : List (List Pg)) : List Slot := sloL g (nmOf n Q).f (cntP n Q) (keyL g (cntP n Q))
def freS (sk : List Int) (n : Nat) (Q : List (List Pg)) : List Int := numL (freP sk n Q) n
def dirS (g : Geo) (sk : List Int) (n : Nat) (Q : List (List Pg)) : List Int := numL (dirP sk n Q (nmOf n Q).f (sloS g n Q)) n
def orfS (n : Nat) (Q : List (List Pg)) : List Pl := orfL (nmOf n Q).f (cntP n Q)
end Go.Vx
