/-
  Round 23: two parts of a slice of pages, each in order, are laid into one.
  Round 23: slices.SortStableFunc of pages.
  Round 23: numbers az four bytes, laid and read.
  Round 23: numbers are read; bytes are compared.
  Round 23: what is the same.
  Round 23: numbers that may be; a block of a number; a record that may be.
  Round 23: a record that may be: its fields one after another.
  Round 23: lists that are the same.
  Round 23: a fair point; points that are the same.
  Round 23: the order of the regions of made (the print of tools/bigplan.py).
  Round 23: a point for the program, and back.
  Round 23: slices.SortStableFunc of pages; a point's pages.
  Round 23: the order of the regions of back (the print of tools/bigplan.py).
  Round 23: a point back, az the document has it.
  Round 23: the order of a region of checkpoint.May (the print of tools/bigplan.py).
  Round 23: the order of a region of checkpoint.May (the print of tools/bigplan.py).
  Conditions: none.
-/
import Derived.Test.YtmdnpfocihfkdaaDoorM4
open Array renaming length_toList → rh, replicate → xw
open Bool renaming and_eq_true → zx, noConfusion → xf, or_eq_false_iff → yi, or_eq_true → yr
open Int renaming le_refl → ui
open List renaming all_eq_true → vg, append_assoc → zm, append_nil → zk, filterMap_append → ve, filterMap_cons → pw, filterMap_nil → sy, getD_eq_getElem?_getD → zz, getElem?_drop → xp, getElem?_eq_getElem → zv, getElem?_take → vd, getElem?_take_of_lt → xy, length → vn, length_append → zw, length_drop → zj, length_filterMap_le → wu, length_map → zt, length_set → xc, length_take → zp, map_append → yy, map_cons → ym, mem_cons_of_mem → zg, mem_cons_self → xj, mem_take_iff_getElem → uz, take_add_one → tx, take_append_drop → zc, take_append_of_le_length → yh, take_of_length_le → zu
open Nat renaming add_comm → sx, beq → zo, le_refl → zy, lt_of_le_of_lt → yp, mul_assoc → wv, mul_comm → yx, mul_le_mul_right → zd, not_lt_zero → ue, succ_mul → yk, zero_le → zn, zero_mul → vp
open Option renaming getD_some → zb
set_option linter.unusedVariables false
set_option linter.unusedSimpArgs false
set_option linter.unusedSectionVars false
set_option maxRecDepth 100000
namespace Go.Vx
open Go Go.Proofs
variable [Gl]
abbrev SymDo (o : Bool) (b q : Nat) (l : List Pg) (n c a m e : Nat) : Prop :=
 Does (C := C0) Tryd.prog (.fn 92) [⟨b, q, 9, true, some o, .rows 70 l⟩] [.sl 0 0 n c, .int .i64 (a : Int), .int .i64 (m : Int), .int .i64 (e : Int), fnC]
  [⟨List Pg, fun W => W.Perm (seg l a e) ∧ Srd ltP W, fun _ => .tup [], fun W => [⟨b, q, 9, true, some o, .rows 70 (l.take a ++ W ++ l.drop e)⟩]⟩]
noncomputable def fcSym (N : Nat) (ih : ∀ o b q l n c a m e, SyP o l n a m e → e - a ≤ N → SymDo o b q l n c a m e) : Fc Tryd.prog C0 where
 tg := .fn 92
 X := Bool × Nat × Nat × List Pg × Nat × Nat × Int × Int × Int
 args := fun (o, b, q, l, n, c, i, j, k) => [.sl 0 0 n c, .int .i64 i, .int .i64 j, .int .i64 k, fnC]
 mem := fun (o, b, q, l, n, c, i, j, k) => [⟨b, q, 9, true, some o, .rows 70 l⟩]
 pre := fun (o, b, q, l, n, c, i, j, k) => 0 ≤ i ∧ 0 ≤ j ∧ 0 ≤ k ∧ SyP o l n i.toNat j.toNat k.toNat ∧ k.toNat - i.toNat ≤ N
 alts := fun (o, b, q, l, n, c, i, j, k) => [⟨List Pg, fun W => W.Perm (seg l i.toNat k.toNat) ∧ Srd ltP W, fun _ => .tup [], fun W => [⟨b, q, 9, true, some o, .rows 70 (l.take i.toNat ++ W ++ l.drop k.toNat)⟩]⟩]
 mat vs m := match vs with
  | [.sl a 0 n c, .int _ i, .int _ j, .int _ k, .fn (.func 50) _ _] => match nth m a with
    | ⟨b, q, _, _, g, .rows 70 l⟩ => some ((onOf g, b, q, l, n, c, i, j, k), [a])
    | _ => none
  | _ => none
 ok := fun (o, b, q, l, n, c, i, j, k) ⟨h1, h2, h3, h4, h5⟩ => by
  have := ih o b q l n c i.toNat j.toNat k.toNat h4 h5
  have e1 : ((i.toNat : Nat) : Int) = i := by omega
  have e2 : ((j.toNat : Nat) : Int) = j := by omega
  have e3 : ((k.toNat : Nat) : Int) = k := by omega
  unfold SymDo at this
  rw [e1, e2, e3] at this
  exact this
set_option maxHeartbeats 16000000 in
theorem sym_step (N : Nat) (ih : ∀ o b q l n c a m e, SyP o l n a m e → e - a ≤ N → SymDo o b q l n c a m e) (o : Bool) (b q : Nat) (l : List Pg) (n c a m e : Nat) (H : SyP o l n a m e) (hN : e - a ≤ N + 1) : SymDo o b q l n c a m e := by
 have H' := H
 obtain ⟨h, hn, ho, h1, h2, h3, hU, hV, hP⟩ := H
 refine loc_fn (P := Tryd.prog) (E := ⟨[fcRotate, fcSym N ih], [pcCmpP], 220, [(11, [], symB), (23, [], symC)], [], []⟩) (L := [M3 l a m e, M9 b q o l a, M15 l a m e, M21 b q o l m, J32 a m e, M33 l a m e, J41 b q o l a m e, J43 b q o l a m e]) mix Tryd.func92 rfl (by kernel_rfl) (by kernel_rfl) rfl rfl ?_
 ((conv => arg 1; reduce); with_reducible repeat' first | exact ty | refine ta ?_ ?_ | refine ti fun _ => ?_ | refine tf fun _ => ?_ | refine tl ?_)
 all_goals try (first | exact symB_ok _ rfl | exact symC_ok _ rfl | exact vlf)
 · rename_i d0
   have d0 : (m : Int) - (a : Int) = 1 := ow d0
   refine Stands.one (m, e) ⟨⟨zy _, by show m ≤ e; omega, zy _, fun k k1 k2 => absurd k2 (by show ¬ k < m; omega), fun k k1 k2 => absurd k1 (by show ¬ e ≤ k; omega)⟩, ?_⟩
   exact vgo
 iterate 10 (
  focus
  rename_i d0 y hy d1
  obtain ⟨i, j⟩ := y
  obtain ⟨y1, y2, y3, y4, y5⟩ := hy
  change m ≤ i at y1
  change i ≤ j at y2
  change j ≤ e at y3
  change ∀ k, m ≤ k → k < i → lp l k a = true at y4
  change ∀ k, j ≤ k → k < e → lp l k a = false at y5
  have d0 : (m : Int) - (a : Int) = 1 := ow d0
  have d1 : (i : Int) < (j : Int) := ow d1
  have ec := mid_is (x := i) (y := j) (by omega)
  have e9 : (ishr .u64 (IntKind.u64.wrap ((i : Int) + (j : Int))) 1).toNat + 0 = (i + j) / 2 := by rw [ec]; rfl
  first
   | (exact on_n ho (by omega); done)
   | (exact inR64 (by show -9223372036854775808 ≤ (i : Int) + (j : Int); omega) (by show (i : Int) + (j : Int) ≤ 9223372036854775807; omega); done)
   | (show inR .i64 (ishr .u64 (IntKind.u64.wrap ((i : Int) + (j : Int))) 1); rw [ec]; exact inR64 (by omega) (by omega); done)
   | (show 0 ≤ ishr .u64 (IntKind.u64.wrap ((i : Int) + (j : Int))) 1; rw [ec]; omega; done)
   | (show ishr .u64 (IntKind.u64.wrap ((i : Int) + (j : Int))) 1 < (n : Int); rw [ec]; omega; done)
   | (show (ishr .u64 (IntKind.u64.wrap ((i : Int) + (j : Int))) 1).toNat + 0 < l.length; rw [e9]; omega; done)
   | (have p1 : Pin (l.getD ((i + j) / 2) pgZ) := pin_ix (x := a) (y := e) hP (by omega) (by omega) (by omega); have p2 : Pin (l.getD a pgZ) := pin_ix (x := a) (y := e) hP (by omega) (by omega) (by omega); rw [← e9] at p1; exact ⟨p1, p2⟩; done))
 iterate 3 (
  focus
  rename_i d0 y hy d1 d2
  obtain ⟨i, j⟩ := y
  obtain ⟨y1, y2, y3, y4, y5⟩ := hy
  change m ≤ i at y1
  change i ≤ j at y2
  change j ≤ e at y3
  change ∀ k, m ≤ k → k < i → lp l k a = true at y4
  change ∀ k, j ≤ k → k < e → lp l k a = false at y5
  have d0 : (m : Int) - (a : Int) = 1 := ow d0
  have d1 : (i : Int) < (j : Int) := ow d1
  have ec := mid_is (x := i) (y := j) (by omega)
  have e9 : (ishr .u64 (IntKind.u64.wrap ((i : Int) + (j : Int))) 1).toNat + 0 = (i + j) / 2 := by rw [ec]; rfl
  first
   | (show inR .i64 (ishr .u64 (IntKind.u64.wrap ((i : Int) + (j : Int))) 1 + 1)
      rw [ec]
      exact inR64 (by omega) (by omega)
      done)
   | (have d2 : decide (cfP (l.getD ((ishr .u64 (IntKind.u64.wrap ((i : Int) + (j : Int))) 1).toNat + 0) pgZ) (l.getD a pgZ) < 0) = true := d2
      rw [e9, cfP_lt] at d2
      refine Stands.one ((i + j) / 2 + 1, j) ⟨⟨by show m ≤ (i + j) / 2 + 1; omega, by show (i + j) / 2 + 1 ≤ j; omega, y3, ?_, y5⟩, by show j - ((i + j) / 2 + 1) < j - i; omega, ?_⟩
      · intro k k1 k2
        change k < (i + j) / 2 + 1 at k2
        exact wk_lt d2 (srd_ix hV (by omega) k1 (by omega) (by omega))
      ((conv => arg 1; reduce); with_reducible repeat' first | exact ty | refine ta ?_ ?_ | refine ti fun _ => ?_ | refine tf fun _ => ?_ | refine tl ?_)
      all_goals first | exact vlf | (show ishr .u64 (IntKind.u64.wrap ((i : Int) + (j : Int))) 1 + 1 = (((i + j) / 2 + 1 : Nat) : Int); rw [ec]; omega) | (show ishr .u64 (IntKind.u64.wrap ((i : Int) + (j : Int))) 1 = (((i + j) / 2 : Nat) : Int); rw [ec])
      done)
   | (have d2 : decide (cfP (l.getD ((ishr .u64 (IntKind.u64.wrap ((i : Int) + (j : Int))) 1).toNat + 0) pgZ) (l.getD a pgZ) < 0) = false := d2
      rw [e9, cfP_lt] at d2
      refine Stands.one (i, (i + j) / 2) ⟨⟨y1, by show i ≤ (i + j) / 2; omega, by show (i + j) / 2 ≤ e; omega, y4, ?_⟩, by show (i + j) / 2 - i < j - i; omega, ?_⟩
      · intro k k1 k2
        change (i + j) / 2 ≤ k at k1
        exact wkP.tr d2 (srd_ix hV (by omega) (by omega) k1 k2)
      ((conv => arg 1; reduce); with_reducible repeat' first | exact ty | refine ta ?_ ?_ | refine ti fun _ => ?_ | refine tf fun _ => ?_ | refine tl ?_)
      all_goals first | exact vlf | (show ishr .u64 (IntKind.u64.wrap ((i : Int) + (j : Int))) 1 + 1 = (((i + j) / 2 + 1 : Nat) : Int); rw [ec]; omega) | (show ishr .u64 (IntKind.u64.wrap ((i : Int) + (j : Int))) 1 = (((i + j) / 2 : Nat) : Int); rw [ec])
      done))
 · rename_i d0 y hy d1
   obtain ⟨i, j⟩ := y
   obtain ⟨y1, y2, y3, y4, y5⟩ := hy
   change m ≤ i at y1
   change i ≤ j at y2
   change j ≤ e at y3
   change ∀ k, m ≤ k → k < i → lp l k a = true at y4
   change ∀ k, j ≤ k → k < e → lp l k a = false at y5
   have d0 : (m : Int) - (a : Int) = 1 := ow d0
   refine Stands.one (i, a) ⟨⟨zy _, by show a + 1 ≤ i; omega⟩, ?_⟩
   ((conv => arg 1; reduce); with_reducible repeat' first | exact ty | refine ta ?_ ?_ | refine ti fun _ => ?_ | refine tf fun _ => ?_ | refine tl ?_)
   all_goals first | exact vlf | exact mv_a (by omega) | exact (mv_a (by omega)).symm
 · rename_i d0 y hy d1 w hw k0
   obtain ⟨i, j⟩ := y
   obtain ⟨y1, y2, y3, y4, y5⟩ := hy
   change m ≤ i at y1
   change i ≤ j at y2
   change j ≤ e at y3
   change ∀ k, m ≤ k → k < i → lp l k a = true at y4
   change ∀ k, j ≤ k → k < e → lp l k a = false at y5
   have d0 : (m : Int) - (a : Int) = 1 := ow d0
   obtain ⟨i', k⟩ := w
   obtain ⟨w1, w2⟩ := hw
   change a ≤ k at w1
   change k + 1 ≤ i' at w2
   have k0 : (i : Int) = (i' : Int) := k0
   exact inR64 (by show -9223372036854775808 ≤ (i' : Int) - 1; omega) (by show (i' : Int) - 1 ≤ 9223372036854775807; omega)
 iterate 19 (
  focus
  rename_i d0 y hy d1 w hw k0 d3
  obtain ⟨i, j⟩ := y
  obtain ⟨y1, y2, y3, y4, y5⟩ := hy
  change m ≤ i at y1
  change i ≤ j at y2
  change j ≤ e at y3
  change ∀ k, m ≤ k → k < i → lp l k a = true at y4
  change ∀ k, j ≤ k → k < e → lp l k a = false at y5
  have d0 : (m : Int) - (a : Int) = 1 := ow d0
  obtain ⟨i', k⟩ := w
  obtain ⟨w1, w2⟩ := hw
  change a ≤ k at w1
  change k + 1 ≤ i' at w2
  have k0 : (i : Int) = (i' : Int) := k0
  have d3 : (k : Int) < (i' : Int) - 1 := ow d3
  have hml := mv_len (l := l) (a := a) (k := k) w1 (by omega)
  have e1 : ((k : Int) + 1).toNat + 0 = k + 1 := by omega
  first
   | (exact on_n ho (by omega); done)
   | (show (k : Int) + 1 < (n : Int); omega; done)
   | (show (k : Int) < (n : Int); omega; done)
   | (show ((k : Int) + 1).toNat + 0 < (mv l a k).length; omega; done)
   | (show (k : Int).toNat + 0 < (mv l a k).length; omega; done)
   | (show ((k : Int) + 1).toNat + 0 < ((mv l a k).set _ _).length; rw [xc]; omega; done)
   | (exact inR64 (by show -9223372036854775808 ≤ (k : Int) + 1; omega) (by show (k : Int) + 1 ≤ 9223372036854775807; omega); done))
 iterate 2 (
  focus
  rename_i d0 y hy d1 w hw k0 d3
  obtain ⟨i, j⟩ := y
  obtain ⟨y1, y2, y3, y4, y5⟩ := hy
  change m ≤ i at y1
  change i ≤ j at y2
  change j ≤ e at y3
  change ∀ k, m ≤ k → k < i → lp l k a = true at y4
  change ∀ k, j ≤ k → k < e → lp l k a = false at y5
  have d0 : (m : Int) - (a : Int) = 1 := ow d0
  obtain ⟨i', k⟩ := w
  obtain ⟨w1, w2⟩ := hw
  change a ≤ k at w1
  change k + 1 ≤ i' at w2
  have k0 : (i : Int) = (i' : Int) := k0
  first
   | (have d3 : (k : Int) < (i' : Int) - 1 := ow d3
      have hml := mv_len (l := l) (a := a) (k := k) w1 (by omega)
      have e1 : ((k : Int) + 1).toNat + 0 = k + 1 := by omega
      have hs := mv_step (l := l) (a := a) (k := k) w1 (by omega)
      refine Stands.one (i', k + 1) ⟨⟨by show a ≤ k + 1; omega, by show k + 1 + 1 ≤ i'; omega⟩, by show i' - (k + 1) < i' - k; omega, ?_⟩
      ((conv => arg 1; reduce); with_reducible repeat' first | exact ty | refine ta ?_ ?_ | refine ti fun _ => ?_ | refine tf fun _ => ?_ | refine tl ?_)
      all_goals first | exact vlf | (rw [← hs]; unfold swp; simp only [← e1]; rfl) | (rw [← hs]; unfold swp; simp only [e1]; rfl)
      done)
   | (have d1 : ¬ (i : Int) < (j : Int) := ov d1
      have d3 : ¬ (k : Int) < (i' : Int) - 1 := ov d3
      have ek : k = i - 1 := by omega
      have ej : j = i := by omega
      subst ek ej
      obtain ⟨W, q1, q2, q3⟩ := mv_done (l := l) (a := a) (m := m) (e := e) (i := j) (by omega) y1 y3 h2 (by omega) hV y4 y5
      refine Ends.one W ⟨q2, q3⟩ ?_
      ((conv => arg 1; reduce); with_reducible repeat' first | exact ty | refine ta ?_ ?_ | refine ti fun _ => ?_ | refine tf fun _ => ?_ | refine tl ?_)
      all_goals first | exact vlf | exact q1 | exact q1.symm
      done))
 · rename_i z0 d0
   have d0 : (e : Int) - (m : Int) = 1 := ow d0
   refine Stands.one (a, m) ⟨⟨zy _, by show a ≤ m; omega, zy _, fun k k1 k2 => absurd k2 (by show ¬ k < a; omega), fun k k1 k2 => absurd k1 (by show ¬ m ≤ k; omega)⟩, ?_⟩
   exact vgo
 iterate 10 (
  focus
  rename_i z0 d0 y hy d1
  obtain ⟨i, j⟩ := y
  obtain ⟨y1, y2, y3, y4, y5⟩ := hy
  change a ≤ i at y1
  change i ≤ j at y2
  change j ≤ m at y3
  change ∀ k, a ≤ k → k < i → lp l m k = false at y4
  change ∀ k, j ≤ k → k < m → lp l m k = true at y5
  have d0 : (e : Int) - (m : Int) = 1 := ow d0
  have d1 : (i : Int) < (j : Int) := ow d1
  have ec := mid_is (x := i) (y := j) (by omega)
  have e9 : (ishr .u64 (IntKind.u64.wrap ((i : Int) + (j : Int))) 1).toNat + 0 = (i + j) / 2 := by rw [ec]; rfl
  first
   | (exact on_n ho (by omega); done)
   | (exact inR64 (by show -9223372036854775808 ≤ (i : Int) + (j : Int); omega) (by show (i : Int) + (j : Int) ≤ 9223372036854775807; omega); done)
   | (show inR .i64 (ishr .u64 (IntKind.u64.wrap ((i : Int) + (j : Int))) 1); rw [ec]; exact inR64 (by omega) (by omega); done)
   | (show 0 ≤ ishr .u64 (IntKind.u64.wrap ((i : Int) + (j : Int))) 1; rw [ec]; omega; done)
   | (show ishr .u64 (IntKind.u64.wrap ((i : Int) + (j : Int))) 1 < (n : Int); rw [ec]; omega; done)
   | (show (ishr .u64 (IntKind.u64.wrap ((i : Int) + (j : Int))) 1).toNat + 0 < l.length; rw [e9]; omega; done)
   | (have p1 : Pin (l.getD ((i + j) / 2) pgZ) := pin_ix (x := a) (y := e) hP (by omega) (by omega) (by omega); have p2 : Pin (l.getD m pgZ) := pin_ix (x := a) (y := e) hP (by omega) (by omega) (by omega); rw [← e9] at p1; exact ⟨p2, p1⟩; done))
 iterate 3 (
  focus
  rename_i z0 d0 y hy d1 d2
  obtain ⟨i, j⟩ := y
  obtain ⟨y1, y2, y3, y4, y5⟩ := hy
  change a ≤ i at y1
  change i ≤ j at y2
  change j ≤ m at y3
  change ∀ k, a ≤ k → k < i → lp l m k = false at y4
  change ∀ k, j ≤ k → k < m → lp l m k = true at y5
  have d0 : (e : Int) - (m : Int) = 1 := ow d0
  have d1 : (i : Int) < (j : Int) := ow d1
  have ec := mid_is (x := i) (y := j) (by omega)
  have e9 : (ishr .u64 (IntKind.u64.wrap ((i : Int) + (j : Int))) 1).toNat + 0 = (i + j) / 2 := by rw [ec]; rfl
  first
   | (show inR .i64 (ishr .u64 (IntKind.u64.wrap ((i : Int) + (j : Int))) 1 + 1)
      rw [ec]
      exact inR64 (by omega) (by omega)
      done)
   | (have d2 : (!decide (cfP (l.getD m pgZ) (l.getD ((ishr .u64 (IntKind.u64.wrap ((i : Int) + (j : Int))) 1).toNat + 0) pgZ) < 0)) = true := d2
      rw [e9, cfP_lt] at d2
      have d2 : lp l m ((i + j) / 2) = false := nb_t d2
      refine Stands.one ((i + j) / 2 + 1, j) ⟨⟨by show a ≤ (i + j) / 2 + 1; omega, by show (i + j) / 2 + 1 ≤ j; omega, y3, ?_, y5⟩, by show j - ((i + j) / 2 + 1) < j - i; omega, ?_⟩
      · intro k k1 k2
        change k < (i + j) / 2 + 1 at k2
        exact wkP.tr (srd_ix hU (by omega) k1 (by omega) (by omega)) d2
      ((conv => arg 1; reduce); with_reducible repeat' first | exact ty | refine ta ?_ ?_ | refine ti fun _ => ?_ | refine tf fun _ => ?_ | refine tl ?_)
      all_goals first | exact vlf | (show ishr .u64 (IntKind.u64.wrap ((i : Int) + (j : Int))) 1 + 1 = (((i + j) / 2 + 1 : Nat) : Int); rw [ec]; omega) | (show ishr .u64 (IntKind.u64.wrap ((i : Int) + (j : Int))) 1 = (((i + j) / 2 : Nat) : Int); rw [ec])
      done)
   | (have d2 : (!decide (cfP (l.getD m pgZ) (l.getD ((ishr .u64 (IntKind.u64.wrap ((i : Int) + (j : Int))) 1).toNat + 0) pgZ) < 0)) = false := d2
      rw [e9, cfP_lt] at d2
      have d2 : lp l m ((i + j) / 2) = true := nb_f d2
      refine Stands.one (i, (i + j) / 2) ⟨⟨y1, by show i ≤ (i + j) / 2; omega, by show (i + j) / 2 ≤ m; omega, y4, ?_⟩, by show (i + j) / 2 - i < j - i; omega, ?_⟩
      · intro k k1 k2
        change (i + j) / 2 ≤ k at k1
        exact wk_lt2 d2 (srd_ix hU (by omega) (by omega) k1 k2)
      ((conv => arg 1; reduce); with_reducible repeat' first | exact ty | refine ta ?_ ?_ | refine ti fun _ => ?_ | refine tf fun _ => ?_ | refine tl ?_)
      all_goals first | exact vlf | (show ishr .u64 (IntKind.u64.wrap ((i : Int) + (j : Int))) 1 + 1 = (((i + j) / 2 + 1 : Nat) : Int); rw [ec]; omega) | (show ishr .u64 (IntKind.u64.wrap ((i : Int) + (j : Int))) 1 = (((i + j) / 2 : Nat) : Int); rw [ec])
      done))
 · rename_i z0 d0 y hy d1
   obtain ⟨i, j⟩ := y
   obtain ⟨y1, y2, y3, y4, y5⟩ := hy
   change a ≤ i at y1
   change i ≤ j at y2
   change j ≤ m at y3
   change ∀ k, a ≤ k → k < i → lp l m k = false at y4
   change ∀ k, j ≤ k → k < m → lp l m k = true at y5
   have d0 : (e : Int) - (m : Int) = 1 := ow d0
   refine Stands.one (i, m) ⟨⟨by show i ≤ m; omega, zy _⟩, ?_⟩
   ((conv => arg 1; reduce); with_reducible repeat' first | exact ty | refine ta ?_ ?_ | refine ti fun _ => ?_ | refine tf fun _ => ?_ | refine tl ?_)
   all_goals first | exact vlf | exact mu_m (by omega) | exact (mu_m (by omega)).symm
 iterate 21 (
  focus
  rename_i z0 d0 y hy d1 w hw k0 d3
  obtain ⟨i, j⟩ := y
  obtain ⟨y1, y2, y3, y4, y5⟩ := hy
  change a ≤ i at y1
  change i ≤ j at y2
  change j ≤ m at y3
  change ∀ k, a ≤ k → k < i → lp l m k = false at y4
  change ∀ k, j ≤ k → k < m → lp l m k = true at y5
  have d0 : (e : Int) - (m : Int) = 1 := ow d0
  obtain ⟨i', k⟩ := w
  obtain ⟨w1, w2⟩ := hw
  change i' ≤ k at w1
  change k ≤ m at w2
  have k0 : (i : Int) = (i' : Int) := k0
  have d3 : (i' : Int) < (k : Int) := ow d3
  have hml := mu_len (l := l) (m := m) (k := k) w2 (by omega)
  have e1 : ((k : Int) - 1).toNat + 0 = k - 1 := by omega
  first
   | (exact on_n ho (by omega); done)
   | (show (0 : Int) ≤ (k : Int) - 1; omega; done)
   | (show (k : Int) - 1 < (n : Int); omega; done)
   | (show (k : Int) < (n : Int); omega; done)
   | (show ((k : Int) - 1).toNat + 0 < (mu l m k).length; omega; done)
   | (show (k : Int).toNat + 0 < (mu l m k).length; omega; done)
   | (show ((k : Int) - 1).toNat + 0 < ((mu l m k).set _ _).length; rw [xc]; omega; done)
   | (exact inR64 (by show -9223372036854775808 ≤ (k : Int) - 1; omega) (by show (k : Int) - 1 ≤ 9223372036854775807; omega); done))
 iterate 2 (
  focus
  rename_i z0 d0 y hy d1 w hw k0 d3
  obtain ⟨i, j⟩ := y
  obtain ⟨y1, y2, y3, y4, y5⟩ := hy
  change a ≤ i at y1
  change i ≤ j at y2
  change j ≤ m at y3
  change ∀ k, a ≤ k → k < i → lp l m k = false at y4
  change ∀ k, j ≤ k → k < m → lp l m k = true at y5
  have d0 : (e : Int) - (m : Int) = 1 := ow d0
  obtain ⟨i', k⟩ := w
  obtain ⟨w1, w2⟩ := hw
  change i' ≤ k at w1
  change k ≤ m at w2
  have k0 : (i : Int) = (i' : Int) := k0
  first
   | (have d3 : (i' : Int) < (k : Int) := ow d3
      have hml := mu_len (l := l) (m := m) (k := k) w2 (by omega)
      have e1 : ((k : Int) - 1).toNat + 0 = k - 1 := by omega
      have hs := mu_step (l := l) (m := m) (k := k) w2 (by omega) (by omega)
      refine Stands.one (i', k - 1) ⟨⟨by show i' ≤ k - 1; omega, by show k - 1 ≤ m; omega⟩, by show k - 1 < k; omega, ?_⟩
      ((conv => arg 1; reduce); with_reducible repeat' first | exact ty | refine ta ?_ ?_ | refine ti fun _ => ?_ | refine tf fun _ => ?_ | refine tl ?_)
      all_goals first | exact vlf | (show (k : Int) - 1 = ((k - 1 : Nat) : Int); omega) | (rw [← hs]; unfold swp; simp only [← e1]; rfl) | (rw [← hs]; unfold swp; simp only [e1]; rfl)
      done)
   | (have d1 : ¬ (i : Int) < (j : Int) := ov d1
      have d3 : ¬ (i' : Int) < (k : Int) := ov d3
      have ek : k = i := by omega
      have ej : j = i := by omega
      subst ek ej
      obtain ⟨W, q1, q2, q3⟩ := mu_done (l := l) (a := a) (m := m) (e := e) (i := j) (by omega) y1 y3 (by omega) hU y4 y5
      refine Ends.one W ⟨q2, q3⟩ ?_
      ((conv => arg 1; reduce); with_reducible repeat' first | exact ty | refine ta ?_ ?_ | refine ti fun _ => ?_ | refine tf fun _ => ?_ | refine tl ?_)
      all_goals first | exact vlf | exact q1 | exact q1.symm
      done))
 iterate 2 (
  focus
  rename_i z0 z1
  have em := mid_is (x := a) (y := e) (by omega)
  obtain ⟨f1, f2, f3, f4, f5, f6, f7, f8, f9⟩ := lohi h1 h2
  change _ = ((md a e : Nat) : Int) at em
  first
   | (show inR .i64 (ishr .u64 (IntKind.u64.wrap ((a : Int) + (e : Int))) 1); rw [em]; exact inR64 (by omega) (by omega); done)
   | (show inR .i64 (ishr .u64 (IntKind.u64.wrap ((a : Int) + (e : Int))) 1 + (m : Int)); rw [em]; exact inR64 (by omega) (by omega); done))
 iterate 3 (
  focus
  rename_i z0 z1 d2
  have em := mid_is (x := a) (y := e) (by omega)
  obtain ⟨f1, f2, f3, f4, f5, f6, f7, f8, f9⟩ := lohi h1 h2
  change _ = ((md a e : Nat) : Int) at em
  first
   | (show inR .i64 (ishr .u64 (IntKind.u64.wrap ((a : Int) + (e : Int))) 1 + (m : Int) - (e : Int))
      rw [em]
      exact inR64 (by omega) (by omega)
      done)
   | (have d2 : decide (ishr .u64 (IntKind.u64.wrap ((a : Int) + (e : Int))) 1 < (m : Int)) = true := d2
      rw [em] at d2
      have d2 := ow d2
      have g9 : e ≤ md a e + m := by
       show e ≤ (a + e) / 2 + m
       have d9 : (((a + e) / 2 : Nat) : Int) < (m : Int) := d2
       omega
      have q1 : loS a m e = md a e + m - e := if_pos (by omega)
      have q2 : hiS a m e = md a e := if_pos (by omega)
      refine Stands.one () ⟨trivial, ?_⟩
      ((conv => arg 1; reduce); with_reducible repeat' first | exact ty | refine ta ?_ ?_ | refine ti fun _ => ?_ | refine tf fun _ => ?_ | refine tl ?_)
      all_goals first | exact vlf | (show ishr .u64 (IntKind.u64.wrap ((a : Int) + (e : Int))) 1 = ((md a e : Nat) : Int); exact em) | (show ishr .u64 (IntKind.u64.wrap ((a : Int) + (e : Int))) 1 + (m : Int) = ((md a e + m : Nat) : Int); rw [em]; omega) | (show ishr .u64 (IntKind.u64.wrap ((a : Int) + (e : Int))) 1 + (m : Int) - (e : Int) = ((loS a m e : Nat) : Int); rw [em, q1]; omega) | (show ishr .u64 (IntKind.u64.wrap ((a : Int) + (e : Int))) 1 = ((hiS a m e : Nat) : Int); rw [em, q2]) | (show (a : Int) = ((loS a m e : Nat) : Int); rw [q1]) | (show (m : Int) = ((hiS a m e : Nat) : Int); rw [q2])
      done)
   | (have d2 : decide (ishr .u64 (IntKind.u64.wrap ((a : Int) + (e : Int))) 1 < (m : Int)) = false := d2
      rw [em] at d2
      have d2 := ov d2
      have q1 : loS a m e = a := if_neg (by omega)
      have q2 : hiS a m e = m := if_neg (by omega)
      refine Stands.one () ⟨trivial, ?_⟩
      ((conv => arg 1; reduce); with_reducible repeat' first | exact ty | refine ta ?_ ?_ | refine ti fun _ => ?_ | refine tf fun _ => ?_ | refine tl ?_)
      all_goals first | exact vlf | (show ishr .u64 (IntKind.u64.wrap ((a : Int) + (e : Int))) 1 = ((md a e : Nat) : Int); exact em) | (show ishr .u64 (IntKind.u64.wrap ((a : Int) + (e : Int))) 1 + (m : Int) = ((md a e + m : Nat) : Int); rw [em]; omega) | (show ishr .u64 (IntKind.u64.wrap ((a : Int) + (e : Int))) 1 + (m : Int) - (e : Int) = ((loS a m e : Nat) : Int); rw [em, q1]; omega) | (show ishr .u64 (IntKind.u64.wrap ((a : Int) + (e : Int))) 1 = ((hiS a m e : Nat) : Int); rw [em, q2]) | (show (a : Int) = ((loS a m e : Nat) : Int); rw [q1]) | (show (m : Int) = ((hiS a m e : Nat) : Int); rw [q2])
      done))
 iterate 2 (
  focus
  rename_i z0 z1 u0 hu0 q0 q1
  obtain ⟨f1, f2, f3, f4, f5, f6, f7, f8, f9⟩ := lohi h1 h2
  first
   | (exact inR64 (by show -9223372036854775808 ≤ ((md a e + m : Nat) : Int) - 1; omega) (by show ((md a e + m : Nat) : Int) - 1 ≤ 9223372036854775807; omega)
      done)
   | (refine Stands.one (loS a m e, hiS a m e) ⟨⟨zy _, f2, zy _, fun k k1 k2 => absurd k2 (by show ¬ k < loS a m e; omega), fun k k1 k2 => absurd k1 (by show ¬ hiS a m e ≤ k; omega)⟩, ?_⟩
      ((conv => arg 1; reduce); with_reducible repeat' first | exact ty | refine ta ?_ ?_ | refine ti fun _ => ?_ | refine tf fun _ => ?_ | refine tl ?_)
      all_goals first | exact vlf | (show ((md a e + m : Nat) : Int) - 1 = ((md a e + m - 1 : Nat) : Int); omega)
      done))
 iterate 14 (
  focus
  rename_i z0 z1 u0 hu0 q0 q1 y hy r0 r1 r2 d1
  obtain ⟨f1, f2, f3, f4, f5, f6, f7, f8, f9⟩ := lohi h1 h2
  obtain ⟨i, j⟩ := y
  obtain ⟨y1, y2, y3, y4, y5⟩ := hy
  change loS a m e ≤ i at y1
  change i ≤ j at y2
  change j ≤ hiS a m e at y3
  change ∀ k, loS a m e ≤ k → k < i → lp l (md a e + m - 1 - k) k = false at y4
  change ∀ k, j ≤ k → k < hiS a m e → lp l (md a e + m - 1 - k) k = true at y5
  have d1 : (i : Int) < (j : Int) := ow d1
  have ec := mid_is (x := i) (y := j) (by omega)
  have e9 : (ishr .u64 (IntKind.u64.wrap ((i : Int) + (j : Int))) 1).toNat + 0 = (i + j) / 2 := by rw [ec]; rfl
  have e8 : (((md a e + m - 1 : Nat) : Int) - ishr .u64 (IntKind.u64.wrap ((i : Int) + (j : Int))) 1).toNat + 0 = md a e + m - 1 - (i + j) / 2 := by rw [ec]; omega
  first
   | (exact on_n ho (by omega); done)
   | (exact inR64 (by show -9223372036854775808 ≤ (i : Int) + (j : Int); omega) (by show (i : Int) + (j : Int) ≤ 9223372036854775807; omega); done)
   | (show inR .i64 (ishr .u64 (IntKind.u64.wrap ((i : Int) + (j : Int))) 1); rw [ec]; exact inR64 (by omega) (by omega); done)
   | (show 0 ≤ ishr .u64 (IntKind.u64.wrap ((i : Int) + (j : Int))) 1; rw [ec]; omega; done)
   | (show ishr .u64 (IntKind.u64.wrap ((i : Int) + (j : Int))) 1 < (n : Int); rw [ec]; omega; done)
   | (show (ishr .u64 (IntKind.u64.wrap ((i : Int) + (j : Int))) 1).toNat + 0 < l.length; rw [e9]; omega; done)
   | (show inR .i64 (((md a e + m - 1 : Nat) : Int) - ishr .u64 (IntKind.u64.wrap ((i : Int) + (j : Int))) 1); rw [ec]; exact inR64 (by omega) (by omega); done)
   | (show 0 ≤ ((md a e + m - 1 : Nat) : Int) - ishr .u64 (IntKind.u64.wrap ((i : Int) + (j : Int))) 1; rw [ec]; omega; done)
   | (show ((md a e + m - 1 : Nat) : Int) - ishr .u64 (IntKind.u64.wrap ((i : Int) + (j : Int))) 1 < (n : Int); rw [ec]; omega; done)
   | (show (((md a e + m - 1 : Nat) : Int) - ishr .u64 (IntKind.u64.wrap ((i : Int) + (j : Int))) 1).toNat + 0 < l.length; rw [e8]; omega; done)
   | (have p1 : Pin (l.getD ((i + j) / 2) pgZ) := pin_ix (x := a) (y := e) hP (by omega) (by omega) (by omega); have p2 : Pin (l.getD (md a e + m - 1 - (i + j) / 2) pgZ) := pin_ix (x := a) (y := e) hP (by omega) (by omega) (by omega); rw [← e9] at p1; rw [← e8] at p2; exact ⟨p2, p1⟩; done))
 iterate 3 (
  focus
  rename_i z0 z1 u0 hu0 q0 q1 y hy r0 r1 r2 d1 d2
  obtain ⟨f1, f2, f3, f4, f5, f6, f7, f8, f9⟩ := lohi h1 h2
  obtain ⟨i, j⟩ := y
  obtain ⟨y1, y2, y3, y4, y5⟩ := hy
  change loS a m e ≤ i at y1
  change i ≤ j at y2
  change j ≤ hiS a m e at y3
  change ∀ k, loS a m e ≤ k → k < i → lp l (md a e + m - 1 - k) k = false at y4
  change ∀ k, j ≤ k → k < hiS a m e → lp l (md a e + m - 1 - k) k = true at y5
  have d1 : (i : Int) < (j : Int) := ow d1
  have ec := mid_is (x := i) (y := j) (by omega)
  have e9 : (ishr .u64 (IntKind.u64.wrap ((i : Int) + (j : Int))) 1).toNat + 0 = (i + j) / 2 := by rw [ec]; rfl
  have e8 : (((md a e + m - 1 : Nat) : Int) - ishr .u64 (IntKind.u64.wrap ((i : Int) + (j : Int))) 1).toNat + 0 = md a e + m - 1 - (i + j) / 2 := by rw [ec]; omega
  first
   | (show inR .i64 (ishr .u64 (IntKind.u64.wrap ((i : Int) + (j : Int))) 1 + 1)
      rw [ec]
      exact inR64 (by omega) (by omega)
      done)
   | (have d2 : (!decide (cfP (l.getD ((((md a e + m - 1 : Nat) : Int) - ishr .u64 (IntKind.u64.wrap ((i : Int) + (j : Int))) 1).toNat + 0) pgZ) (l.getD ((ishr .u64 (IntKind.u64.wrap ((i : Int) + (j : Int))) 1).toNat + 0) pgZ) < 0)) = true := d2
      rw [e8, e9, cfP_lt] at d2
      have d2 : lp l (md a e + m - 1 - (i + j) / 2) ((i + j) / 2) = false := nb_t d2
      refine Stands.one ((i + j) / 2 + 1, j) ⟨⟨by show loS a m e ≤ (i + j) / 2 + 1; omega, by show (i + j) / 2 + 1 ≤ j; omega, y3, s33t H' (by omega) (by omega) d2, y5⟩, by show j - ((i + j) / 2 + 1) < j - i; omega, ?_⟩
      ((conv => arg 1; reduce); with_reducible repeat' first | exact ty | refine ta ?_ ?_ | refine ti fun _ => ?_ | refine tf fun _ => ?_ | refine tl ?_)
      all_goals first | exact vlf | (show ishr .u64 (IntKind.u64.wrap ((i : Int) + (j : Int))) 1 + 1 = (((i + j) / 2 + 1 : Nat) : Int); rw [ec]; omega) | (show ishr .u64 (IntKind.u64.wrap ((i : Int) + (j : Int))) 1 = (((i + j) / 2 : Nat) : Int); rw [ec])
      done)
   | (have d2 : (!decide (cfP (l.getD ((((md a e + m - 1 : Nat) : Int) - ishr .u64 (IntKind.u64.wrap ((i : Int) + (j : Int))) 1).toNat + 0) pgZ) (l.getD ((ishr .u64 (IntKind.u64.wrap ((i : Int) + (j : Int))) 1).toNat + 0) pgZ) < 0)) = false := d2
      rw [e8, e9, cfP_lt] at d2
      have d2 : lp l (md a e + m - 1 - (i + j) / 2) ((i + j) / 2) = true := nb_f d2
      refine Stands.one (i, (i + j) / 2) ⟨⟨y1, by show i ≤ (i + j) / 2; omega, by show (i + j) / 2 ≤ hiS a m e; omega, y4, s33f H' (by omega) (by omega) d2⟩, by show (i + j) / 2 - i < j - i; omega, ?_⟩
      ((conv => arg 1; reduce); with_reducible repeat' first | exact ty | refine ta ?_ ?_ | refine ti fun _ => ?_ | refine tf fun _ => ?_ | refine tl ?_)
      all_goals first | exact vlf | (show ishr .u64 (IntKind.u64.wrap ((i : Int) + (j : Int))) 1 + 1 = (((i + j) / 2 + 1 : Nat) : Int); rw [ec]; omega) | (show ishr .u64 (IntKind.u64.wrap ((i : Int) + (j : Int))) 1 = (((i + j) / 2 : Nat) : Int); rw [ec])
      done))
 · rename_i z0 z1 u0 hu0 q0 q1 y hy r0 r1 r2 d1
   obtain ⟨f1, f2, f3, f4, f5, f6, f7, f8, f9⟩ := lohi h1 h2
   obtain ⟨i, j⟩ := y
   obtain ⟨y1, y2, y3, y4, y5⟩ := hy
   change loS a m e ≤ i at y1
   change i ≤ j at y2
   change j ≤ hiS a m e at y3
   change ∀ k, loS a m e ≤ k → k < i → lp l (md a e + m - 1 - k) k = false at y4
   change ∀ k, j ≤ k → k < hiS a m e → lp l (md a e + m - 1 - k) k = true at y5
   exact inR64 (by show -9223372036854775808 ≤ ((md a e + m : Nat) : Int) - (i : Int); omega) (by show ((md a e + m : Nat) : Int) - (i : Int) ≤ 9223372036854775807; omega)
 · rename_i z0 z1 u0 hu0 q0 q1 y hy r0 r1 r2 d1 d2
   obtain ⟨f1, f2, f3, f4, f5, f6, f7, f8, f9⟩ := lohi h1 h2
   obtain ⟨i, j⟩ := y
   obtain ⟨y1, y2, y3, y4, y5⟩ := hy
   change loS a m e ≤ i at y1
   change i ≤ j at y2
   change j ≤ hiS a m e at y3
   change ∀ k, loS a m e ≤ k → k < i → lp l (md a e + m - 1 - k) k = false at y4
   change ∀ k, j ≤ k → k < hiS a m e → lp l (md a e + m - 1 - k) k = true at y5
   have d1 : ¬ (i : Int) < (j : Int) := ov d1
   have ej : j = i := by omega
   subst ej
   have hC := cut_of H' y1 y3 y4 y5
   have e7 : (((md a e + m : Nat) : Int) - (j : Int)).toNat = md a e + m - j := by omega
   have s1 : (j : Int) < (m : Int) := ow (Bool.and_eq_true_iff.1 d2).1
   have s2 : (m : Int) < ((md a e + m : Nat) : Int) - (j : Int) := ow (Bool.and_eq_true_iff.1 d2).2
   exact ⟨h, hn, ho, by show (0 : Int) ≤ (j : Int); omega, s1, s2, by show ((md a e + m : Nat) : Int) - (j : Int) ≤ (n : Int); omega⟩
 · rename_i z0 z1 u0 hu0 q0 q1 y hy r0 r1 r2 d1 d2 yv pv
   obtain ⟨f1, f2, f3, f4, f5, f6, f7, f8, f9⟩ := lohi h1 h2
   obtain ⟨i, j⟩ := y
   obtain ⟨y1, y2, y3, y4, y5⟩ := hy
   change loS a m e ≤ i at y1
   change i ≤ j at y2
   change j ≤ hiS a m e at y3
   change ∀ k, loS a m e ≤ k → k < i → lp l (md a e + m - 1 - k) k = false at y4
   change ∀ k, j ≤ k → k < hiS a m e → lp l (md a e + m - 1 - k) k = true at y5
   have d1 : ¬ (i : Int) < (j : Int) := ov d1
   have ej : j = i := by omega
   subst ej
   have hC := cut_of H' y1 y3 y4 y5
   have e7 : (((md a e + m : Nat) : Int) - (j : Int)).toNat = md a e + m - j := by omega
   have hr := lx_rot hC
   refine Stands.one j ⟨hC, ?_⟩
   ((conv => arg 1; reduce); with_reducible repeat' first | exact ty | refine ta ?_ ?_ | refine ti fun _ => ?_ | refine tf fun _ => ?_ | refine tl ?_)
   all_goals first | exact vlf | (show ((md a e + m : Nat) : Int) - (j : Int) = ((md a e + m - j : Nat) : Int); omega) | (rw [← hr, ← e7]; rfl)
 · rename_i z0 z1 u0 hu0 q0 q1 y hy r0 r1 r2 d1 d2
   obtain ⟨f1, f2, f3, f4, f5, f6, f7, f8, f9⟩ := lohi h1 h2
   obtain ⟨i, j⟩ := y
   obtain ⟨y1, y2, y3, y4, y5⟩ := hy
   change loS a m e ≤ i at y1
   change i ≤ j at y2
   change j ≤ hiS a m e at y3
   change ∀ k, loS a m e ≤ k → k < i → lp l (md a e + m - 1 - k) k = false at y4
   change ∀ k, j ≤ k → k < hiS a m e → lp l (md a e + m - 1 - k) k = true at y5
   have d1 : ¬ (i : Int) < (j : Int) := ov d1
   have ej : j = i := by omega
   subst ej
   have hC := cut_of H' y1 y3 y4 y5
   have e7 : (((md a e + m : Nat) : Int) - (j : Int)).toNat = md a e + m - j := by omega
   have d2 : (decide ((j : Int) < (m : Int)) && decide ((m : Int) < ((md a e + m : Nat) : Int) - (j : Int))) = false := d2
   have hi := lx_id hC (fun ⟨s1, s2⟩ => by rw [decide_eq_true (show (j : Int) < (m : Int) by omega), decide_eq_true (show (m : Int) < ((md a e + m : Nat) : Int) - (j : Int) by omega)] at d2; cases d2)
   refine Stands.one j ⟨hC, ?_⟩
   ((conv => arg 1; reduce); with_reducible repeat' first | exact ty | refine ta ?_ ?_ | refine ti fun _ => ?_ | refine tf fun _ => ?_ | refine tl ?_)
   all_goals first | exact vlf | (show ((md a e + m : Nat) : Int) - (j : Int) = ((md a e + m - j : Nat) : Int); omega) | exact hi | exact hi.symm
 · rename_i z0 z1 u0 hu0 q0 q1 y hy r0 r1 r2 d1 s hs k0 k1 d2
   obtain ⟨f1, f2, f3, f4, f5, f6, f7, f8, f9⟩ := lohi h1 h2
   change Nat at s
   have hC : Cut l a m e s := hs
   obtain ⟨c1, c2, c3, c4, c5⟩ := id hC
   have s1 : (a : Int) < (s : Int) := ow (Bool.and_eq_true_iff.1 d2).1
   have s2 : (s : Int) < ((md a e : Nat) : Int) := ow (Bool.and_eq_true_iff.1 d2).2
   exact ⟨by show (0 : Int) ≤ (a : Int); omega, by show (0 : Int) ≤ (s : Int); omega, by show (0 : Int) ≤ ((md a e : Nat) : Int); omega, first_half H' hC (by omega) (by omega), by show md a e - a ≤ N; omega⟩
 · rename_i z0 z1 u0 hu0 q0 q1 y hy r0 r1 r2 d1 s hs k0 k1 d2 W hW
   obtain ⟨f1, f2, f3, f4, f5, f6, f7, f8, f9⟩ := lohi h1 h2
   change Nat at s
   have hC : Cut l a m e s := hs
   obtain ⟨c1, c2, c3, c4, c5⟩ := id hC
   change List Pg at W
   have T0 := two_of H' hC (List.Perm.refl _)
   have hp : W.Perm (seg l a s ++ seg l m (md a e + m - s)) := by rw [← T0.s1]; exact hW.1
   refine Stands.one (s, W) ⟨⟨hC, hp, hW.2⟩, ?_⟩
   ((conv => arg 1; reduce); with_reducible repeat' first | exact ty | refine ta ?_ ?_ | refine ti fun _ => ?_ | refine tf fun _ => ?_ | refine tl ?_)
   all_goals first | exact vlf | (show l.take a ++ W ++ (seg l s m ++ seg l (md a e + m - s) e) ++ l.drop e = (lx l a m e s).take a ++ W ++ (lx l a m e s).drop (md a e); unfold lx; rw [T0.ta, T0.dm]; simp) | (show (lx l a m e s).take a ++ W ++ (lx l a m e s).drop (md a e) = l.take a ++ W ++ (seg l s m ++ seg l (md a e + m - s) e) ++ l.drop e; unfold lx; rw [T0.ta, T0.dm]; simp)
 · rename_i z0 z1 u0 hu0 q0 q1 y hy r0 r1 r2 d1 s hs k0 k1 d2
   obtain ⟨f1, f2, f3, f4, f5, f6, f7, f8, f9⟩ := lohi h1 h2
   change Nat at s
   have hC : Cut l a m e s := hs
   obtain ⟨c1, c2, c3, c4, c5⟩ := id hC
   have d2 : (decide ((a : Int) < (s : Int)) && decide ((s : Int) < ((md a e : Nat) : Int))) = false := d2
   have hd := half_done H' hC (fun ⟨s1, s2⟩ => by rw [decide_eq_true (show (a : Int) < (s : Int) by omega), decide_eq_true (show (s : Int) < ((md a e : Nat) : Int) by omega)] at d2; cases d2)
   refine Stands.one (s, seg l a s ++ seg l m (md a e + m - s)) ⟨⟨hC, List.Perm.refl _, hd⟩, ?_⟩
   exact vgo
 · rename_i z0 z1 u0 hu0 q0 q1 y hy r0 r1 r2 d1 s hs k0 k1 t ht k2 d2
   obtain ⟨f1, f2, f3, f4, f5, f6, f7, f8, f9⟩ := lohi h1 h2
   obtain ⟨s2, W⟩ := t
   obtain ⟨hC, hp, hd⟩ := ht
   change Cut l a m e s2 at hC
   change W.Perm (seg l a s2 ++ seg l m (md a e + m - s2)) at hp
   change Srd ltP W at hd
   obtain ⟨c1, c2, c3, c4, c5⟩ := id hC
   have T := two_of H' hC hp
   have g1 : ((md a e : Nat) : Int) < ((md a e + m - s2 : Nat) : Int) := ow (Bool.and_eq_true_iff.1 d2).1
   have g2 : ((md a e + m - s2 : Nat) : Int) < (e : Int) := ow (Bool.and_eq_true_iff.1 d2).2
   exact ⟨by show (0 : Int) ≤ ((md a e : Nat) : Int); omega, by show (0 : Int) ≤ ((md a e + m - s2 : Nat) : Int); omega, by show (0 : Int) ≤ (e : Int); omega, second_half H' hC hp (by omega) (by omega), by show e - md a e ≤ N; omega⟩
 · rename_i z0 z1 u0 hu0 q0 q1 y hy r0 r1 r2 d1 s hs k0 k1 t ht k2 d2 V hV
   obtain ⟨f1, f2, f3, f4, f5, f6, f7, f8, f9⟩ := lohi h1 h2
   obtain ⟨s2, W⟩ := t
   obtain ⟨hC, hp, hd⟩ := ht
   change Cut l a m e s2 at hC
   change W.Perm (seg l a s2 ++ seg l m (md a e + m - s2)) at hp
   change Srd ltP W at hd
   obtain ⟨c1, c2, c3, c4, c5⟩ := id hC
   have T := two_of H' hC hp
   change List Pg at V
   have hq : V.Perm (seg l s2 m ++ seg l (md a e + m - s2) e) := by rw [← T.s4]; exact hV.1
   have hz := sym_end H' hC hp hq hd hV.2
   refine Ends.one (W ++ V) hz ?_
   ((conv => arg 1; reduce); with_reducible repeat' first | exact ty | refine ta ?_ ?_ | refine ti fun _ => ?_ | refine tf fun _ => ?_ | refine tl ?_)
   all_goals first | exact vlf | (show l.take a ++ (W ++ V) ++ l.drop e = (l.take a ++ W ++ (seg l s2 m ++ seg l (md a e + m - s2) e) ++ l.drop e).take (md a e) ++ V ++ (l.take a ++ W ++ (seg l s2 m ++ seg l (md a e + m - s2) e) ++ l.drop e).drop e; rw [T.tm, T.de]; simp)
 · rename_i z0 z1 u0 hu0 q0 q1 y hy r0 r1 r2 d1 s hs k0 k1 t ht k2 d2
   obtain ⟨f1, f2, f3, f4, f5, f6, f7, f8, f9⟩ := lohi h1 h2
   obtain ⟨s2, W⟩ := t
   obtain ⟨hC, hp, hd⟩ := ht
   change Cut l a m e s2 at hC
   change W.Perm (seg l a s2 ++ seg l m (md a e + m - s2)) at hp
   change Srd ltP W at hd
   obtain ⟨c1, c2, c3, c4, c5⟩ := id hC
   have T := two_of H' hC hp
   have d2 : (decide (((md a e : Nat) : Int) < ((md a e + m - s2 : Nat) : Int)) && decide (((md a e + m - s2 : Nat) : Int) < (e : Int))) = false := d2
   have hd2 := half_done2 H' hC (fun ⟨g1, g2⟩ => by rw [decide_eq_true (show ((md a e : Nat) : Int) < ((md a e + m - s2 : Nat) : Int) by omega), decide_eq_true (show ((md a e + m - s2 : Nat) : Int) < (e : Int) by omega)] at d2; cases d2)
   have hz := sym_end H' hC hp (List.Perm.refl _) hd hd2
   refine Ends.one (W ++ (seg l s2 m ++ seg l (md a e + m - s2) e)) hz ?_
   ((conv => arg 1; reduce); with_reducible repeat' first | exact ty | refine ta ?_ ?_ | refine ti fun _ => ?_ | refine tf fun _ => ?_ | refine tl ?_)
   all_goals first | exact vlf | (show l.take a ++ (W ++ (seg l s2 m ++ seg l (md a e + m - s2) e)) ++ l.drop e = l.take a ++ W ++ (seg l s2 m ++ seg l (md a e + m - s2) e) ++ l.drop e; simp)
theorem sym_ok : ∀ N o b q l n c a m e, SyP o l n a m e → e - a ≤ N → SymDo o b q l n c a m e
 | 0, o, b, q, l, n, c, a, m, e, H, hN => absurd hN (by have := H.am; have := H.me; omega)
 | N + 1, o, b, q, l, n, c, a, m, e, H, hN => sym_step N (sym_ok N) o b q l n c a m e H hN
end Go.Vx
namespace Go.Vx
open Go Go.Proofs
variable [Gl]
noncomputable def fcSymA : Fc Tryd.prog C0 where
 tg := .fn 92
 X := Bool × Nat × Nat × List Pg × Nat × Nat × Int × Int × Int
 args := fun (o, b, q, l, n, c, i, j, k) => [.sl 0 0 n c, .int .i64 i, .int .i64 j, .int .i64 k, fnC]
 mem := fun (o, b, q, l, n, c, i, j, k) => [⟨b, q, 9, true, some o, .rows 70 l⟩]
 pre := fun (o, b, q, l, n, c, i, j, k) => 0 ≤ i ∧ 0 ≤ j ∧ 0 ≤ k ∧ SyP o l n i.toNat j.toNat k.toNat
 alts := fun (o, b, q, l, n, c, i, j, k) => [⟨List Pg, fun W => W.Perm (seg l i.toNat k.toNat) ∧ Srd ltP W, fun _ => .tup [], fun W => [⟨b, q, 9, true, some o, .rows 70 (l.take i.toNat ++ W ++ l.drop k.toNat)⟩]⟩]
 mat vs m := match vs with
  | [.sl a 0 n c, .int _ i, .int _ j, .int _ k, .fn (.func 50) _ _] => match nth m a with
    | ⟨b, q, _, _, g, .rows 70 l⟩ => some ((onOf g, b, q, l, n, c, i, j, k), [a])
    | _ => none
  | _ => none
 ok := fun (o, b, q, l, n, c, i, j, k) ⟨h1, h2, h3, h4⟩ => by
  have := sym_ok _ o b q l n c i.toNat j.toNat k.toNat h4 (zy _)
  have e1 : ((i.toNat : Nat) : Int) = i := by omega
  have e2 : ((j.toNat : Nat) : Int) = j := by omega
  have e3 : ((k.toNat : Nat) : Int) = k := by omega
  unfold SymDo at this
  rw [e1, e2, e3] at this
  exact this
structure Bs (l L : List Pg) (n : Nat) : Prop where
 len : L.length = l.length
 perm : (L.take n).Perm (l.take n)
 dr : L.drop n = l.drop n
theorem Bs.start {l : List Pg} {n : Nat} : Bs l l n := ⟨rfl, List.Perm.refl _, rfl⟩
theorem Bs.new {l L W : List Pg} {a e n : Nat} (h : Bs l L n) (h1 : a ≤ e) (h2 : e ≤ n) (h3 : n ≤ l.length) (hW : W.Perm (seg L a e)) : Bs l (L.take a ++ W ++ L.drop e) n := by
 obtain ⟨p1, p2, p3⟩ := perm_new (l := L) h1 h2 (by rw [h.len]; exact h3) hW
 exact ⟨p2.trans h.len, p1.trans h.perm, p3.trans h.dr⟩
theorem Bs.pin {l L : List Pg} {n : Nat} (h : Bs l L n) (hP : ∀ x ∈ l.take n, Pin x) (hn : n ≤ l.length) {a e : Nat} (h1 : a ≤ e) (h2 : e ≤ n) : ∀ x ∈ seg L a e, Pin x := by
 intro x hx
 obtain ⟨k, k1, k2, rfl⟩ := mem_seg h1 (by rw [h.len]; omega) hx
 refine hP _ (h.perm.mem_iff.1 ?_)
 have := getD_mem' (l := L.take n) (i := k) (d := pgZ) (by rw [zp, h.len]; omega)
 have e1 : (L.take n).getD k pgZ = L.getD k pgZ := by
  simp only [zz]
  rw [xy (by omega)]
 rw [e1] at this
 exact this
def Ch1 (s k : Nat) (L : List Pg) : Prop := ∀ i, i < k → Srd ltP (seg L (i * s) ((i + 1) * s))
def Ch2 (s k n : Nat) (L : List Pg) : Prop := ∀ i, k ≤ i → i * s < n → Srd ltP (seg L (i * s) (min ((i + 1) * s) n))
section
variable {l L W : List Pg} {s k n : Nat}
theorem Ch1.new (h : Ch1 s k L) (hb : (k + 1) * s ≤ L.length) (hW : W.length = s) (hS : Srd ltP W) : Ch1 s (k + 1) (L.take (k * s) ++ W ++ L.drop ((k + 1) * s)) := by
 have e1 : (k + 1) * s = k * s + s := yk k s
 intro i hi
 rcases Nat.lt_or_ge i k with h1 | h1
 · have e2 : (i + 1) * s = i * s + s := yk i s
   have e3 : (i + 1) * s ≤ k * s := zd s h1
   rw [seg_keep (by omega) hb (by omega) (by omega) (.inl e3)]
   exact h i h1
 · have : i = k := by omega
   subst this
   rw [seg_new (by omega) hb (by omega)]
   exact hS
theorem Ch2.keep {a e : Nat} (h : Ch2 s k n L) (hae : a ≤ e) (he : e ≤ L.length) (hW : W.length = e - a) {k' : Nat} (hk : k ≤ k') (hke : e ≤ k' * s) : Ch2 s k' n (L.take a ++ W ++ L.drop e) := by
 intro i hi hin
 have e2 : (i + 1) * s = i * s + s := yk i s
 have e3 : k' * s ≤ i * s := zd s hi
 rw [seg_keep hae he hW (by omega) (.inr (by omega))]
 exact h i (by omega) hin
theorem Ch1.keep {a e : Nat} (h : Ch1 s k L) (hae : a ≤ e) (he : e ≤ L.length) (hW : W.length = e - a) (hke : k * s ≤ a) : Ch1 s k (L.take a ++ W ++ L.drop e) := by
 intro i hi
 have e2 : (i + 1) * s = i * s + s := yk i s
 have e3 : (i + 1) * s ≤ k * s := zd s hi
 rw [seg_keep hae he hW (by omega) (.inl (by omega))]
 exact h i hi
theorem chs_of (h : Ch1 s k L) (hk : k * s ≤ n) (hn : n < (k + 1) * s) (hl : k * s < n → Srd ltP (seg L (k * s) n)) : Chs ltP s n L := by
 intro i hi
 have e1 : (k + 1) * s = k * s + s := yk k s
 rcases Nat.lt_trichotomy i k with h1 | h1 | h1
 · have e3 : (i + 1) * s ≤ k * s := zd s h1
   rw [Nat.min_eq_left (by omega)]
   exact h i h1
 · subst h1
   rw [Nat.min_eq_right (by omega)]
   exact hl hi
 · have e3 : (k + 1) * s ≤ i * s := zd s h1
   omega
theorem sym_pre {o : Bool} {e : Nat} (H : Bs l L n) (hP : ∀ x ∈ l.take n, Pin x) (h : n ≤ l.length) (hn : n < 1000000000) (ho : o = false → n = 0) (hC : Ch2 s (2 * k) n L) (hs : 0 < s) (he : e ≤ n) (he2 : k * (2 * s) + s < e) (he3 : e = (k + 1) * (2 * s) ∨ e = n ∧ n < (k + 1) * (2 * s)) : SyP o L n (k * (2 * s)) (k * (2 * s) + s) e := by
 have e1 : (k + 1) * (2 * s) = k * (2 * s) + 2 * s := yk k (2 * s)
 have e2 : 2 * k * s = k * (2 * s) := by rw [yx 2 k, wv]
 have e3 : (2 * k + 1) * s = 2 * k * s + s := yk _ s
 have e4 : (2 * k + 1 + 1) * s = (2 * k + 1) * s + s := yk _ s
 refine ⟨by rw [H.len]; exact h, hn, ho, by omega, he2, he, ?_, ?_, H.pin hP h (by omega) he⟩
 · have := hC (2 * k) (zy _) (by omega)
   rw [show min ((2 * k + 1) * s) n = k * (2 * s) + s by omega, e2] at this
   exact this
 · have := hC (2 * k + 1) (by omega) (by omega)
   rw [show min ((2 * k + 1 + 1) * s) n = e by omega, e3, e2] at this
   exact this
end
def B2 (b q : Nat) (o : Bool) (l : List Pg) (n : Nat) : Inv' C0 := ⟨2, Nat × List Pg, fun y => [(7, .int .i64 (y.1 * 20 : Nat)), (8, .int .i64 ((y.1 + 1) * 20 : Nat))], fun y _ => [⟨b, q, 9, true, some o, .rows 70 y.2⟩], fun y => y.1 * 20 ≤ n ∧ Bs l y.2 n ∧ Ch1 20 y.1 y.2, fun y => n - y.1 * 20⟩
def B7 (b q : Nat) (o : Bool) (l : List Pg) (n : Nat) : Inv' C0 := ⟨7, Nat × List Pg, fun y => [(6, .int .i64 (y.1 : Int))], fun y _ => [⟨b, q, 9, true, some o, .rows 70 y.2⟩], fun y => 20 ≤ y.1 ∧ y.1 ≤ 2 * n + 20 ∧ Bs l y.2 n ∧ Chs ltP y.1 n y.2, fun y => n - y.1⟩
def B9 (b q : Nat) (o : Bool) (l : List Pg) (n : Nat) : Inv' C0 := ⟨9, Nat × Nat × List Pg, fun y => [(6, .int .i64 (y.1 : Int)), (7, .int .i64 (y.2.1 * (2 * y.1) : Nat)), (8, .int .i64 ((y.2.1 + 1) * (2 * y.1) : Nat))], fun y _ => [⟨b, q, 9, true, some o, .rows 70 y.2.2⟩],
 fun y => 20 ≤ y.1 ∧ y.1 < n ∧ y.2.1 * (2 * y.1) ≤ n ∧ Bs l y.2.2 n ∧ Ch1 (2 * y.1) y.2.1 y.2.2 ∧ Ch2 y.1 (2 * y.2.1) n y.2.2, fun y => n - y.2.1 * (2 * y.1)⟩
set_option maxHeartbeats 8000000 in
theorem stable_ok (o : Bool) (b q : Nat) (l : List Pg) (n c : Nat) (h : n ≤ l.length) (hn : n < 1000000000) (ho : o = false → n = 0) (hP : ∀ x ∈ l.take n, Pin x) :
 Does (C := C0) Tryd.prog (.fn 66) [⟨b, q, 9, true, some o, .rows 70 l⟩] [.sl 0 0 n c, .int .i64 (n : Int), fnC]
  [⟨List Pg, fun W => W.Perm (l.take n) ∧ Srd ltP W, fun _ => .tup [], fun W => [⟨b, q, 9, true, some o, .rows 70 (W ++ l.drop n)⟩]⟩] := by
 refine loc_fn (P := Tryd.prog) (E := ⟨[fcIns, fcSymA], [], 63, [], [], []⟩) (L := [B2 b q o l n, B7 b q o l n, B9 b q o l n]) mix Tryd.func66 rfl (by kernel_rfl) (by kernel_rfl) rfl rfl ?_
 ((conv => arg 1; reduce); with_reducible repeat' first | exact ty | refine ta ?_ ?_ | refine ti fun _ => ?_ | refine tf fun _ => ?_ | refine tl ?_)
 all_goals try exact vlf
 · refine Stands.one (0, l) ⟨⟨by show 0 * 20 ≤ n; omega, Bs.start, fun i hi => absurd hi (ue i)⟩, ?_⟩
   exact vgo
 · rename_i x hx g1
   obtain ⟨k, L⟩ := x
   obtain ⟨x1, x2, x3⟩ := hx
   change k * 20 ≤ n at x1
   change Bs l L n at x2
   have g1 : (((k + 1) * 20 : Nat) : Int) ≤ (n : Int) := ow g1
   refine ⟨by rw [x2.len]; exact h, hn, ho, by omega, by show (((k * 20 : Nat)) : Int) ≤ (((k + 1) * 20 : Nat) : Int); omega, g1, x2.pin hP h (by omega) (by omega)⟩
 iterate 2 (
  focus
  rename_i x hx g1 W hW
  obtain ⟨k, L⟩ := x
  first
   | (have g1 : (((k + 1) * 20 : Nat) : Int) ≤ (n : Int) := ow g1
      exact inR64 (by show -9223372036854775808 ≤ (((k + 1) * 20 : Nat) : Int) + 20; omega) (by show (((k + 1) * 20 : Nat) : Int) + 20 ≤ 9223372036854775807; omega)
      done)
   | (obtain ⟨x1, x2, x3⟩ := hx
      change k * 20 ≤ n at x1
      change Bs l L n at x2
      change Ch1 20 k L at x3
      have g1 : (((k + 1) * 20 : Nat) : Int) ≤ (n : Int) := ow g1
      obtain ⟨w1, w2⟩ := hW
      have w1 : List.Perm W (seg L (k * 20) ((k + 1) * 20)) := w1
      have hL := x2.len
      have wl : vn W = 20 := by rw [w1.length_eq, seg_len (by omega) (by omega)]; omega
      refine Stands.one (k + 1, L.take (k * 20) ++ W ++ L.drop ((k + 1) * 20)) ⟨⟨by show (k + 1) * 20 ≤ n; omega, x2.new (by omega) (by omega) h w1, x3.new (by omega) wl w2⟩, by show n - (k + 1) * 20 < n - k * 20; omega, ?_⟩
      ((conv => arg 1; reduce); with_reducible repeat' first | exact ty | refine ta ?_ ?_ | refine ti fun _ => ?_ | refine tf fun _ => ?_ | refine tl ?_)
      all_goals first | exact vlf | (show (((k + 1) * 20 : Nat) : Int) + 20 = (((k + 1 + 1) * 20 : Nat) : Int); omega)
      done))
 · rename_i x hx g1
   obtain ⟨k, L⟩ := x
   obtain ⟨x1, x2, x3⟩ := hx
   change k * 20 ≤ n at x1
   change Bs l L n at x2
   refine ⟨by rw [x2.len]; exact h, hn, ho, by omega, by show (((k * 20 : Nat)) : Int) ≤ (n : Int); omega, ui _, x2.pin hP h x1 (zy _)⟩
 · rename_i x hx g1 W hW
   obtain ⟨k, L⟩ := x
   obtain ⟨x1, x2, x3⟩ := hx
   change k * 20 ≤ n at x1
   change Bs l L n at x2
   change Ch1 20 k L at x3
   have g1 : ¬ (((k + 1) * 20 : Nat) : Int) ≤ (n : Int) := ov g1
   obtain ⟨w1, w2⟩ := hW
   have w1 : List.Perm W (seg L (k * 20) n) := w1
   have hL := x2.len
   have wl : vn W = n - k * 20 := by rw [w1.length_eq, seg_len (by omega) (by omega)]
   refine Stands.one (20, L.take (k * 20) ++ W ++ L.drop n) ⟨⟨zy _, by show 20 ≤ 2 * n + 20; omega, x2.new x1 (zy _) h w1, chs_of (x3.keep x1 (by omega) wl (zy _)) x1 (by omega) (fun _ => by rw [seg_new x1 (by omega) wl]; exact w2)⟩, ?_⟩
   exact vgo
 iterate 2 (
  focus
  rename_i x hx g1 V hV y hy d1
  obtain ⟨s, L⟩ := y
  first
   | (have d1 : (s : Int) < (n : Int) := ow d1
      exact inR64 (by show -9223372036854775808 ≤ 2 * (s : Int); omega) (by show 2 * (s : Int) ≤ 9223372036854775807; omega)
      done)
   | (obtain ⟨y1, y2, y3, y4⟩ := hy
      change 20 ≤ s at y1
      change Bs l L n at y3
      change Chs ltP s n L at y4
      have d1 : (s : Int) < (n : Int) := ow d1
      refine Stands.one (s, 0, L) ⟨⟨y1, by show s < n; omega, by show 0 * (2 * s) ≤ n; rw [vp]; omega, y3, fun i hi => absurd hi (ue i), fun i _ hi => y4 i hi⟩, ?_⟩
      ((conv => arg 1; reduce); with_reducible repeat' first | exact ty | refine ta ?_ ?_ | refine ti fun _ => ?_ | refine tf fun _ => ?_ | refine tl ?_)
      all_goals first | exact vlf | (show (0 : Int) = ((0 * (2 * s) : Nat) : Int); rw [vp]; rfl) | (show 2 * (s : Int) = (((0 + 1) * (2 * s) : Nat) : Int); rw [Nat.zero_add, Nat.one_mul]; omega)
      done))
 iterate 2 (
  focus
  rename_i x hx g1 V hV y hy d1 z hz k0 g
  obtain ⟨s0, L0⟩ := y
  obtain ⟨s, k, L⟩ := z
  obtain ⟨z1, z2, z3, z4, z5, z6⟩ := hz
  change 20 ≤ s at z1
  change s < n at z2
  change k * (2 * s) ≤ n at z3
  change Bs l L n at z4
  change Ch1 (2 * s) k L at z5
  change Ch2 s (2 * k) n L at z6
  have e0 : (k + 1) * (2 * s) = k * (2 * s) + 2 * s := yk k (2 * s)
  have e1 : (k + 1 + 1) * (2 * s) = (k + 1) * (2 * s) + 2 * s := yk (k + 1) (2 * s)
  have e2 : 2 * k * s = k * (2 * s) := by rw [yx 2 k, wv]
  have e3 : (2 * k + 1) * s = 2 * k * s + s := yk _ s
  have e4 : 2 * (k + 1) * s = (k + 1) * (2 * s) := by rw [yx 2 (k + 1), wv]
  have hL := z4.len
  have k0 : s0 = s := Int.ofNat.inj k0
  subst k0
  have g : (((k + 1) * (2 * s0) : Nat) : Int) ≤ (n : Int) := ow g
  first
   | (exact inR64 (by show -9223372036854775808 ≤ ((k * (2 * s0) : Nat) : Int) + (s0 : Int); omega) (by show ((k * (2 * s0) : Nat) : Int) + (s0 : Int) ≤ 9223372036854775807; omega)
      done)
   | (have e5 : (((k * (2 * s0) : Nat) : Int) + (s0 : Int)).toNat = k * (2 * s0) + s0 := by omega
      refine ⟨by show (0 : Int) ≤ ((k * (2 * s0) : Nat) : Int); omega, by show (0 : Int) ≤ ((k * (2 * s0) : Nat) : Int) + (s0 : Int); omega, by show (0 : Int) ≤ (((k + 1) * (2 * s0) : Nat) : Int); omega, ?_⟩
      show SyP o L n (k * (2 * s0)) (((k * (2 * s0) : Nat) : Int) + (s0 : Int)).toNat ((k + 1) * (2 * s0))
      rw [e5]
      exact sym_pre z4 hP h hn ho z6 (by omega) (by omega) (by omega) (.inl rfl)
      done))
 iterate 3 (
  focus
  rename_i x hx g1 V hV y hy d1 z hz k0 g W hW
  obtain ⟨s0, L0⟩ := y
  obtain ⟨s, k, L⟩ := z
  obtain ⟨z1, z2, z3, z4, z5, z6⟩ := hz
  change 20 ≤ s at z1
  change s < n at z2
  change k * (2 * s) ≤ n at z3
  change Bs l L n at z4
  change Ch1 (2 * s) k L at z5
  change Ch2 s (2 * k) n L at z6
  have e0 : (k + 1) * (2 * s) = k * (2 * s) + 2 * s := yk k (2 * s)
  have e1 : (k + 1 + 1) * (2 * s) = (k + 1) * (2 * s) + 2 * s := yk (k + 1) (2 * s)
  have e2 : 2 * k * s = k * (2 * s) := by rw [yx 2 k, wv]
  have e3 : (2 * k + 1) * s = 2 * k * s + s := yk _ s
  have e4 : 2 * (k + 1) * s = (k + 1) * (2 * s) := by rw [yx 2 (k + 1), wv]
  have hL := z4.len
  have k0 : s0 = s := Int.ofNat.inj k0
  subst k0
  have g : (((k + 1) * (2 * s0) : Nat) : Int) ≤ (n : Int) := ow g
  first
   | (exact inR64 (by show -9223372036854775808 ≤ 2 * (s0 : Int); omega) (by show 2 * (s0 : Int) ≤ 9223372036854775807; omega)
      done)
   | (exact inR64 (by show -9223372036854775808 ≤ (((k + 1) * (2 * s0) : Nat) : Int) + 2 * (s0 : Int); omega) (by show (((k + 1) * (2 * s0) : Nat) : Int) + 2 * (s0 : Int) ≤ 9223372036854775807; omega)
      done)
   | (obtain ⟨w1, w2⟩ := hW
      have w1 : List.Perm W (seg L (k * (2 * s0)) ((k + 1) * (2 * s0))) := w1
      have wl : vn W = (k + 1) * (2 * s0) - k * (2 * s0) := by rw [w1.length_eq, seg_len (by omega) (by omega)]
      refine Stands.one (s0, k + 1, L.take (k * (2 * s0)) ++ W ++ L.drop ((k + 1) * (2 * s0))) ⟨⟨z1, z2, by show (k + 1) * (2 * s0) ≤ n; omega, z4.new (by omega) (by omega) h w1, z5.new (by omega) (by omega) w2, z6.keep (k' := 2 * (k + 1)) (by omega) (by omega) wl (by omega) (by omega)⟩, by show n - (k + 1) * (2 * s0) < n - k * (2 * s0); omega, ?_⟩
      ((conv => arg 1; reduce); with_reducible repeat' first | exact ty | refine ta ?_ ?_ | refine ti fun _ => ?_ | refine tf fun _ => ?_ | refine tl ?_)
      all_goals first | exact vlf | (show (((k + 1) * (2 * s0) : Nat) : Int) + 2 * (s0 : Int) = (((k + 1 + 1) * (2 * s0) : Nat) : Int); omega)
      done))
 · rename_i x hx g1 V hV y hy d1 z hz k0 g
   obtain ⟨s0, L0⟩ := y
   obtain ⟨s, k, L⟩ := z
   obtain ⟨z1, z2, z3, z4, z5, z6⟩ := hz
   change 20 ≤ s at z1
   change s < n at z2
   change k * (2 * s) ≤ n at z3
   change Bs l L n at z4
   change Ch1 (2 * s) k L at z5
   change Ch2 s (2 * k) n L at z6
   have e0 : (k + 1) * (2 * s) = k * (2 * s) + 2 * s := yk k (2 * s)
   have e1 : (k + 1 + 1) * (2 * s) = (k + 1) * (2 * s) + 2 * s := yk (k + 1) (2 * s)
   have e2 : 2 * k * s = k * (2 * s) := by rw [yx 2 k, wv]
   have e3 : (2 * k + 1) * s = 2 * k * s + s := yk _ s
   have e4 : 2 * (k + 1) * s = (k + 1) * (2 * s) := by rw [yx 2 (k + 1), wv]
   have hL := z4.len
   have k0 : s0 = s := Int.ofNat.inj k0
   subst k0
   have g : ¬ (((k + 1) * (2 * s0) : Nat) : Int) ≤ (n : Int) := ov g
   exact inR64 (by show -9223372036854775808 ≤ ((k * (2 * s0) : Nat) : Int) + (s0 : Int); omega) (by show ((k * (2 * s0) : Nat) : Int) + (s0 : Int) ≤ 9223372036854775807; omega)
 · rename_i x hx g1 V hV y hy d1 z hz k0 g g2
   obtain ⟨s0, L0⟩ := y
   obtain ⟨s, k, L⟩ := z
   obtain ⟨z1, z2, z3, z4, z5, z6⟩ := hz
   change 20 ≤ s at z1
   change s < n at z2
   change k * (2 * s) ≤ n at z3
   change Bs l L n at z4
   change Ch1 (2 * s) k L at z5
   change Ch2 s (2 * k) n L at z6
   have e0 : (k + 1) * (2 * s) = k * (2 * s) + 2 * s := yk k (2 * s)
   have e1 : (k + 1 + 1) * (2 * s) = (k + 1) * (2 * s) + 2 * s := yk (k + 1) (2 * s)
   have e2 : 2 * k * s = k * (2 * s) := by rw [yx 2 k, wv]
   have e3 : (2 * k + 1) * s = 2 * k * s + s := yk _ s
   have e4 : 2 * (k + 1) * s = (k + 1) * (2 * s) := by rw [yx 2 (k + 1), wv]
   have hL := z4.len
   have k0 : s0 = s := Int.ofNat.inj k0
   subst k0
   have g : ¬ (((k + 1) * (2 * s0) : Nat) : Int) ≤ (n : Int) := ov g
   have g2 : ((k * (2 * s0) : Nat) : Int) + (s0 : Int) < (n : Int) := ow g2
   have e5 : (((k * (2 * s0) : Nat) : Int) + (s0 : Int)).toNat = k * (2 * s0) + s0 := by omega
   refine ⟨by show (0 : Int) ≤ ((k * (2 * s0) : Nat) : Int); omega, by show (0 : Int) ≤ ((k * (2 * s0) : Nat) : Int) + (s0 : Int); omega, by show (0 : Int) ≤ (n : Int); omega, ?_⟩
   show SyP o L n (k * (2 * s0)) (((k * (2 * s0) : Nat) : Int) + (s0 : Int)).toNat n
   rw [e5]
   exact sym_pre z4 hP h hn ho z6 (by omega) (zy _) (by omega) (.inr ⟨rfl, by omega⟩)
 iterate 2 (
  focus
  rename_i x hx g1 V hV y hy d1 z hz k0 g g2 W hW
  obtain ⟨s0, L0⟩ := y
  obtain ⟨s, k, L⟩ := z
  obtain ⟨z1, z2, z3, z4, z5, z6⟩ := hz
  change 20 ≤ s at z1
  change s < n at z2
  change k * (2 * s) ≤ n at z3
  change Bs l L n at z4
  change Ch1 (2 * s) k L at z5
  change Ch2 s (2 * k) n L at z6
  have e0 : (k + 1) * (2 * s) = k * (2 * s) + 2 * s := yk k (2 * s)
  have e1 : (k + 1 + 1) * (2 * s) = (k + 1) * (2 * s) + 2 * s := yk (k + 1) (2 * s)
  have e2 : 2 * k * s = k * (2 * s) := by rw [yx 2 k, wv]
  have e3 : (2 * k + 1) * s = 2 * k * s + s := yk _ s
  have e4 : 2 * (k + 1) * s = (k + 1) * (2 * s) := by rw [yx 2 (k + 1), wv]
  have hL := z4.len
  have k0 : s0 = s := Int.ofNat.inj k0
  subst k0
  first
   | (exact inR64 (by show -9223372036854775808 ≤ (s0 : Int) * 2; omega) (by show (s0 : Int) * 2 ≤ 9223372036854775807; omega)
      done)
   | (have g : ¬ (((k + 1) * (2 * s0) : Nat) : Int) ≤ (n : Int) := ov g
      have g2 : ((k * (2 * s0) : Nat) : Int) + (s0 : Int) < (n : Int) := ow g2
      obtain ⟨w1, w2⟩ := hW
      have w1 : List.Perm W (seg L (k * (2 * s0)) n) := w1
      have wl : vn W = n - k * (2 * s0) := by rw [w1.length_eq, seg_len (by omega) (by omega)]
      have hn2 : n < (k + 1) * (2 * s0) := by omega
      refine Stands.one (2 * s0, L.take (k * (2 * s0)) ++ W ++ L.drop n) ⟨⟨by show 20 ≤ 2 * s0; omega, by show 2 * s0 ≤ 2 * n + 20; omega, z4.new z3 (zy _) h w1, chs_of (z5.keep z3 (by omega) wl (zy _)) z3 hn2 (fun _ => by rw [seg_new z3 (by omega) wl]; exact w2)⟩, by show n - 2 * s0 < n - s0; omega, ?_⟩
      ((conv => arg 1; reduce); with_reducible repeat' first | exact ty | refine ta ?_ ?_ | refine ti fun _ => ?_ | refine tf fun _ => ?_ | refine tl ?_)
      all_goals first | exact vlf | (show (s0 : Int) * 2 = ((2 * s0 : Nat) : Int); omega)
      done))
 iterate 2 (
  focus
  rename_i x hx g1 V hV y hy d1 z hz k0 g g2
  obtain ⟨s0, L0⟩ := y
  obtain ⟨s, k, L⟩ := z
  obtain ⟨z1, z2, z3, z4, z5, z6⟩ := hz
  change 20 ≤ s at z1
  change s < n at z2
  change k * (2 * s) ≤ n at z3
  change Bs l L n at z4
  change Ch1 (2 * s) k L at z5
  change Ch2 s (2 * k) n L at z6
  have e0 : (k + 1) * (2 * s) = k * (2 * s) + 2 * s := yk k (2 * s)
  have e1 : (k + 1 + 1) * (2 * s) = (k + 1) * (2 * s) + 2 * s := yk (k + 1) (2 * s)
  have e2 : 2 * k * s = k * (2 * s) := by rw [yx 2 k, wv]
  have e3 : (2 * k + 1) * s = 2 * k * s + s := yk _ s
  have e4 : 2 * (k + 1) * s = (k + 1) * (2 * s) := by rw [yx 2 (k + 1), wv]
  have hL := z4.len
  have k0 : s0 = s := Int.ofNat.inj k0
  subst k0
  first
   | (exact inR64 (by show -9223372036854775808 ≤ (s0 : Int) * 2; omega) (by show (s0 : Int) * 2 ≤ 9223372036854775807; omega)
      done)
   | (have g : ¬ (((k + 1) * (2 * s0) : Nat) : Int) ≤ (n : Int) := ov g
      have g2 : ¬ ((k * (2 * s0) : Nat) : Int) + (s0 : Int) < (n : Int) := ov g2
      have hn2 : n < (k + 1) * (2 * s0) := by omega
      refine Stands.one (2 * s0, L) ⟨⟨by show 20 ≤ 2 * s0; omega, by show 2 * s0 ≤ 2 * n + 20; omega, z4, chs_of z5 z3 hn2 (fun hl => ?_)⟩, by show n - 2 * s0 < n - s0; omega, ?_⟩
      · have hl : k * (2 * s0) < n := hl
        have := z6 (2 * k) (zy _) (by omega)
        rw [show min ((2 * k + 1) * s0) n = n by omega, e2] at this
        exact this
      ((conv => arg 1; reduce); with_reducible repeat' first | exact ty | refine ta ?_ ?_ | refine ti fun _ => ?_ | refine tf fun _ => ?_ | refine tl ?_)
      all_goals first | exact vlf | (show (s0 : Int) * 2 = ((2 * s0 : Nat) : Int); omega)
      done))
 · rename_i x hx g1 V hV y hy d1
   obtain ⟨s, L⟩ := y
   obtain ⟨y1, y2, y3, y4⟩ := hy
   change Bs l L n at y3
   change Chs ltP s n L at y4
   have d1 : ¬ (s : Int) < (n : Int) := ov d1
   refine Ends.one (L.take n) ⟨y3.perm, y4.all (by omega)⟩ ?_
   ((conv => arg 1; reduce); with_reducible repeat' first | exact ty | refine ta ?_ ?_ | refine ti fun _ => ?_ | refine tf fun _ => ?_ | refine tl ?_)
   all_goals first | exact vlf | (show L = L.take n ++ l.drop n; rw [← y3.dr, zc]) | (show L.take n ++ l.drop n = L; rw [← y3.dr, zc])
end Go.Vx
namespace Go.Vx
open Go Go.Proofs
variable [Gl]
@[irreducible] def four (n : Int) : List Int := [IntKind.u8.wrap n, IntKind.u8.wrap (ishr .i64 n 8), IntKind.u8.wrap (ishr .i64 n 16), IntKind.u8.wrap (ishr .i64 n 24)]
theorem four_len (n : Int) : (four n).length = 4 := by unfold four; rfl
@[irreducible] def fours (l : List Int) : List Int := l.flatMap four
theorem fours_nil : fours [] = [] := by unfold fours; rfl
theorem fours_app (a b : List Int) : fours (a ++ b) = fours a ++ fours b := by unfold fours; simp
theorem fours_one (n : Int) : fours [n] = four n := by unfold fours; simp
theorem fours_len (l : List Int) : (fours l).length = 4 * l.length := by
 unfold fours
 induction l with
 | nil => rfl
 | cons x r ih => simp [four_len, ih]; omega
def Gr (L l : List Int) (k c : Nat) : Prop := k = L.length ∧ l.take k = L ∧ k ≤ c ∧ c ≤ l.length
theorem Gr.app {L l sp M : List Int} {k c c' : Nat} (h : Gr L l k c) (h1 : k + M.length ≤ c') (h2 : c' ≤ k + M.length + sp.length) : Gr (L ++ M) (l.take k ++ M ++ sp) (k + M.length) c' := by
 obtain ⟨e1, e2, e3, e4⟩ := h
 have hl : (l.take k).length = k := by rw [zp]; omega
 refine ⟨by rw [zw, ← e1], ?_, h1, by rw [zw, zw, hl]; omega⟩
 rw [yh (by rw [zw, hl]; exact zy _), zu (by rw [zw, hl]; exact zy _), e2]
theorem by5 : Tryd.prog.types[5].bytes = 1 := by kernel_rfl
theorem wput_ok (b0 q0 : Nat) (o : Bool) (b q : Nat) (l : List Int) (k c : Nat) (n : Int) (h1 : k ≤ c) (h2 : c ≤ l.length) (h3 : k < 140737488355000) (ho : o = false → k = 0 ∧ c = 0) :
 Does (C := C0) Tryd.prog (.fn 32) [⟨b0, q0, 1, true, none, .one [.sl 1 0 k c]⟩, ⟨b, q, 1, true, some o, .rows 5 l⟩] [.ptr 0 0 0, .int .i64 n]
 [⟨Nat × Nat × List Int × Nat, fun y => Gr (l.take k ++ four n) y.2.2.1 (k + 4) y.2.2.2, fun _ => .tup [], fun y => [⟨b0, q0, 1, true, none, .one [.sl 2 0 (k + 4) y.2.2.2]⟩, ⟨b, q, 1, true, some o, .dead⟩, ⟨y.1, y.2.1, 1, true, none, .rows 5 y.2.2.1⟩]⟩] := by
 refine loc_fn (P := Tryd.prog) (E := ⟨[], [], 24, [], [], []⟩) (L := []) mix Tryd.func32 rfl (by kernel_rfl) (by kernel_rfl) rfl rfl ?_
 ((conv => arg 1; reduce); with_reducible repeat' first | exact ty | refine ta ?_ ?_ | refine ti fun _ => ?_ | refine tf fun _ => ?_ | refine tl ?_)
 all_goals try exact vlf
 · rename_i b1
   rw [by5]
   exact ⟨h1, by omega, by simp, by omega⟩
 · rename_i b1 b2 q2 sp cap g1 g2
   have e : Gr (l.take k) l k c := ⟨by rw [zp]; omega, rfl, h1, h2⟩
   have e1 := e.app (M := four n) (sp := sp) (c' := cap) (by rw [four_len]; exact g1) (by rw [four_len]; exact g2)
   rw [four_len] at e1
   refine Ends.one (b2, q2, l.take k ++ four n ++ sp, cap) e1 ?_
   ((conv => arg 1; reduce); with_reducible repeat' first | exact ty | refine ta ?_ ?_ | refine ti fun _ => ?_ | refine tf fun _ => ?_ | refine tl ?_)
   all_goals try exact vlf
   unfold four; rfl
def fcPut : Fc Tryd.prog C0 where
 tg := .fn 32
 X := Nat × Nat × Bool × Nat × Nat × List Int × Nat × Nat × Int
 args := fun (b0, q0, o, b, q, l, k, c, n) => [.ptr 0 0 0, .int .i64 n]
 mem := fun (b0, q0, o, b, q, l, k, c, n) => [⟨b0, q0, 1, true, none, .one [.sl 1 0 k c]⟩, ⟨b, q, 1, true, some o, .rows 5 l⟩]
 pre := fun (b0, q0, o, b, q, l, k, c, n) => k ≤ c ∧ c ≤ l.length ∧ k < 140737488355000 ∧ (o = false → k = 0 ∧ c = 0)
 alts := fun (b0, q0, o, b, q, l, k, c, n) => [⟨Nat × Nat × List Int × Nat, fun y => Gr (l.take k ++ four n) y.2.2.1 (k + 4) y.2.2.2, fun _ => .tup [], fun y => [⟨b0, q0, 1, true, none, .one [.sl 2 0 (k + 4) y.2.2.2]⟩, ⟨b, q, 1, true, some o, .dead⟩, ⟨y.1, y.2.1, 1, true, none, .rows 5 y.2.2.1⟩]⟩]
 mat vs m := match vs with
  | [.ptr a _ _, .int _ n] => match nth m a with
    | ⟨b0, q0, _, _, _, .one [.sl a2 _ k c]⟩ => match nth m a2 with
      | ⟨b, q, _, _, g, .rows 5 l⟩ => some ((b0, q0, onOf g, b, q, l, k, c, n), [a, a2])
      | _ => none
    | ⟨b0, q0, _, _, _, .one [.nils]⟩ => some ((b0, q0, false, 0, 0, [], 0, 0, n), [a, m.length])
    | _ => none
  | _ => none
 ok := fun (b0, q0, o, b, q, l, k, c, n) h => wput_ok b0 q0 o b q l k c n h.1 h.2.1 h.2.2.1 h.2.2.2
def Lay (L0 L : List Int) (c0 : Nat) : Inv' C0 := ⟨1, Nat × Bool × Nat × Nat × List Int × Nat, fun x => [(8, .int .i64 (x.1 : Int))], fun x m => match m with
 | [a, b, c] => [⟨a.block, a.base, 1, true, none, .one [.sl 2 0 (L0.length + 4 * x.1) x.2.2.2.2.2]⟩, b, ⟨x.2.2.1, x.2.2.2.1, 1, true, some x.2.1, .rows 5 x.2.2.2.2.1⟩]
 | m => m, fun x => x.1 ≤ L.length ∧ Gr (L0 ++ fours (L.take x.1)) x.2.2.2.2.1 (L0.length + 4 * x.1) x.2.2.2.2.2 ∧ (x.2.1 = false → L0.length + 4 * x.1 = 0 ∧ x.2.2.2.2.2 = 0), fun x => L.length - x.1⟩
theorem lay_ok (b0 q0 b1 q1 : Nat) (l : List Int) (i n c : Nat) (o : Bool) (b q : Nat) (g : List Int) (k d : Nat) (h : i + n ≤ l.length) (hn : n < 35184372088700) (h1 : k ≤ d) (h2 : d ≤ g.length) (h3 : k + 4 * n < 140737488355000) (ho : o = false → k = 0 ∧ d = 0) :
 Does (C := C0) Tryd.prog (.fn 31) [⟨b0, q0, 1, true, none, .one [.sl 2 0 k d]⟩, ⟨b1, q1, 1, false, none, .rows 3 l⟩, ⟨b, q, 1, true, some o, .rows 5 g⟩] [.fn (.func 32) [.ptr 0 0 0] [], .sl 1 i n c]
 [⟨Nat × Nat × Bool × List Int × Nat, fun y => Gr (g.take k ++ fours ((l.drop i).take n)) y.2.2.2.1 (k + 4 * n) y.2.2.2.2 ∧ (y.2.2.1 = false → k + 4 * n = 0 ∧ y.2.2.2.2 = 0), fun _ => .tup [], fun y => [⟨b0, q0, 1, true, none, .one [.sl 3 0 (k + 4 * n) y.2.2.2.2]⟩, ⟨b1, q1, 1, false, none, .rows 3 l⟩, ⟨b, q, 1, true, some o, .dead⟩, ⟨y.1, y.2.1, 1, true, some y.2.2.1, .rows 5 y.2.2.2.1⟩]⟩] := by
 have hL : ((l.drop i).take n).length = n := by simp; omega
 have hG : (g.take k).length = k := by simp; omega
 refine loc_fn (P := Tryd.prog) (E := ⟨[fcPut], [], 16, [], [], []⟩) (L := [Lay (g.take k) ((l.drop i).take n) d]) mix Tryd.func31 rfl (by kernel_rfl) (by kernel_rfl) rfl rfl ?_
 ((conv => arg 1; reduce); with_reducible repeat' first | exact ty | refine ta ?_ ?_ | refine ti fun _ => ?_ | refine tf fun _ => ?_ | refine tl ?_)
 all_goals try (first | exact vlf | ((try dsimp only [Lay] at *); exact vau) | (refine on_of ho ?_; ((try dsimp only [Lay] at *); exact vau)))
 · refine Stands.one (0, o, b, q, g, d) ⟨⟨zn _, ?_, ?_⟩, ?_⟩
   · simp only [List.take_zero, fours_nil, zk]
     exact ⟨by omega, by rw [hG]; rfl, by show _ ≤ d; omega, h2⟩
   · intro e
     have := ho e
     exact ⟨by show (g.take k).length + 4 * 0 = 0; omega, this.2⟩
   exact vgo
 · rename_i v hv h1
   obtain ⟨j, p, b', q', g', d'⟩ := v
   obtain ⟨e1, e2, e3⟩ : j ≤ ((l.drop i).take n).length ∧ Gr (g.take k ++ fours (((l.drop i).take n).take j)) g' ((g.take k).length + 4 * j) d' ∧ (p = false → (g.take k).length + 4 * j = 0 ∧ d' = 0) := hv
   have h1 : decide ((j : Int) < (n : Int)) = true := h1
   have hj := ow h1
   exact ⟨e2.2.2.1, e2.2.2.2, by show (g.take k).length + 4 * j < _; omega, e3⟩
 · rename_i v hv h1 w hw
   obtain ⟨j, p, b', q', g', d'⟩ := v
   obtain ⟨b2, q2, g2, d2⟩ := w
   obtain ⟨e1, e2, e3⟩ : j ≤ ((l.drop i).take n).length ∧ Gr (g.take k ++ fours (((l.drop i).take n).take j)) g' ((g.take k).length + 4 * j) d' ∧ (p = false → (g.take k).length + 4 * j = 0 ∧ d' = 0) := hv
   have h1 : decide ((j : Int) < (n : Int)) = true := h1
   have hj : j < n := by have := ow h1; omega
   have hw : Gr (g'.take ((g.take k).length + 4 * j) ++ four (l.getD (j + i) 0)) g2 ((g.take k).length + 4 * j + 4) d2 := hw
   have e4 : fours (((l.drop i).take n).take (j + 1)) = fours (((l.drop i).take n).take j) ++ four (l.getD (j + i) 0) := by
    rw [tx, fours_app, xy hj, xp, zv (by omega)]
    simp only [Option.toList_some, fours_one]
    rw [zz, sx j i, zv (by omega)]; rfl
   rw [e2.2.1, zm, ← e4] at hw
   refine Stands.one (j + 1, true, b2, q2, g2, d2) ⟨⟨by rw [hL]; omega, ?_, ?_⟩, ?_, ?_⟩
   · exact hw
   · exact fun h => xf h
   · show ((l.drop i).take n).length - (j + 1) < ((l.drop i).take n).length - j
     rw [hL]; omega
   exact vgo
 · rename_i v hv h1
   obtain ⟨j, p, b', q', g', d'⟩ := v
   obtain ⟨e1, e2, e3⟩ : j ≤ ((l.drop i).take n).length ∧ Gr (g.take k ++ fours (((l.drop i).take n).take j)) g' ((g.take k).length + 4 * j) d' ∧ (p = false → (g.take k).length + 4 * j = 0 ∧ d' = 0) := hv
   have h1 : decide ((j : Int) < (n : Int)) = false := h1
   obtain rfl : j = n := by rw [hL] at e1; have := ov h1; omega
   rw [zu (l := (l.drop i).take j) (by rw [hL]; exact zy _), hG] at e2
   rw [hG] at e3
   refine Ends.one (b', q', p, g', d') ⟨e2, e3⟩ ?_
   ((conv => arg 1; reduce); with_reducible repeat' first | exact ty | refine ta ?_ ?_ | refine ti fun _ => ?_ | refine tf fun _ => ?_ | refine tl ?_)
   all_goals try exact vlf
   all_goals (show _ + 4 * j = _; rw [hG])
def fcLay : Fc Tryd.prog C0 where
 tg := .fn 31
 X := Nat × Nat × Nat × Nat × List Int × Nat × Nat × Nat × Bool × Nat × Nat × List Int × Nat × Nat
 args := fun (b0, q0, b1, q1, l, i, n, c, o, b, q, g, k, d) => [.fn (.func 32) [.ptr 0 0 0] [], .sl 1 i n c]
 mem := fun (b0, q0, b1, q1, l, i, n, c, o, b, q, g, k, d) => [⟨b0, q0, 1, true, none, .one [.sl 2 0 k d]⟩, ⟨b1, q1, 1, false, none, .rows 3 l⟩, ⟨b, q, 1, true, some o, .rows 5 g⟩]
 pre := fun (b0, q0, b1, q1, l, i, n, c, o, b, q, g, k, d) => i + n ≤ l.length ∧ n < 35184372088700 ∧ k ≤ d ∧ d ≤ g.length ∧ k + 4 * n < 140737488355000 ∧ (o = false → k = 0 ∧ d = 0)
 alts := fun (b0, q0, b1, q1, l, i, n, c, o, b, q, g, k, d) => [⟨Nat × Nat × Bool × List Int × Nat, fun y => Gr (g.take k ++ fours ((l.drop i).take n)) y.2.2.2.1 (k + 4 * n) y.2.2.2.2 ∧ (y.2.2.1 = false → k + 4 * n = 0 ∧ y.2.2.2.2 = 0), fun _ => .tup [], fun y => [⟨b0, q0, 1, true, none, .one [.sl 3 0 (k + 4 * n) y.2.2.2.2]⟩, ⟨b1, q1, 1, false, none, .rows 3 l⟩, ⟨b, q, 1, true, some o, .dead⟩, ⟨y.1, y.2.1, 1, true, some y.2.2.1, .rows 5 y.2.2.2.1⟩]⟩]
 mat vs m := match vs with
  | [.fn _ [.ptr a _ _] _, .sl a1 i n c] => match nth m a, nth m a1 with
    | ⟨b0, q0, _, _, _, .one [.sl a2 _ k d]⟩, ⟨b1, q1, _, _, _, .rows 3 l⟩ => match nth m a2 with
      | ⟨b, q, _, _, g, .rows 5 l2⟩ => some ((b0, q0, b1, q1, l, i, n, c, onOf g, b, q, l2, k, d), [a, a1, a2])
      | _ => none
    | ⟨b0, q0, _, _, _, .one [.nils]⟩, ⟨b1, q1, _, _, _, .rows 3 l⟩ => some ((b0, q0, b1, q1, l, i, n, c, false, 0, 0, [], 0, 0), [a, a1, m.length])
    | _, _ => none
  | _ => none
 ok := fun (b0, q0, b1, q1, l, i, n, c, o, b, q, g, k, d) h => lay_ok b0 q0 b1 q1 l i n c o b q g k d h.1 h.2.1 h.2.2.1 h.2.2.2.1 h.2.2.2.2.1 h.2.2.2.2.2
end Go.Vx
namespace Go.Vx
open Go Go.Proofs
variable [Gl]
@[irreducible] def nm (l : List Int) (i : Nat) : Int := ibit .or .i64 (ibit .or .i64 (ibit .or .i64 (l.getD i 0) (ishl .i64 (l.getD (i + 1) 0) 8)) (ishl .i64 (l.getD (i + 2) 0) 16)) (ishl .i64 (l.getD (i + 3) 0) 24)
abbrev Rs := Nat × Nat × Nat × Bool
def gs (s : Rs) : Rs := if s.2.1 < 4 then (s.1, s.2.1, s.2.2.1, true) else (srow s.2.2.1 4 s.1, s.2.1 - 4, s.2.2.1 - 4, s.2.2.2)
def gv (l : List Int) (s : Rs) : Int := if s.2.1 < 4 then 0 else nm l s.1
def Bys (l : List Int) : Prop := ∀ x ∈ l, 0 ≤ x ∧ x < 256
theorem Bys.app {a b : List Int} (h : Bys a) (h2 : Bys b) : Bys (a ++ b) := fun x hx => (List.mem_append.1 hx).elim (h x) (h2 x)
theorem Bys.take {a : List Int} (h : Bys a) (n : Nat) : Bys (a.take n) := fun x hx => h x (List.mem_of_mem_take hx)
theorem Bys.drop {a : List Int} (h : Bys a) (n : Nat) : Bys (a.drop n) := fun x hx => h x (List.mem_of_mem_drop hx)
theorem u8_in (n : Int) : 0 ≤ IntKind.u8.wrap n ∧ IntKind.u8.wrap n < 256 := by
 have h : IntKind.u8.wrap n = n % 256 := by simp [IntKind.wrap, IntKind.signed, IntKind.bits]
 omega
theorem four_byt (n : Int) : Bys (four n) := by
 unfold four
 intro x hx
 simp only [List.mem_cons, List.not_mem_nil, or_false] at hx
 rcases hx with rfl | rfl | rfl | rfl <;> exact u8_in _
theorem fours_byt (l : List Int) : Bys (fours l) := by
 unfold fours
 intro x hx
 obtain ⟨y, _, hy⟩ := List.mem_flatMap.1 hx
 exact four_byt y x hy
theorem byt_get {l : List Int} {i n : Nat} (h : Bys ((l.drop i).take n)) {j : Nat} (hj : j < n) : inR .i64 (l.getD (j + i) 0) := by
 by_cases hl : j + i < l.length
 · rw [zz, zv hl, zb]
   have := h (l[j + i]) (by
    rw [uz]
    refine ⟨j, by rw [zj]; omega, ?_⟩
    rw [List.getElem_drop]; congr 1; omega)
   exact inR64 (by omega) (by omega)
 · rw [zz, List.getElem?_eq_none (by omega)]
   exact inR64 (by decide) (by decide)
theorem loop_toList (b : ByteArray) : ∀ (k i : Nat) (r : List UInt8), i + k = b.size → ByteArray.toList.loop b i r = r.reverse ++ b.data.toList.drop i := by
 intro k
 induction k with
 | zero =>
   intro i r h
   rw [ByteArray.toList.loop, if_neg (by omega), List.drop_of_length_le (by rw [rh]; show b.size ≤ i; omega), zk]
 | succ k ih =>
   intro i r h
   rw [ByteArray.toList.loop, if_pos (by omega), ih _ _ (by omega)]
   have hi : i < b.data.toList.length := by rw [rh]; show i < b.size; omega
   rw [List.drop_eq_getElem_cons hi, List.reverse_cons, zm]
   show r.reverse ++ (b.get! i :: _) = _
   congr 2
   have hi2 : i < b.data.size := by rw [← rh]; exact hi
   rw [ByteArray.get!, Array.getElem_toList]
   exact getElem!_pos b.data i hi2
theorem toList_data (b : ByteArray) : b.toList = b.data.toList := by
 rw [ByteArray.toList, loop_toList b b.size 0 [] (by omega)]; rfl
theorem strOf_toList (l : List Int) : (strOf l).toList = l.map fun n => UInt8.ofNat n.toNat := by
 rw [toList_data]
 unfold strOf
 suffices ∀ a : ByteArray, (l.foldl (fun r n => r.push (UInt8.ofNat n.toNat)) a).data.toList = a.data.toList ++ l.map fun n => UInt8.ofNat n.toNat by
  rw [this]; rfl
 induction l with
 | nil => intro a; simp
 | cons x r ih => intro a; rw [List.foldl_cons, ih, ByteArray.data_push, Array.toList_push, ym, zm]; rfl
theorem u8_inj {a b : Int} (h1 : 0 ≤ a ∧ a < 256) (h2 : 0 ≤ b ∧ b < 256) (h : UInt8.ofNat a.toNat = UInt8.ofNat b.toNat) : a = b := by
 have h := congrArg UInt8.toNat h
 simp only [UInt8.toNat_ofNat'] at h
 omega
theorem map_inj : ∀ {a b : List Int}, Bys a → Bys b → a.map (fun n => UInt8.ofNat n.toNat) = b.map (fun n => UInt8.ofNat n.toNat) → a = b
 | [], [], _, _, _ => rfl
 | [], _ :: _, _, _, h => by simp at h
 | _ :: _, [], _, _, h => by simp at h
 | x :: a, y :: b, h1, h2, h => by
   simp only [ym, List.cons.injEq] at h
   rw [u8_inj (h1 x xj) (h2 y xj) h.1, map_inj (fun z hz => h1 z (zg _ hz)) (fun z hz => h2 z (zg _ hz)) h.2]
theorem str_eq {a b : List Int} (h1 : Bys a) (h2 : Bys b) : strEq (strOf a) (strOf b) = decide (a = b) := by
 unfold strEq
 rw [strOf_toList, strOf_toList, Bool.eq_iff_iff, beq_iff_eq, decide_eq_true_iff]
 exact ⟨map_inj h1 h2, fun h => by rw [h]⟩
theorem bytesOf_5 (l : List Int) : bytesOf (C0 5) l = l := by
 unfold bytesOf
 show l.map (fun x => x) = l
 exact List.map_id' l
theorem nm_of {l : List Int} {i a b c d : Nat} (h0 : a = i) (h1 : b = i + 1) (h2 : c = i + 2) (h3 : d = i + 3) : ibit .or .i64 (ibit .or .i64 (ibit .or .i64 (l.getD a 0) (ishl .i64 (l.getD b 0) 8)) (ishl .i64 (l.getD c 0) 16)) (ishl .i64 (l.getD d 0) 24) = nm l i := by
 subst h0 h1 h2 h3
 unfold nm; rfl
theorem get_ok (b0 q0 : Nat) (bad : Bool) (o : Bool) (b q : Nat) (l : List Int) (i n c : Nat) (h1 : n ≤ c) (h2 : i + c ≤ l.length) (h3 : n < 140737488355000) (ho : o = false → n = 0 ∧ c = 0) (hb : Bys ((l.drop i).take n)) :
 Does (C := C0) Tryd.prog (.fn 43) [⟨b0, q0, 2, true, none, .one [.sl 1 i n c, .bool (.tm bad)]⟩, ⟨b, q, 1, false, some o, .rows 5 l⟩] [.ptr 0 0 0]
 [⟨Rs × Int, fun y => y = (gs (i, n, c, bad), gv l (i, n, c, bad)), fun y => .int .i64 y.2, fun y => [⟨b0, q0, 2, true, none, .one [.sl 1 y.1.1 y.1.2.1 y.1.2.2.1, .bool (.tm y.1.2.2.2)]⟩, ⟨b, q, 1, false, some o, .rows 5 l⟩]⟩] := by
 refine loc_fn (P := Tryd.prog) (E := ⟨[], [], 56, [], [], []⟩) (L := []) mix Tryd.func43 rfl (by kernel_rfl) (by kernel_rfl) rfl rfl ?_
 ((conv => arg 1; reduce); with_reducible repeat' first | exact ty | refine ta ?_ ?_ | refine ti fun _ => ?_ | refine tf fun _ => ?_ | refine tl ?_)
 all_goals try exact vlf
 all_goals rename_i hn
 all_goals try (have hn := ov hn)
 all_goals try exact on_of ho (by omega)
 all_goals try omega
 all_goals try (show _ + i < l.length; simp only [Int.toNat]; omega)
 · have hn := ow hn
   refine Ends.one (gs (i, n, c, bad), gv l (i, n, c, bad)) rfl ?_
   have h : n < 4 := by omega
   simp only [gs, gv, h, if_true]
   exact vgo
 · exact byt_get (j := 0) hb (by omega)
 · exact byt_get (j := 1) hb (by omega)
 · exact byt_get (j := 2) hb (by omega)
 · exact byt_get (j := 3) hb (by omega)
 · refine Ends.one (gs (i, n, c, bad), gv l (i, n, c, bad)) rfl ?_
   have h : ¬ n < 4 := by omega
   simp only [gs, gv, h, if_false]
   ((conv => arg 1; reduce); with_reducible repeat' first | exact ty | refine ta ?_ ?_ | refine ti fun _ => ?_ | refine tf fun _ => ?_ | refine tl ?_)
   all_goals try exact vlf
   exact nm_of (by simp) (by simp; omega) (by simp; omega) (by simp; omega)
def fcGet : Fc Tryd.prog C0 where
 tg := .fn 43
 X := Nat × Nat × Bool × Bool × Nat × Nat × List Int × Nat × Nat × Nat
 args := fun (b0, q0, bad, o, b, q, l, i, n, c) => [.ptr 0 0 0]
 mem := fun (b0, q0, bad, o, b, q, l, i, n, c) => [⟨b0, q0, 2, true, none, .one [.sl 1 i n c, .bool (.tm bad)]⟩, ⟨b, q, 1, false, some o, .rows 5 l⟩]
 pre := fun (b0, q0, bad, o, b, q, l, i, n, c) => n ≤ c ∧ i + c ≤ l.length ∧ n < 140737488355000 ∧ (o = false → n = 0 ∧ c = 0) ∧ Bys ((l.drop i).take n)
 alts := fun (b0, q0, bad, o, b, q, l, i, n, c) => [⟨Rs × Int, fun y => y = (gs (i, n, c, bad), gv l (i, n, c, bad)), fun y => .int .i64 y.2, fun y => [⟨b0, q0, 2, true, none, .one [.sl 1 y.1.1 y.1.2.1 y.1.2.2.1, .bool (.tm y.1.2.2.2)]⟩, ⟨b, q, 1, false, some o, .rows 5 l⟩]⟩]
 mat vs m := match vs with
  | [.ptr a _ _] => match nth m a with
    | ⟨b0, q0, _, _, _, .one [.sl a2 i n c, .bool bad]⟩ => match nth m a2 with
      | ⟨b, q, _, _, g, .rows 5 l⟩ => some ((b0, q0, bad.val, onOf g, b, q, l, i, n, c), [a, a2])
      | _ => none
    | ⟨b0, q0, _, _, _, .one [.nils, .bool bad]⟩ => some ((b0, q0, bad.val, false, 0, 0, [], 0, 0, 0), [a, m.length])
    | _ => none
  | _ => none
 ok := fun (b0, q0, bad, o, b, q, l, i, n, c) h => get_ok b0 q0 bad o b q l i n c h.1 h.2.1 h.2.2.1 h.2.2.2.1 h.2.2.2.2
@[irreducible] def ieq (a b : List Int) : Bool := decide (a = b)
theorem ieq_iff {a b : List Int} : ieq a b = true ↔ a = b := by unfold ieq; exact decide_eq_true_iff
theorem ieq_yes {a b : List Int} (h : a = b) : ieq a b = true := ieq_iff.2 h
theorem sameBytes_ok (o : Bool) (b q : Nat) (l : List Int) (i n c : Nat) (o2 : Bool) (b2 q2 : Nat) (l2 : List Int) (i2 n2 c2 : Nat) (h1 : i + n ≤ l.length) (h2 : i2 + n2 ≤ l2.length) (ho : o = false → n = 0 ∧ c = 0) (ho2 : o2 = false → n2 = 0 ∧ c2 = 0) (hb : Bys ((l.drop i).take n)) (hb2 : Bys ((l2.drop i2).take n2)) :
 Tells (C := C0) Tryd.prog (.fn 14) [⟨b, q, 1, false, some o, .rows 5 l⟩, ⟨b2, q2, 1, false, some o2, .rows 5 l2⟩] [.sl 0 i n c, .sl 1 i2 n2 c2] (.bool (.tm (ieq ((l.drop i).take n) ((l2.drop i2).take n2)))) := by
 refine loc_pc (P := Tryd.prog) (E := ⟨[], [], 10, [], [], []⟩) (L := []) mix Tryd.func14 rfl (by kernel_rfl) (by kernel_rfl) rfl rfl ?_
 ((conv => arg 1; reduce); with_reducible repeat' first | exact ty | refine ta ?_ ?_ | refine ti fun _ => ?_ | refine tf fun _ => ?_ | refine tl ?_)
 all_goals try exact vlf
 · exact fun h => ⟨(ho h).1, (ho h).1⟩
 · exact ⟨h1, fun x => ⟨x, rfl⟩⟩
 · exact fun h => ⟨(ho2 h).1, (ho2 h).1⟩
 · exact ⟨h2, fun x => ⟨x, rfl⟩⟩
 · show strEq _ _ = ieq _ _
   unfold ieq
   rw [bytesOf_5, bytesOf_5]
   exact str_eq hb hb2
def pcSb : Pc Tryd.prog C0 where
 tg := .fn 14
 X := (Bool × Nat × Nat × List Int × Nat × Nat × Nat) × (Bool × Nat × Nat × List Int × Nat × Nat × Nat)
 args := fun ((o, b, q, l, i, n, c), (o2, b2, q2, l2, i2, n2, c2)) => [.sl 0 i n c, .sl 1 i2 n2 c2]
 mem := fun ((o, b, q, l, i, n, c), (o2, b2, q2, l2, i2, n2, c2)) => [⟨b, q, 1, false, some o, .rows 5 l⟩, ⟨b2, q2, 1, false, some o2, .rows 5 l2⟩]
 pre := fun ((o, b, q, l, i, n, c), (o2, b2, q2, l2, i2, n2, c2)) => i + n ≤ l.length ∧ i2 + n2 ≤ l2.length ∧ (o = false → n = 0 ∧ c = 0) ∧ (o2 = false → n2 = 0 ∧ c2 = 0) ∧ Bys ((l.drop i).take n) ∧ Bys ((l2.drop i2).take n2)
 res := fun ((o, b, q, l, i, n, c), (o2, b2, q2, l2, i2, n2, c2)) => .bool (.tm (ieq ((l.drop i).take n) ((l2.drop i2).take n2)))
 mat vs m := match vs with
  | [.sl a i n c, .sl a2 i2 n2 c2] => match nth m a, nth m a2 with
    | ⟨b, q, _, _, g, .rows 5 l⟩, ⟨b2, q2, _, _, g2, .rows 5 l2⟩ => some (((onOf g, b, q, l, i, n, c), (onOf g2, b2, q2, l2, i2, n2, c2)), [a, a2])
    | _, _ => none
  | [.nils, .sl a2 i2 n2 c2] => match nth m a2 with
    | ⟨b2, q2, _, _, g2, .rows 5 l2⟩ => some (((false, 0, 0, [], 0, 0, 0), (onOf g2, b2, q2, l2, i2, n2, c2)), [m.length, a2])
    | _ => none
  | [.sl a i n c, .nils] => match nth m a with
    | ⟨b, q, _, _, g, .rows 5 l⟩ => some (((onOf g, b, q, l, i, n, c), (false, 0, 0, [], 0, 0, 0)), [a, m.length])
    | _ => none
  | _ => none
 ok := fun ((o, b, q, l, i, n, c), (o2, b2, q2, l2, i2, n2, c2)) h => sameBytes_ok o b q l i n c o2 b2 q2 l2 i2 n2 c2 h.1 h.2.1 h.2.2.1 h.2.2.2.1 h.2.2.2.2.1 h.2.2.2.2.2
end Go.Vx
namespace Go.Vx
open Go Go.Proofs
variable [Gl]
theorem samePlace_ok (a b : Pl) : Tells (C := C0) Tryd.prog (.fn 29) [] [.agg (plE a), .agg (plE b)] (.bool (.tm (decide (a.1 = b.1) && decide (a.2 = b.2)))) := by
 refine loc_pc (P := Tryd.prog) (E := ⟨[], [], 17, [], [], []⟩) (L := []) mix Tryd.func29 rfl (by kernel_rfl) (by kernel_rfl) rfl rfl ?_
 exact vgo
def pcSamePlace : Pc Tryd.prog C0 where
 tg := .fn 29
 X := Pl × Pl
 args x := [.agg (plE x.1), .agg (plE x.2)]
 mem _ := []
 pre _ := True
 res x := .bool (.tm (decide (x.1.1 = x.2.1) && decide (x.1.2 = x.2.2)))
 mat vs _ := match vs with
  | [.agg [.int _ a1, .int _ a2], .agg [.int _ b1, .int _ b2]] => some (((a1, a2), (b1, b2)), [])
  | _ => none
 ok x _ := samePlace_ok x.1 x.2
def eqMe (a b : Me) : Bool := decide (a.kind = b.kind) && decide (a.key = b.key) && decide (a.seq = b.seq) && decide (a.stamp = b.stamp) && decide (a.batch = b.batch) && decide (a.floor = b.floor)
theorem sameMeta_ok (a b : Me) : Tells (C := C0) Tryd.prog (.fn 28) [] [.agg (meE a), .agg (meE b)] (.bool (.tm (eqMe a b))) := by
 refine loc_pc (P := Tryd.prog) (E := ⟨[], [], 45, [], [], []⟩) (L := []) mix Tryd.func28 rfl (by kernel_rfl) (by kernel_rfl) rfl rfl ?_
 exact vgo
def pcSameMeta : Pc Tryd.prog C0 where
 tg := .fn 28
 X := Me × Me
 args x := [.agg (meE x.1), .agg (meE x.2)]
 mem _ := []
 pre _ := True
 res x := .bool (.tm (eqMe x.1 x.2))
 mat vs _ := match vs with
  | [.agg [.int _ a1, .int _ a2, .int _ a3, .int _ a4, .int _ a5, .int _ a6], .agg [.int _ b1, .int _ b2, .int _ b3, .int _ b4, .int _ b5, .int _ b6]] => some ((⟨a1, a2, a3, a4, a5, a6⟩, ⟨b1, b2, b3, b4, b5, b6⟩), [])
  | _ => none
 ok x _ := sameMeta_ok x.1 x.2
def cn (n : Int) : Bool := decide (n ≥ 0) && decide (n ≤ 1073741824)
theorem cn_iff {n : Int} : cn n = true ↔ 0 ≤ n ∧ n ≤ 1073741824 := by simp [cn]
theorem count_ok (n : Int) : Tells (C := C0) Tryd.prog (.fn 34) [] [.int .i64 n] (.bool (.tm (cn n))) := by
 refine loc_pc (P := Tryd.prog) (E := ⟨[], [], 9, [], [], []⟩) (L := []) mix Tryd.func34 rfl (by kernel_rfl) (by kernel_rfl) rfl rfl ?_
 exact vgo
def pcCount : Pc Tryd.prog C0 where
 tg := .fn 34
 X := Int
 args x := [.int .i64 x]
 mem _ := []
 pre _ := True
 res x := .bool (.tm (cn x))
 mat vs _ := match vs with
  | [.int _ a] => some (a, [])
  | _ => none
 ok x _ := count_ok x
def okMe (m : Me) : Bool := decide (m.kind ≥ 1) && decide (m.kind ≤ 6) && cn m.key && cn m.seq && cn m.stamp && cn m.batch && cn m.floor
theorem rmay_ok (m : Me) : Tells (C := C0) Tryd.prog (.fn 35) [] [.agg (meE m)] (.bool (.tm (okMe m))) := by
 refine loc_pc (P := Tryd.prog) (E := ⟨[], [pcCount], 36, [], [], []⟩) (L := []) mix Tryd.func35 rfl (by kernel_rfl) (by kernel_rfl) rfl rfl ?_
 exact vgo
def pcRmay : Pc Tryd.prog C0 where
 tg := .fn 35
 X := Me
 args x := [.agg (meE x)]
 mem _ := []
 pre _ := True
 res x := .bool (.tm (okMe x))
 mat vs _ := match vs with
  | [.agg [.int _ a1, .int _ a2, .int _ a3, .int _ a4, .int _ a5, .int _ a6]] => some (⟨a1, a2, a3, a4, a5, a6⟩, [])
  | _ => none
 ok x _ := rmay_ok x
theorem ahead_ok (a b : Pl) : Tells (C := C0) Tryd.prog (.fn 40) [] [.agg (plE a), .agg (plE b)] (.bool (.tm (decide (a.1 < b.1) || (decide (a.1 = b.1) && decide (a.2 < b.2))))) := by
 refine loc_pc (P := Tryd.prog) (E := ⟨[], [], 24, [], [], []⟩) (L := []) mix Tryd.func40 rfl (by kernel_rfl) (by kernel_rfl) rfl rfl ?_
 exact vgo
def pcAhead : Pc Tryd.prog C0 where
 tg := .fn 40
 X := Pl × Pl
 args x := [.agg (plE x.1), .agg (plE x.2)]
 mem _ := []
 pre _ := True
 res x := .bool (.tm (decide (x.1.1 < x.2.1) || (decide (x.1.1 = x.2.1) && decide (x.1.2 < x.2.2))))
 mat vs _ := match vs with
  | [.agg [.int _ a1, .int _ a2], .agg [.int _ b1, .int _ b2]] => some (((a1, a2), (b1, b2)), [])
  | _ => none
 ok x _ := ahead_ok x.1 x.2
theorem num1_ok (n : Int) : Tells (C := C0) Tryd.prog (.fn 60) [] [.int .i64 n] (.bool (.tm (!cn n))) := by
 refine loc_pc (P := Tryd.prog) (E := ⟨[], [], 9, [], [], []⟩) (L := []) mix Tryd.func60 rfl (by kernel_rfl) (by kernel_rfl) rfl rfl ?_
 ((conv => arg 1; reduce); with_reducible repeat' first | exact ty | refine ta ?_ ?_ | refine ti fun _ => ?_ | refine tf fun _ => ?_ | refine tl ?_)
 all_goals try exact vlf
 show (decide (n < 0) || decide (1073741824 < n)) = !(decide (n ≥ 0) && decide (n ≤ 1073741824))
 rw [Bool.not_and, ← decide_not, ← decide_not]
 simp only [Int.not_le, ge_iff_le]
def pcNum1 : Pc Tryd.prog C0 where
 tg := .fn 60
 X := Int
 args x := [.int .i64 x]
 mem _ := []
 pre _ := True
 res x := .bool (.tm (!cn x))
 mat vs _ := match vs with
  | [.int _ a] => some (a, [])
  | _ => none
 ok x _ := num1_ok x
end Go.Vx
namespace Go.Vx
open Go Go.Proofs
variable [Gl]
theorem take_snoc {α : Type} {A : List α} {i : Nat} {d : α} (h : i < A.length) : A.take (i + 1) = A.take i ++ [A.getD i d] := by
 rw [tx]
 simp [List.getD, h]
theorem rows_at {α : Type} {l : List α} {i n v : Nat} {d : α} (hv : v < n) : ((l.drop i).take n).getD v d = l.getD (v + i) d := by
 simp only [zz, vd, if_pos hv, xp, sx i v]
theorem rows_len {α : Type} {l : List α} {i n : Nat} (h : i + n ≤ l.length) : ((l.drop i).take n).length = n := by
 rw [zp, zj]; omega
@[irreducible] def ixF {α : Type} (f : α → Bool) (A : List α) : Int := if A.any f then (A.findIdx f : Nat) else -1
@[irreducible] def anyF {α : Type} (f : α → Bool) (A : List α) : Bool := A.any f
theorem anyF_snoc {α : Type} {f : α → Bool} {A : List α} {i : Nat} {d : α} (h : i < A.length) : anyF f (A.take (i + 1)) = (anyF f (A.take i) || f (A.getD i d)) := by
 unfold anyF
 rw [take_snoc (d := d) h, List.any_append]
 simp
theorem anyF_zero {α : Type} {f : α → Bool} {A : List α} : anyF f (A.take 0) = false := by unfold anyF; rfl
theorem ixF_no {α : Type} {f : α → Bool} {A : List α} (h : anyF f A = false) : ixF f A = -1 := by
 unfold anyF at h
 unfold ixF
 rw [h]; rfl
theorem ixF_at {α : Type} {f : α → Bool} {A : List α} {i : Nat} {d : α} (hi : i < A.length) (h : anyF f (A.take i) = false) (h2 : f (A.getD i d) = true) : ixF f A = (i : Nat) := by
 have e : A.getD i d = A[i] := by rw [zz, zv hi, zb]
 rw [e] at h2
 unfold anyF at h
 rw [List.any_eq_false] at h
 unfold ixF
 rw [if_pos (List.any_eq_true.2 ⟨_, List.getElem_mem hi, h2⟩)]
 congr 1
 rw [List.findIdx_eq hi]
 refine ⟨h2, fun j hj => ?_⟩
 have := h A[j] (by rw [uz]; exact ⟨j, by omega, rfl⟩)
 simpa using this
theorem ixF_ge {α : Type} {f : α → Bool} {A : List α} : decide (ixF f A ≥ 0) = anyF f A := by
 unfold ixF anyF
 cases h : A.any f
 · simp
 · simp
def Ix {α : Type} (f : α → Bool) (A : List α) : Inv' C0 := ⟨2, Nat, fun i => [(8, .int .i64 (i : Int))], fun _ m => m, fun i => i ≤ A.length ∧ anyF f (A.take i) = false, fun i => A.length - i⟩
theorem ixn_ok (o : Bool) (b q : Nat) (l : List Int) (i n c : Nat) (h : i + n ≤ l.length) (hn : n < 4611686018427387904) (ho : o = false → n = 0 ∧ c = 0) :
 Tells (C := C0) Tryd.prog (.fn 82) [⟨b, q, 1, false, some o, .rows 3 l⟩] [.sl 0 i n c, .fn (.func 60) [] []] (.int .i64 (ixF (fun n => !cn n) ((l.drop i).take n))) := by
 have hL := rows_len h
 refine loc_pc (P := Tryd.prog) (E := ⟨[], [pcNum1], 19, [], [], []⟩) (L := [Ix (fun n => !cn n) ((l.drop i).take n)]) mix Tryd.func82 rfl (by kernel_rfl) (by kernel_rfl) rfl rfl ?_
 ((conv => arg 1; reduce); with_reducible repeat' first | exact ty | refine ta ?_ ?_ | refine ti fun _ => ?_ | refine tf fun _ => ?_ | refine tl ?_)
 all_goals try (first | exact vlf | ((try dsimp only [Ix] at *); exact vau) | (refine on_of ho ?_; ((try dsimp only [Ix] at *); exact vau)))
 · refine Stands.one (0 : Nat) ⟨⟨zn _, anyF_zero⟩, ?_⟩
   exact vgo
 · rename_i v hv h1 h2
   change Nat at v
   obtain ⟨e1, e2⟩ := hv
   have h1 : v < n := by have := ow h1; omega
   refine (ixF_at (d := 0) (by rw [hL]; exact h1) e2 ?_).symm
   rw [rows_at h1]
   exact h2
 · rename_i v hv h1 h2
   change Nat at v
   obtain ⟨e1, e2⟩ := hv
   have h1 : v < n := by have := ow h1; omega
   refine Stands.one (v + 1 : Nat) ⟨⟨by rw [hL]; exact h1, ?_⟩, ?_, ?_⟩
   · show anyF _ (((l.drop i).take n).take (v + 1)) = false
     rw [anyF_snoc (d := 0) (by rw [hL]; exact h1), e2, rows_at h1]
     exact h2
   · show ((l.drop i).take n).length - (v + 1) < ((l.drop i).take n).length - v
     rw [hL]; omega
   exact vgo
 · rename_i v hv h1
   change Nat at v
   obtain ⟨e1, e2⟩ := hv
   have h1 : ¬ v < n := by have := ov h1; omega
   rw [zu (by rw [hL]; omega)] at e2
   exact (ixF_no e2).symm
def pcIxn : Pc Tryd.prog C0 where
 tg := .fn 82
 X := Bool × Nat × Nat × List Int × Nat × Nat × Nat
 args := fun (o, b, q, l, i, n, c) => [.sl 0 i n c, .fn (.func 60) [] []]
 mem := fun (o, b, q, l, i, n, c) => [⟨b, q, 1, false, some o, .rows 3 l⟩]
 pre := fun (o, b, q, l, i, n, c) => i + n ≤ l.length ∧ n < 4611686018427387904 ∧ (o = false → n = 0 ∧ c = 0)
 res := fun (o, b, q, l, i, n, c) => .int .i64 (ixF (fun n => !cn n) ((l.drop i).take n))
 mat vs m := match vs with
  | [.sl a i n c, .fn _ _ _] => match nth m a with
    | ⟨b, q, _, _, g, .rows 3 l⟩ => some ((onOf g, b, q, l, i, n, c), [a])
    | _ => none
  | _ => none
 ok := fun (o, b, q, l, i, n, c) h => ixn_ok o b q l i n c h.1 h.2.1 h.2.2
theorem hasn_ok (o : Bool) (b q : Nat) (l : List Int) (i n c : Nat) (h : i + n ≤ l.length) (hn : n < 4611686018427387904) (ho : o = false → n = 0 ∧ c = 0) :
 Tells (C := C0) Tryd.prog (.fn 59) [⟨b, q, 1, false, some o, .rows 3 l⟩] [.sl 0 i n c, .fn (.func 60) [] []] (.bool (.tm (anyF (fun n => !cn n) ((l.drop i).take n)))) := by
 refine loc_pc (P := Tryd.prog) (E := ⟨[], [pcIxn], 9, [], [], []⟩) (L := []) mix Tryd.func59 rfl (by kernel_rfl) (by kernel_rfl) rfl rfl ?_
 ((conv => arg 1; reduce); with_reducible repeat' first | exact ty | refine ta ?_ ?_ | refine ti fun _ => ?_ | refine tf fun _ => ?_ | refine tl ?_)
 all_goals try exact vlf
 · exact ⟨h, hn, ho⟩
 · exact ixF_ge
def pcHasn : Pc Tryd.prog C0 where
 tg := .fn 59
 X := Bool × Nat × Nat × List Int × Nat × Nat × Nat
 args := fun (o, b, q, l, i, n, c) => [.sl 0 i n c, .fn (.func 60) [] []]
 mem := fun (o, b, q, l, i, n, c) => [⟨b, q, 1, false, some o, .rows 3 l⟩]
 pre := fun (o, b, q, l, i, n, c) => i + n ≤ l.length ∧ n < 4611686018427387904 ∧ (o = false → n = 0 ∧ c = 0)
 res := fun (o, b, q, l, i, n, c) => .bool (.tm (anyF (fun n => !cn n) ((l.drop i).take n)))
 mat vs m := match vs with
  | [.sl a i n c, .fn _ _ _] => match nth m a with
    | ⟨b, q, _, _, g, .rows 3 l⟩ => some ((onOf g, b, q, l, i, n, c), [a])
    | _ => none
  | _ => none
 ok := fun (o, b, q, l, i, n, c) h => hasn_ok o b q l i n c h.1 h.2.1 h.2.2
@[irreducible] def alln (A : List Int) : Bool := A.all cn
theorem alln_any (A : List Int) : (!anyF (fun n => !cn n) A) = alln A := by
 unfold anyF alln
 rw [List.not_any_eq_all_not]
 simp
theorem numb_ok (o : Bool) (b q : Nat) (l : List Int) (i n c : Nat) (h : i + n ≤ l.length) (hn : n < 4611686018427387904) (ho : o = false → n = 0 ∧ c = 0) :
 Tells (C := C0) Tryd.prog (.fn 36) [⟨b, q, 1, false, some o, .rows 3 l⟩] [.sl 0 i n c] (.bool (.tm (alln ((l.drop i).take n)))) := by
 refine loc_pc (P := Tryd.prog) (E := ⟨[], [pcHasn], 6, [], [], []⟩) (L := []) mix Tryd.func36 rfl (by kernel_rfl) (by kernel_rfl) rfl rfl ?_
 ((conv => arg 1; reduce); with_reducible repeat' first | exact ty | refine ta ?_ ?_ | refine ti fun _ => ?_ | refine tf fun _ => ?_ | refine tl ?_)
 all_goals try exact vlf
 · exact ⟨h, hn, ho⟩
 · exact alln_any _
def pcNumb : Pc Tryd.prog C0 where
 tg := .fn 36
 X := Bool × Nat × Nat × List Int × Nat × Nat × Nat
 args := fun (o, b, q, l, i, n, c) => [.sl 0 i n c]
 mem := fun (o, b, q, l, i, n, c) => [⟨b, q, 1, false, some o, .rows 3 l⟩]
 pre := fun (o, b, q, l, i, n, c) => i + n ≤ l.length ∧ n < 4611686018427387904 ∧ (o = false → n = 0 ∧ c = 0)
 res := fun (o, b, q, l, i, n, c) => .bool (.tm (alln ((l.drop i).take n)))
 mat vs m := match vs with
  | [.sl a i n c] => match nth m a with
    | ⟨b, q, _, _, g, .rows 3 l⟩ => some ((onOf g, b, q, l, i, n, c), [a])
    | _ => none
  | _ => none
 ok := fun (o, b, q, l, i, n, c) h => numb_ok o b q l i n c h.1 h.2.1 h.2.2
theorem blk1_ok (b q : Nat) (s : Slot) (x : Pl) : Tells (C := C0) Tryd.prog (.fn 38) [⟨b, q, 9, false, none, .one (slotE s)⟩] [.agg (plE x), .ptr 0 0 0] (.bool (.tm (decide (x.1 = s.pl.1)))) := by
 refine loc_pc (P := Tryd.prog) (E := ⟨[], [], 10, [], [], []⟩) (L := []) mix Tryd.func38 rfl (by kernel_rfl) (by kernel_rfl) rfl rfl ?_
 exact vgo
def pcBlk1 : Pc Tryd.prog C0 where
 tg := .fn 38
 X := Nat × Nat × Slot × Pl
 args := fun (b, q, s, x) => [.agg (plE x), .ptr 0 0 0]
 mem := fun (b, q, s, x) => [⟨b, q, 9, false, none, .one (slotE s)⟩]
 pre _ := True
 res := fun (b, q, s, x) => .bool (.tm (decide (x.1 = s.pl.1)))
 mat vs m := match vs with
  | [.agg [.int _ x1, .int _ x2], .ptr a _ _] => match nth m a with
    | ⟨b, q, _, _, _, .one [.int _ k, .int _ p1, .int _ p2, .int _ m1, .int _ m2, .int _ m3, .int _ m4, .int _ m5, .int _ m6]⟩ => some ((b, q, ⟨k, (p1, p2), ⟨m1, m2, m3, m4, m5, m6⟩⟩, (x1, x2)), [a])
    | _ => none
  | _ => none
 ok := fun (b, q, s, x) _ => blk1_ok b q s x
theorem ixb_ok (b0 q0 : Nat) (s : Slot) (o : Bool) (b q : Nat) (l : List Pl) (i n c : Nat) (h : i + n ≤ l.length) (hn : n < 4611686018427387904) (ho : o = false → n = 0 ∧ c = 0) :
 Tells (C := C0) Tryd.prog (.fn 61) [⟨b, q, 2, false, some o, .rows 87 l⟩, ⟨b0, q0, 9, false, none, .one (slotE s)⟩] [.sl 0 i n c, .fn (.func 38) [] [.ptr 1 0 0]] (.int .i64 (ixF (fun x => decide (x.1 = s.pl.1)) ((l.drop i).take n))) := by
 have hL := rows_len h
 refine loc_pc (P := Tryd.prog) (E := ⟨[], [pcBlk1], 19, [], [], []⟩) (L := [Ix (fun x => decide (x.1 = s.pl.1)) ((l.drop i).take n)]) mix Tryd.func61 rfl (by kernel_rfl) (by kernel_rfl) rfl rfl ?_
 ((conv => arg 1; reduce); with_reducible repeat' first | exact ty | refine ta ?_ ?_ | refine ti fun _ => ?_ | refine tf fun _ => ?_ | refine tl ?_)
 all_goals try (first | exact vlf | ((try dsimp only [Ix] at *); exact vau) | (refine on_of ho ?_; ((try dsimp only [Ix] at *); exact vau)))
 · refine Stands.one (0 : Nat) ⟨⟨zn _, anyF_zero⟩, ?_⟩
   exact vgo
 · rename_i v hv h1 h2
   change Nat at v
   obtain ⟨e1, e2⟩ := hv
   have h1 : v < n := by have := ow h1; omega
   refine (ixF_at (d := (0, 0)) (by rw [hL]; exact h1) e2 ?_).symm
   rw [rows_at h1]
   exact h2
 · rename_i v hv h1 h2
   change Nat at v
   obtain ⟨e1, e2⟩ := hv
   have h1 : v < n := by have := ow h1; omega
   refine Stands.one (v + 1 : Nat) ⟨⟨by rw [hL]; exact h1, ?_⟩, ?_, ?_⟩
   · show anyF _ (((l.drop i).take n).take (v + 1)) = false
     rw [anyF_snoc (d := (0, 0)) (by rw [hL]; exact h1), e2, rows_at h1]
     exact h2
   · show ((l.drop i).take n).length - (v + 1) < ((l.drop i).take n).length - v
     rw [hL]; omega
   exact vgo
 · rename_i v hv h1
   change Nat at v
   obtain ⟨e1, e2⟩ := hv
   have h1 : ¬ v < n := by have := ov h1; omega
   rw [zu (by rw [hL]; omega)] at e2
   exact (ixF_no e2).symm
def pcIxb : Pc Tryd.prog C0 where
 tg := .fn 61
 X := Nat × Nat × Slot × Bool × Nat × Nat × List Pl × Nat × Nat × Nat
 args := fun (b0, q0, s, o, b, q, l, i, n, c) => [.sl 0 i n c, .fn (.func 38) [] [.ptr 1 0 0]]
 mem := fun (b0, q0, s, o, b, q, l, i, n, c) => [⟨b, q, 2, false, some o, .rows 87 l⟩, ⟨b0, q0, 9, false, none, .one (slotE s)⟩]
 pre := fun (b0, q0, s, o, b, q, l, i, n, c) => i + n ≤ l.length ∧ n < 4611686018427387904 ∧ (o = false → n = 0 ∧ c = 0)
 res := fun (b0, q0, s, o, b, q, l, i, n, c) => .int .i64 (ixF (fun x => decide (x.1 = s.pl.1)) ((l.drop i).take n))
 mat vs m := match vs with
  | [.sl a i n c, .fn _ _ [.ptr a2 _ _]] => match nth m a, nth m a2 with
    | ⟨b, q, _, _, g, .rows 87 l⟩, ⟨b0, q0, _, _, _, .one [.int _ k, .int _ p1, .int _ p2, .int _ m1, .int _ m2, .int _ m3, .int _ m4, .int _ m5, .int _ m6]⟩ => some ((b0, q0, ⟨k, (p1, p2), ⟨m1, m2, m3, m4, m5, m6⟩⟩, onOf g, b, q, l, i, n, c), [a, a2])
    | _, _ => none
  | [.nils, .fn _ _ [.ptr a2 _ _]] => match nth m a2 with
    | ⟨b0, q0, _, _, _, .one [.int _ k, .int _ p1, .int _ p2, .int _ m1, .int _ m2, .int _ m3, .int _ m4, .int _ m5, .int _ m6]⟩ => some ((b0, q0, ⟨k, (p1, p2), ⟨m1, m2, m3, m4, m5, m6⟩⟩, false, 0, 0, [], 0, 0, 0), [m.length, a2])
    | _ => none
  | _ => none
 ok := fun (b0, q0, s, o, b, q, l, i, n, c) h => ixb_ok b0 q0 s o b q l i n c h.1 h.2.1 h.2.2
theorem hasb_ok (b0 q0 : Nat) (s : Slot) (o : Bool) (b q : Nat) (l : List Pl) (i n c : Nat) (h : i + n ≤ l.length) (hn : n < 4611686018427387904) (ho : o = false → n = 0 ∧ c = 0) :
 Tells (C := C0) Tryd.prog (.fn 37) [⟨b, q, 2, false, some o, .rows 87 l⟩, ⟨b0, q0, 9, false, none, .one (slotE s)⟩] [.sl 0 i n c, .fn (.func 38) [] [.ptr 1 0 0]] (.bool (.tm (anyF (fun x => decide (x.1 = s.pl.1)) ((l.drop i).take n)))) := by
 refine loc_pc (P := Tryd.prog) (E := ⟨[], [pcIxb], 9, [], [], []⟩) (L := []) mix Tryd.func37 rfl (by kernel_rfl) (by kernel_rfl) rfl rfl ?_
 ((conv => arg 1; reduce); with_reducible repeat' first | exact ty | refine ta ?_ ?_ | refine ti fun _ => ?_ | refine tf fun _ => ?_ | refine tl ?_)
 all_goals try exact vlf
 · exact ⟨h, hn, ho⟩
 · exact ixF_ge
def pcHasb : Pc Tryd.prog C0 where
 tg := .fn 37
 X := Nat × Nat × Slot × Bool × Nat × Nat × List Pl × Nat × Nat × Nat
 args := fun (b0, q0, s, o, b, q, l, i, n, c) => [.sl 0 i n c, .fn (.func 38) [] [.ptr 1 0 0]]
 mem := fun (b0, q0, s, o, b, q, l, i, n, c) => [⟨b, q, 2, false, some o, .rows 87 l⟩, ⟨b0, q0, 9, false, none, .one (slotE s)⟩]
 pre := fun (b0, q0, s, o, b, q, l, i, n, c) => i + n ≤ l.length ∧ n < 4611686018427387904 ∧ (o = false → n = 0 ∧ c = 0)
 res := fun (b0, q0, s, o, b, q, l, i, n, c) => .bool (.tm (anyF (fun x => decide (x.1 = s.pl.1)) ((l.drop i).take n)))
 mat vs m := match vs with
  | [.sl a i n c, .fn _ _ [.ptr a2 _ _]] => match nth m a, nth m a2 with
    | ⟨b, q, _, _, g, .rows 87 l⟩, ⟨b0, q0, _, _, _, .one [.int _ k, .int _ p1, .int _ p2, .int _ m1, .int _ m2, .int _ m3, .int _ m4, .int _ m5, .int _ m6]⟩ => some ((b0, q0, ⟨k, (p1, p2), ⟨m1, m2, m3, m4, m5, m6⟩⟩, onOf g, b, q, l, i, n, c), [a, a2])
    | _, _ => none
  | [.nils, .fn _ _ [.ptr a2 _ _]] => match nth m a2 with
    | ⟨b0, q0, _, _, _, .one [.int _ k, .int _ p1, .int _ p2, .int _ m1, .int _ m2, .int _ m3, .int _ m4, .int _ m5, .int _ m6]⟩ => some ((b0, q0, ⟨k, (p1, p2), ⟨m1, m2, m3, m4, m5, m6⟩⟩, false, 0, 0, [], 0, 0, 0), [m.length, a2])
    | _ => none
  | _ => none
 ok := fun (b0, q0, s, o, b, q, l, i, n, c) h => hasb_ok b0 q0 s o b q l i n c h.1 h.2.1 h.2.2
end Go.Vx
namespace Go.Vx
open Go Go.Proofs
variable [Gl]
abbrev fs6 : List Nat := [83, 84, 85, 86, 87, 88]
theorem fields_ok : Does (C := C0) Tryd.prog (.fn 62) [] [] [⟨Nat, fun _ => True, fun _ => .sl 0 0 6 6, fun b => [⟨b, 0, 1, true, none, .rows 127 fs6⟩]⟩] := by
 refine loc_fn (P := Tryd.prog) (E := ⟨[], [], 2, [], [], []⟩) (L := []) mix Tryd.func62 rfl (by kernel_rfl) (by kernel_rfl) rfl rfl ?_
 ((conv => arg 1; reduce); with_reducible repeat' first | exact ty | refine ta ?_ ?_ | refine ti fun _ => ?_ | refine tf fun _ => ?_ | refine tl ?_)
 all_goals try exact vlf
 all_goals rename_i b
 all_goals refine Ends.one b trivial ?_
 all_goals exact vgo
def fcFields : Fc Tryd.prog C0 where
 tg := .fn 62
 X := Unit
 args _ := []
 mem _ := []
 pre _ := True
 alts _ := [⟨Nat, fun _ => True, fun _ => .sl 0 0 6 6, fun b => [⟨b, 0, 1, true, none, .rows 127 fs6⟩]⟩]
 mat _ _ := some ((), [])
 ok _ _ := fields_ok
theorem fld0_ok (b q : Nat) (m : Me) : Tells (C := C0) Tryd.prog (.fn 83) [⟨b, q, 6, false, none, .one (meE m)⟩] [.ptr 0 0 0] (.ptr 0 0 0) := by
 refine loc_pc (P := Tryd.prog) (E := ⟨[], [], 7, [], [], []⟩) (L := []) mix Tryd.func83 rfl (by kernel_rfl) (by kernel_rfl) rfl rfl ?_
 exact vgo
def pcFld0 : Pc Tryd.prog C0 where
 tg := .fn 83
 X := Nat × Nat × Me
 args := fun (b, q, m) => [.ptr 0 0 0]
 mem := fun (b, q, m) => [⟨b, q, 6, false, none, .one (meE m)⟩]
 pre _ := True
 res := fun (b, q, m) => .ptr 0 0 0
 mat vs m := match vs with
  | [.ptr a _ _] => match nth m a with
    | ⟨b, q, _, _, _, .one [.int _ m1, .int _ m2, .int _ m3, .int _ m4, .int _ m5, .int _ m6]⟩ => some ((b, q, ⟨m1, m2, m3, m4, m5, m6⟩), [a])
    | _ => none
  | _ => none
 ok := fun (b, q, m) _ => fld0_ok b q m
theorem fld1_ok (b q : Nat) (m : Me) : Tells (C := C0) Tryd.prog (.fn 84) [⟨b, q, 6, false, none, .one (meE m)⟩] [.ptr 0 0 0] (.ptr 0 0 1) := by
 refine loc_pc (P := Tryd.prog) (E := ⟨[], [], 7, [], [], []⟩) (L := []) mix Tryd.func84 rfl (by kernel_rfl) (by kernel_rfl) rfl rfl ?_
 exact vgo
def pcFld1 : Pc Tryd.prog C0 where
 tg := .fn 84
 X := Nat × Nat × Me
 args := fun (b, q, m) => [.ptr 0 0 0]
 mem := fun (b, q, m) => [⟨b, q, 6, false, none, .one (meE m)⟩]
 pre _ := True
 res := fun (b, q, m) => .ptr 0 0 1
 mat vs m := match vs with
  | [.ptr a _ _] => match nth m a with
    | ⟨b, q, _, _, _, .one [.int _ m1, .int _ m2, .int _ m3, .int _ m4, .int _ m5, .int _ m6]⟩ => some ((b, q, ⟨m1, m2, m3, m4, m5, m6⟩), [a])
    | _ => none
  | _ => none
 ok := fun (b, q, m) _ => fld1_ok b q m
theorem fld2_ok (b q : Nat) (m : Me) : Tells (C := C0) Tryd.prog (.fn 85) [⟨b, q, 6, false, none, .one (meE m)⟩] [.ptr 0 0 0] (.ptr 0 0 2) := by
 refine loc_pc (P := Tryd.prog) (E := ⟨[], [], 7, [], [], []⟩) (L := []) mix Tryd.func85 rfl (by kernel_rfl) (by kernel_rfl) rfl rfl ?_
 exact vgo
def pcFld2 : Pc Tryd.prog C0 where
 tg := .fn 85
 X := Nat × Nat × Me
 args := fun (b, q, m) => [.ptr 0 0 0]
 mem := fun (b, q, m) => [⟨b, q, 6, false, none, .one (meE m)⟩]
 pre _ := True
 res := fun (b, q, m) => .ptr 0 0 2
 mat vs m := match vs with
  | [.ptr a _ _] => match nth m a with
    | ⟨b, q, _, _, _, .one [.int _ m1, .int _ m2, .int _ m3, .int _ m4, .int _ m5, .int _ m6]⟩ => some ((b, q, ⟨m1, m2, m3, m4, m5, m6⟩), [a])
    | _ => none
  | _ => none
 ok := fun (b, q, m) _ => fld2_ok b q m
theorem fld3_ok (b q : Nat) (m : Me) : Tells (C := C0) Tryd.prog (.fn 86) [⟨b, q, 6, false, none, .one (meE m)⟩] [.ptr 0 0 0] (.ptr 0 0 3) := by
 refine loc_pc (P := Tryd.prog) (E := ⟨[], [], 7, [], [], []⟩) (L := []) mix Tryd.func86 rfl (by kernel_rfl) (by kernel_rfl) rfl rfl ?_
 exact vgo
def pcFld3 : Pc Tryd.prog C0 where
 tg := .fn 86
 X := Nat × Nat × Me
 args := fun (b, q, m) => [.ptr 0 0 0]
 mem := fun (b, q, m) => [⟨b, q, 6, false, none, .one (meE m)⟩]
 pre _ := True
 res := fun (b, q, m) => .ptr 0 0 3
 mat vs m := match vs with
  | [.ptr a _ _] => match nth m a with
    | ⟨b, q, _, _, _, .one [.int _ m1, .int _ m2, .int _ m3, .int _ m4, .int _ m5, .int _ m6]⟩ => some ((b, q, ⟨m1, m2, m3, m4, m5, m6⟩), [a])
    | _ => none
  | _ => none
 ok := fun (b, q, m) _ => fld3_ok b q m
theorem fld4_ok (b q : Nat) (m : Me) : Tells (C := C0) Tryd.prog (.fn 87) [⟨b, q, 6, false, none, .one (meE m)⟩] [.ptr 0 0 0] (.ptr 0 0 4) := by
 refine loc_pc (P := Tryd.prog) (E := ⟨[], [], 7, [], [], []⟩) (L := []) mix Tryd.func87 rfl (by kernel_rfl) (by kernel_rfl) rfl rfl ?_
 exact vgo
def pcFld4 : Pc Tryd.prog C0 where
 tg := .fn 87
 X := Nat × Nat × Me
 args := fun (b, q, m) => [.ptr 0 0 0]
 mem := fun (b, q, m) => [⟨b, q, 6, false, none, .one (meE m)⟩]
 pre _ := True
 res := fun (b, q, m) => .ptr 0 0 4
 mat vs m := match vs with
  | [.ptr a _ _] => match nth m a with
    | ⟨b, q, _, _, _, .one [.int _ m1, .int _ m2, .int _ m3, .int _ m4, .int _ m5, .int _ m6]⟩ => some ((b, q, ⟨m1, m2, m3, m4, m5, m6⟩), [a])
    | _ => none
  | _ => none
 ok := fun (b, q, m) _ => fld4_ok b q m
theorem fld5_ok (b q : Nat) (m : Me) : Tells (C := C0) Tryd.prog (.fn 88) [⟨b, q, 6, false, none, .one (meE m)⟩] [.ptr 0 0 0] (.ptr 0 0 5) := by
 refine loc_pc (P := Tryd.prog) (E := ⟨[], [], 7, [], [], []⟩) (L := []) mix Tryd.func88 rfl (by kernel_rfl) (by kernel_rfl) rfl rfl ?_
 exact vgo
def pcFld5 : Pc Tryd.prog C0 where
 tg := .fn 88
 X := Nat × Nat × Me
 args := fun (b, q, m) => [.ptr 0 0 0]
 mem := fun (b, q, m) => [⟨b, q, 6, false, none, .one (meE m)⟩]
 pre _ := True
 res := fun (b, q, m) => .ptr 0 0 5
 mat vs m := match vs with
  | [.ptr a _ _] => match nth m a with
    | ⟨b, q, _, _, _, .one [.int _ m1, .int _ m2, .int _ m3, .int _ m4, .int _ m5, .int _ m6]⟩ => some ((b, q, ⟨m1, m2, m3, m4, m5, m6⟩), [a])
    | _ => none
  | _ => none
 ok := fun (b, q, m) _ => fld5_ok b q m
def Fl (k : Nat) (p : Prop) : Inv' C0 := ⟨3, Unit, fun _ => [(11, .int .i64 (k : Nat))], fun _ m => m, fun _ => p, fun _ => 6 - k⟩
theorem or_no {x : Int} (h : (decide (x < 0) || decide (1073741824 < x)) = true) : cn x = false := by
 cases hc : cn x with
 | false => rfl
 | true =>
   have := cn_iff.1 hc
   simp only [yr, decide_eq_true_iff] at h
   omega
theorem or_yes {x : Int} (h : (decide (x < 0) || decide (1073741824 < x)) = false) : cn x = true := by
 rw [cn_iff]
 simp only [yi, decide_eq_false_iff_not] at h
 omega
theorem kind_no {m : Me} (h : cn m.kind = false) : (decide (1 ≤ m.kind) && decide (m.kind ≤ 6)) = false := by
 cases hc : (decide (1 ≤ m.kind) && decide (m.kind ≤ 6)) with
 | false => rfl
 | true =>
   simp only [zx, decide_eq_true_iff] at hc
   rw [cn_iff.2 ⟨by omega, by omega⟩] at h
   cases h
theorem may_ok (m : Me) : Tells (C := C0) Tryd.prog (.fn 39) [] [.agg (meE m)] (.bool (.tm (okMe m))) := by
 refine loc_pc (P := Tryd.prog) (E := ⟨[fcFields], [pcFld0, pcFld1, pcFld2, pcFld3, pcFld4, pcFld5], 38, [], [], []⟩) (L := [Fl 0 True, Fl 1 (cn m.kind = true), Fl 2 (cn m.kind = true ∧ cn m.key = true), Fl 3 (cn m.kind = true ∧ cn m.key = true ∧ cn m.seq = true), Fl 4 (cn m.kind = true ∧ cn m.key = true ∧ cn m.seq = true ∧ cn m.stamp = true), Fl 5 (cn m.kind = true ∧ cn m.key = true ∧ cn m.seq = true ∧ cn m.stamp = true ∧ cn m.batch = true), Fl 6 (cn m.kind = true ∧ cn m.key = true ∧ cn m.seq = true ∧ cn m.stamp = true ∧ cn m.batch = true ∧ cn m.floor = true)]) mix Tryd.func39 rfl (by kernel_rfl) (by kernel_rfl) rfl rfl ?_
 ((conv => arg 1; reduce); with_reducible repeat' first | exact ty | refine ta ?_ ?_ | refine ti fun _ => ?_ | refine tf fun _ => ?_ | refine tl ?_)
 all_goals try exact vlf
 all_goals try exact absurd (by with_reducible assumption : decide (((6 : Nat) : Int) < ((6 : Nat) : Int)) = true) (by decide)
 all_goals try exact absurd (by with_reducible assumption : decide (((0 : Nat) : Int) < ((6 : Nat) : Int)) = false) (by decide)
 all_goals try exact absurd (by with_reducible assumption : decide (((1 : Nat) : Int) < ((6 : Nat) : Int)) = false) (by decide)
 all_goals try exact absurd (by with_reducible assumption : decide (((2 : Nat) : Int) < ((6 : Nat) : Int)) = false) (by decide)
 all_goals try exact absurd (by with_reducible assumption : decide (((3 : Nat) : Int) < ((6 : Nat) : Int)) = false) (by decide)
 all_goals try exact absurd (by with_reducible assumption : decide (((4 : Nat) : Int) < ((6 : Nat) : Int)) = false) (by decide)
 all_goals try exact absurd (by with_reducible assumption : decide (((5 : Nat) : Int) < ((6 : Nat) : Int)) = false) (by decide)
 · refine Stands.one () ⟨trivial, ?_⟩
   exact vgo
 · exact (by decide : 0 < 6)
 · rename_i v hv h1 h2
   have h2 := or_no h2
   show false = okMe m
   simp [okMe, kind_no h2]
 · rename_i v hv h1 h2
   refine Stands.next (Stands.one () ⟨?_, ?_, ?_⟩)
   · exact or_yes h2
   · exact (by decide : 6 - 1 < 6 - 0)
   exact vgo
 · exact (by decide : 1 < 6)
 · rename_i v hv h1 h2
   have h2 := or_no h2
   show false = okMe m
   simp [okMe, h2]
 · rename_i v hv h1 h2
   refine Stands.next (Stands.next (Stands.one () ⟨?_, ?_, ?_⟩))
   · exact ⟨hv, or_yes h2⟩
   · exact (by decide : 6 - 2 < 6 - 1)
   exact vgo
 · exact (by decide : 2 < 6)
 · rename_i v hv h1 h2
   have h2 := or_no h2
   show false = okMe m
   simp [okMe, h2]
 · rename_i v hv h1 h2
   refine Stands.next (Stands.next (Stands.next (Stands.one () ⟨?_, ?_, ?_⟩)))
   · exact ⟨hv.1, hv.2, or_yes h2⟩
   · exact (by decide : 6 - 3 < 6 - 2)
   exact vgo
 · exact (by decide : 3 < 6)
 · rename_i v hv h1 h2
   have h2 := or_no h2
   show false = okMe m
   simp [okMe, h2]
 · rename_i v hv h1 h2
   refine Stands.next (Stands.next (Stands.next (Stands.next (Stands.one () ⟨?_, ?_, ?_⟩))))
   · exact ⟨hv.1, hv.2.1, hv.2.2, or_yes h2⟩
   · exact (by decide : 6 - 4 < 6 - 3)
   exact vgo
 · exact (by decide : 4 < 6)
 · rename_i v hv h1 h2
   have h2 := or_no h2
   show false = okMe m
   simp [okMe, h2]
 · rename_i v hv h1 h2
   refine Stands.next (Stands.next (Stands.next (Stands.next (Stands.next (Stands.one () ⟨?_, ?_, ?_⟩)))))
   · exact ⟨hv.1, hv.2.1, hv.2.2.1, hv.2.2.2, or_yes h2⟩
   · exact (by decide : 6 - 5 < 6 - 4)
   exact vgo
 · exact (by decide : 5 < 6)
 · rename_i v hv h1 h2
   have h2 := or_no h2
   show false = okMe m
   simp [okMe, h2]
 · rename_i v hv h1 h2
   refine Stands.next (Stands.next (Stands.next (Stands.next (Stands.next (Stands.next (Stands.one () ⟨?_, ?_, ?_⟩))))))
   · exact ⟨hv.1, hv.2.1, hv.2.2.1, hv.2.2.2.1, hv.2.2.2.2, or_yes h2⟩
   · exact (by decide : 6 - 6 < 6 - 5)
   exact vgo
 · rename_i v hv h1
   obtain ⟨e1, e2, e3, e4, e5, e6⟩ := hv
   show (decide (1 ≤ m.kind) && decide (m.kind ≤ 6)) = okMe m
   simp [okMe, e1, e2, e3, e4, e5, e6]
def pcMay : Pc Tryd.prog C0 where
 tg := .fn 39
 X := Me
 args x := [.agg (meE x)]
 mem _ := []
 pre _ := True
 res x := .bool (.tm (okMe x))
 mat vs _ := match vs with
  | [.agg [.int _ a1, .int _ a2, .int _ a3, .int _ a4, .int _ a5, .int _ a6]] => some (⟨a1, a2, a3, a4, a5, a6⟩, [])
  | _ => none
 ok x _ := may_ok x
end Go.Vx
namespace Go.Vx
open Go Go.Proofs
variable [Gl]
theorem tk_at {α : Type} {l : List α} {n v : Nat} {d : α} (hv : v < n) : (l.take n).getD v d = l.getD v d := by
 simp only [zz, vd, if_pos hv]
theorem tk_len {α : Type} {l : List α} {n : Nat} (h : n ≤ l.length) : (l.take n).length = n := by
 rw [zp]; omega
end Go.Vx
namespace Go.Vx
open Go Go.Proofs
variable [Gl]
abbrev Hd := Int × Int × Int × Int
abbrev Sq (α : Type) := Bool × Nat × Nat × List α × Nat × Nat
def Sq.ok {α : Type} (s : Sq α) : Prop := s.2.2.2.2.1 ≤ s.2.2.2.2.2 ∧ s.2.2.2.2.1 ≤ s.2.2.2.1.length ∧ (s.1 = false → s.2.2.2.2.1 = 0 ∧ s.2.2.2.2.2 = 0)
def Sq.li {α : Type} (s : Sq α) : List α := s.2.2.2.1.take s.2.2.2.2.1
def Rok {α : Type} (r : Rw α) : Prop := (r.on = false → r.l.length = 0 ∧ r.m = 0) ∧ r.l.length ≤ r.m ∧ r.l.length < 140737488355000
abbrev ptv (h : Hd) (a b : SV) : SV := .agg [.int .i64 h.1, .int .i64 h.2.1, .int .i64 h.2.2.1, .int .i64 h.2.2.2, a, b]
@[irreducible] def fr (A : List (Rw Int)) (k : Nat) : Bool := decide (A.length ≤ 70) && decide (k ≤ 100) && A.all fun r => decide (r.l.length = 2)
theorem fr_big {A : List (Rw Int)} {k : Nat} (h : 70 < A.length ∨ 100 < k) : fr A k = false := by
 cases hf : fr A k with
 | false => rfl
 | true =>
   unfold fr at hf
   simp only [zx, decide_eq_true_iff] at hf
   omega
theorem fr_row {A : List (Rw Int)} {k : Nat} {r : Rw Int} (h : r ∈ A) (hl : r.l.length ≠ 2) : fr A k = false := by
 cases hf : fr A k with
 | false => rfl
 | true =>
   unfold fr at hf
   simp only [zx, vg, decide_eq_true_iff] at hf
   exact (hl (hf.2 r h)).elim
theorem fr_iff {A : List (Rw Int)} {k : Nat} : fr A k = true ↔ A.length ≤ 70 ∧ k ≤ 100 ∧ ∀ r ∈ A, r.l.length = 2 := by
 unfold fr
 simp only [zx, vg, decide_eq_true_iff, and_assoc]
theorem fr_yes {A : List (Rw Int)} {k : Nat} (h : A.length ≤ 70) (h2 : k ≤ 100) (h3 : ∀ r ∈ A, r.l.length = 2) : fr A k = true := fr_iff.2 ⟨h, h2, h3⟩
def Fr (A : List (Rw Int)) : Inv' C0 := ⟨4, Nat, fun i => [(3, .int .i64 (i : Int))], fun _ m => m, fun i => i ≤ A.length ∧ ∀ r ∈ A.take i, r.l.length = 2, fun i => A.length - i⟩
theorem fair_ok (h : Hd) (o : Bool) (b q : Nat) (l : List (Rw Int)) (n c : Nat) (o' : Bool) (b' q' : Nat) (l' : List Slot) (n' c' : Nat) (h1 : n ≤ l.length) (ho : o = false → n = 0 ∧ c = 0) :
 Tells (C := C0) Tryd.prog (.fn 9) [⟨b, q, 1, false, some o, .rows 71 l⟩, ⟨b', q', 9, false, some o', .rows 74 l'⟩] [ptv h (.sl 0 0 n c) (.sl 1 0 n' c')] (.bool (.tm (fr (l.take n) n'))) := by
 refine loc_pc (P := Tryd.prog) (E := ⟨[], [], 28, [], [fI], []⟩) (L := [Fr (l.take n)]) mix Tryd.func9 rfl (by kernel_rfl) (by kernel_rfl) rfl rfl ?_
 ((conv => arg 1; reduce); with_reducible repeat' first | exact ty | refine ta ?_ ?_ | refine ti fun _ => ?_ | refine tf fun _ => ?_ | refine tl ?_)
 all_goals try exact vlf
 · rename_i b0 h0
   refine (fr_big ?_).symm
   have h0 : (decide (70 < (n : Int)) || decide (100 < (n' : Int))) = true := h0
   simp only [yr, decide_eq_true_iff] at h0
   rw [tk_len h1]
   omega
 · rename_i b0 h0
   refine Stands.one (0 : Nat) ⟨⟨zn _, by simp⟩, ?_⟩
   exact vgo
 · rename_i b0 h0 v hv h2
   change Nat at v
   have h2 := ow h2
   exact on_of ho (by omega)
 iterate 3 (
  focus
  rename_i b0 h0 v hv h2
  first
   | (exact ow h2
      done)
   | (change Nat at v
      have h2 := ow h2
      exact on_of ho (by omega)
      done)
   | (change Nat at v
      have h2 := ow h2
      show (v : Int).toNat + 0 < l.length
      omega
      done))
 iterate 3 (
  focus
  rename_i b0 h0 v hv h2 r hr h3
  change Nat at v
  have h2 := ow h2
  first
   | (change Rw Int at r
      have h3 : ((r.l.length : Nat) : Int) ≠ 2 := ow h3
      refine (fr_row (r := r) ?_ (by omega)).symm
      have hr : l.getD v Rw.nil = r := hr
      rw [zz, zv (by omega), zb] at hr
      rw [← hr, uz]
      exact ⟨v, by omega, rfl⟩
      done)
   | (have h0 : (decide (70 < (n : Int)) || decide (100 < (n' : Int))) = false := h0
      simp only [yi, decide_eq_false_iff_not] at h0
      exact inR64 (by show _ ≤ (v : Int) + 1; omega) (by show (v : Int) + 1 ≤ _; omega)
      done)
   | (change Rw Int at r
      have h3 : ¬ ((r.l.length : Nat) : Int) ≠ 2 := ov h3
      obtain ⟨e1, e2⟩ := hv
      have hr : l.getD v Rw.nil = r := hr
      refine Stands.one (v + 1 : Nat) ⟨⟨by rw [tk_len h1]; omega, ?_⟩, ?_, ?_⟩
      · intro r2 hr2
        have hr2 : r2 ∈ (l.take n).take (v + 1) := hr2
        rw [take_snoc (d := Rw.nil) (by rw [tk_len h1]; omega), tk_at (by omega), hr] at hr2
        rcases List.mem_append.1 hr2 with h4 | h4
        · exact e2 r2 h4
        · rw [List.mem_singleton.1 h4]; omega
      · show (l.take n).length - (v + 1) < (l.take n).length - v
        rw [tk_len h1]; omega
      exact vgo
      done))
 · rename_i b0 h0 v hv h2
   change Nat at v
   have h2 := ov h2
   obtain ⟨e1, e2⟩ := hv
   have h0 : (decide (70 < (n : Int)) || decide (100 < (n' : Int))) = false := h0
   simp only [yi, decide_eq_false_iff_not] at h0
   rw [zu (by rw [tk_len h1]; omega)] at e2
   exact (fr_yes (by rw [tk_len h1]; omega) (by omega) e2).symm
def pcFair : Pc Tryd.prog C0 where
 tg := .fn 9
 X := Hd × Sq (Rw Int) × Sq Slot
 args := fun (h, (o, b, q, l, n, c), (o', b', q', l', n', c')) => [ptv h (.sl 0 0 n c) (.sl 1 0 n' c')]
 mem := fun (h, (o, b, q, l, n, c), (o', b', q', l', n', c')) => [⟨b, q, 1, false, some o, .rows 71 l⟩, ⟨b', q', 9, false, some o', .rows 74 l'⟩]
 pre := fun (h, (o, b, q, l, n, c), (o', b', q', l', n', c')) => n ≤ l.length ∧ (o = false → n = 0 ∧ c = 0)
 res := fun (h, (o, b, q, l, n, c), (o', b', q', l', n', c')) => .bool (.tm (fr (l.take n) n'))
 mat vs m := match vs with
  | [.agg [.int _ h1, .int _ h2, .int _ h3, .int _ h4, .sl a 0 n c, .sl a' 0 n' c']] => match nth m a, nth m a' with
    | ⟨b, q, _, _, g, .rows 71 l⟩, ⟨b', q', _, _, g', .rows 74 l'⟩ => some (((h1, h2, h3, h4), (onOf g, b, q, l, n, c), (onOf g', b', q', l', n', c')), [a, a'])
    | _, _ => none
  | _ => none
 ok := fun (h, (o, b, q, l, n, c), (o', b', q', l', n', c')) x => fair_ok h o b q l n c o' b' q' l' n' c' x.1 x.2
theorem row_mem {l : List (Rw Int)} {n v : Nat} {r : Rw Int} (hv : v < n) (h : n ≤ l.length) (hr : l.getD v Rw.nil = r) : r ∈ l.take n := by
 rw [zz, zv (by omega), zb] at hr
 rw [← hr, uz]
 exact ⟨v, by omega, rfl⟩
def Sp (A A' : List (Rw Int)) (n : Nat) : Inv' C0 := ⟨4, Nat, fun i => [(5, .int .i64 (i : Int))], fun _ m => m, fun i => i ≤ n ∧ (A.take i).map (·.l) = (A'.take i).map (·.l), fun i => n - i⟩
end Go.Vx
set_option maxRecDepth 1000000
namespace Go.Vx
open Go Go.Proofs
abbrev madeA : List Tk := [.p 0, .p 2, .p 4, .p 9, .p 11, .p 1, .q 3, .p 5, .q 6, .p 7, .q 8, .q 10, .p 12, .q 13, .p 14, .q 15, .p 16, .e 17, .e 18, .p 19, .f 20]
noncomputable def madeA_ops : Array Oper := match opsOf Tryd.f11 5 with
 | some o => o
 | none => #[]
def madeA_w : List Nat := [17, 18, 20]
def madeA_f : List Nat := [20]
def madeA_l0 : Array Bool := #[false, false, false, false, false, false, false, false, false, false, false, false, false, false, false, false, false, false, false, false, false]
theorem madeA_s0 : stepsOKL madeA_ops madeA_w madeA_f false [.p 0, .p 2, .p 4, .p 9] madeA_l0 = true := by kernel_rfl
def madeA_l1 : Array Bool := #[true, false, true, false, true, false, false, false, false, true, false, false, false, false, false, false, false, false, false, false, false]
theorem madeA_a0 : listedBy [.p 0, .p 2, .p 4, .p 9] madeA_l0 = madeA_l1 := by kernel_rfl
theorem madeA_s1 : stepsOKL madeA_ops madeA_w madeA_f false [.p 11, .p 1, .q 3, .p 5] madeA_l1 = true := by kernel_rfl
def madeA_l2 : Array Bool := #[true, true, true, true, true, true, false, false, false, true, false, true, false, false, false, false, false, false, false, false, false]
theorem madeA_a1 : listedBy [.p 11, .p 1, .q 3, .p 5] madeA_l1 = madeA_l2 := by kernel_rfl
theorem madeA_s2 : stepsOKL madeA_ops madeA_w madeA_f false [.q 6, .p 7, .q 8, .q 10] madeA_l2 = true := by kernel_rfl
def madeA_l3 : Array Bool := #[true, true, true, true, true, true, true, true, true, true, true, true, false, false, false, false, false, false, false, false, false]
theorem madeA_a2 : listedBy [.q 6, .p 7, .q 8, .q 10] madeA_l2 = madeA_l3 := by kernel_rfl
theorem madeA_s3 : stepsOKL madeA_ops madeA_w madeA_f false [.p 12, .q 13, .p 14, .q 15] madeA_l3 = true := by kernel_rfl
def madeA_l4 : Array Bool := #[true, true, true, true, true, true, true, true, true, true, true, true, true, true, true, true, false, false, false, false, false]
theorem madeA_a3 : listedBy [.p 12, .q 13, .p 14, .q 15] madeA_l3 = madeA_l4 := by kernel_rfl
theorem madeA_s4 : stepsOKL madeA_ops madeA_w madeA_f false [.p 16, .e 17, .e 18, .p 19] madeA_l4 = true := by kernel_rfl
def madeA_l5 : Array Bool := #[true, true, true, true, true, true, true, true, true, true, true, true, true, true, true, true, true, true, true, true, false]
theorem madeA_a4 : listedBy [.p 16, .e 17, .e 18, .p 19] madeA_l4 = madeA_l5 := by kernel_rfl
theorem madeA_s5 : stepsOKL madeA_ops madeA_w madeA_f false [.f 20] madeA_l5 = true := by kernel_rfl
def madeA_l6 : Array Bool := #[true, true, true, true, true, true, true, true, true, true, true, true, true, true, true, true, true, true, true, true, true]
theorem madeA_a5 : listedBy [.f 20] madeA_l5 = madeA_l6 := by kernel_rfl
theorem madeA_k6 : planOK madeA_ops madeA_w madeA_f true (PTree.of []) madeA_l6 = true := by kernel_rfl
theorem madeA_k5 : planOK madeA_ops madeA_w madeA_f false (PTree.of [.f 20]) madeA_l5 = true := plan_cutL [.f 20] _ _ _ madeA_s5 (by rw [madeA_a5]; exact madeA_k6)
theorem madeA_k4 : planOK madeA_ops madeA_w madeA_f false (PTree.of [.p 16, .e 17, .e 18, .p 19, .f 20]) madeA_l4 = true := plan_cutL [.p 16, .e 17, .e 18, .p 19] _ _ _ madeA_s4 (by rw [madeA_a4]; exact madeA_k5)
theorem madeA_k3 : planOK madeA_ops madeA_w madeA_f false (PTree.of [.p 12, .q 13, .p 14, .q 15, .p 16, .e 17, .e 18, .p 19, .f 20]) madeA_l3 = true := plan_cutL [.p 12, .q 13, .p 14, .q 15] _ _ _ madeA_s3 (by rw [madeA_a3]; exact madeA_k4)
theorem madeA_k2 : planOK madeA_ops madeA_w madeA_f false (PTree.of [.q 6, .p 7, .q 8, .q 10, .p 12, .q 13, .p 14, .q 15, .p 16, .e 17, .e 18, .p 19, .f 20]) madeA_l2 = true := plan_cutL [.q 6, .p 7, .q 8, .q 10] _ _ _ madeA_s2 (by rw [madeA_a2]; exact madeA_k3)
theorem madeA_k1 : planOK madeA_ops madeA_w madeA_f false (PTree.of [.p 11, .p 1, .q 3, .p 5, .q 6, .p 7, .q 8, .q 10, .p 12, .q 13, .p 14, .q 15, .p 16, .e 17, .e 18, .p 19, .f 20]) madeA_l1 = true := plan_cutL [.p 11, .p 1, .q 3, .p 5] _ _ _ madeA_s1 (by rw [madeA_a1]; exact madeA_k2)
theorem madeA_k0 : planOK madeA_ops madeA_w madeA_f false (PTree.of [.p 0, .p 2, .p 4, .p 9, .p 11, .p 1, .q 3, .p 5, .q 6, .p 7, .q 8, .q 10, .p 12, .q 13, .p 14, .q 15, .p 16, .e 17, .e 18, .p 19, .f 20]) madeA_l0 = true := plan_cutL [.p 0, .p 2, .p 4, .p 9] _ _ _ madeA_s0 (by rw [madeA_a0]; exact madeA_k1)
theorem madeA_ok (ops : Array Oper) (h : opsOf Tryd.f11 5 = some ops) : planned ops (PTree.of madeA) = true := by
 have e : ops = madeA_ops := by unfold madeA_ops; rw [h]
 subst e
 unfold planned
 rw [show effs (PTree.of madeA) = madeA_w from rfl, show lates (PTree.of madeA) = madeA_f from rfl, show xw madeA_ops.size false = madeA_l0 by kernel_rfl, madeA_k0, show Region.noSelect madeA_ops = true by kernel_rfl, show zo (PTree.of madeA).len madeA_ops.size = true by kernel_rfl]
 rfl
abbrev madeB : List Tk := [.p 0, .p 2, .p 4, .p 8, .p 10, .p 14, .p 16, .p 1, .q 3, .p 5, .p 6, .q 7, .q 9, .p 11, .p 12, .q 13, .q 15, .p 17, .p 18, .q 19, .p 20, .e 21, .e 22, .p 23, .f 24]
noncomputable def madeB_ops : Array Oper := match opsOf Tryd.f11 9 with
 | some o => o
 | none => #[]
def madeB_w : List Nat := [21, 22, 24]
def madeB_f : List Nat := [24]
def madeB_l0 : Array Bool := #[false, false, false, false, false, false, false, false, false, false, false, false, false, false, false, false, false, false, false, false, false, false, false, false, false]
theorem madeB_s0 : stepsOKL madeB_ops madeB_w madeB_f false [.p 0, .p 2, .p 4, .p 8] madeB_l0 = true := by kernel_rfl
def madeB_l1 : Array Bool := #[true, false, true, false, true, false, false, false, true, false, false, false, false, false, false, false, false, false, false, false, false, false, false, false, false]
theorem madeB_a0 : listedBy [.p 0, .p 2, .p 4, .p 8] madeB_l0 = madeB_l1 := by kernel_rfl
theorem madeB_s1 : stepsOKL madeB_ops madeB_w madeB_f false [.p 10, .p 14, .p 16, .p 1] madeB_l1 = true := by kernel_rfl
def madeB_l2 : Array Bool := #[true, true, true, false, true, false, false, false, true, false, true, false, false, false, true, false, true, false, false, false, false, false, false, false, false]
theorem madeB_a1 : listedBy [.p 10, .p 14, .p 16, .p 1] madeB_l1 = madeB_l2 := by kernel_rfl
theorem madeB_s2 : stepsOKL madeB_ops madeB_w madeB_f false [.q 3, .p 5, .p 6, .q 7] madeB_l2 = true := by kernel_rfl
def madeB_l3 : Array Bool := #[true, true, true, true, true, true, true, true, true, false, true, false, false, false, true, false, true, false, false, false, false, false, false, false, false]
theorem madeB_a2 : listedBy [.q 3, .p 5, .p 6, .q 7] madeB_l2 = madeB_l3 := by kernel_rfl
theorem madeB_s3 : stepsOKL madeB_ops madeB_w madeB_f false [.q 9, .p 11, .p 12, .q 13] madeB_l3 = true := by kernel_rfl
def madeB_l4 : Array Bool := #[true, true, true, true, true, true, true, true, true, true, true, true, true, true, true, false, true, false, false, false, false, false, false, false, false]
theorem madeB_a3 : listedBy [.q 9, .p 11, .p 12, .q 13] madeB_l3 = madeB_l4 := by kernel_rfl
theorem madeB_s4 : stepsOKL madeB_ops madeB_w madeB_f false [.q 15, .p 17, .p 18, .q 19] madeB_l4 = true := by kernel_rfl
def madeB_l5 : Array Bool := #[true, true, true, true, true, true, true, true, true, true, true, true, true, true, true, true, true, true, true, true, false, false, false, false, false]
theorem madeB_a4 : listedBy [.q 15, .p 17, .p 18, .q 19] madeB_l4 = madeB_l5 := by kernel_rfl
theorem madeB_s5 : stepsOKL madeB_ops madeB_w madeB_f false [.p 20, .e 21, .e 22, .p 23] madeB_l5 = true := by kernel_rfl
def madeB_l6 : Array Bool := #[true, true, true, true, true, true, true, true, true, true, true, true, true, true, true, true, true, true, true, true, true, true, true, true, false]
theorem madeB_a5 : listedBy [.p 20, .e 21, .e 22, .p 23] madeB_l5 = madeB_l6 := by kernel_rfl
theorem madeB_s6 : stepsOKL madeB_ops madeB_w madeB_f false [.f 24] madeB_l6 = true := by kernel_rfl
def madeB_l7 : Array Bool := #[true, true, true, true, true, true, true, true, true, true, true, true, true, true, true, true, true, true, true, true, true, true, true, true, true]
theorem madeB_a6 : listedBy [.f 24] madeB_l6 = madeB_l7 := by kernel_rfl
theorem madeB_k7 : planOK madeB_ops madeB_w madeB_f true (PTree.of []) madeB_l7 = true := by kernel_rfl
theorem madeB_k6 : planOK madeB_ops madeB_w madeB_f false (PTree.of [.f 24]) madeB_l6 = true := plan_cutL [.f 24] _ _ _ madeB_s6 (by rw [madeB_a6]; exact madeB_k7)
theorem madeB_k5 : planOK madeB_ops madeB_w madeB_f false (PTree.of [.p 20, .e 21, .e 22, .p 23, .f 24]) madeB_l5 = true := plan_cutL [.p 20, .e 21, .e 22, .p 23] _ _ _ madeB_s5 (by rw [madeB_a5]; exact madeB_k6)
theorem madeB_k4 : planOK madeB_ops madeB_w madeB_f false (PTree.of [.q 15, .p 17, .p 18, .q 19, .p 20, .e 21, .e 22, .p 23, .f 24]) madeB_l4 = true := plan_cutL [.q 15, .p 17, .p 18, .q 19] _ _ _ madeB_s4 (by rw [madeB_a4]; exact madeB_k5)
theorem madeB_k3 : planOK madeB_ops madeB_w madeB_f false (PTree.of [.q 9, .p 11, .p 12, .q 13, .q 15, .p 17, .p 18, .q 19, .p 20, .e 21, .e 22, .p 23, .f 24]) madeB_l3 = true := plan_cutL [.q 9, .p 11, .p 12, .q 13] _ _ _ madeB_s3 (by rw [madeB_a3]; exact madeB_k4)
theorem madeB_k2 : planOK madeB_ops madeB_w madeB_f false (PTree.of [.q 3, .p 5, .p 6, .q 7, .q 9, .p 11, .p 12, .q 13, .q 15, .p 17, .p 18, .q 19, .p 20, .e 21, .e 22, .p 23, .f 24]) madeB_l2 = true := plan_cutL [.q 3, .p 5, .p 6, .q 7] _ _ _ madeB_s2 (by rw [madeB_a2]; exact madeB_k3)
theorem madeB_k1 : planOK madeB_ops madeB_w madeB_f false (PTree.of [.p 10, .p 14, .p 16, .p 1, .q 3, .p 5, .p 6, .q 7, .q 9, .p 11, .p 12, .q 13, .q 15, .p 17, .p 18, .q 19, .p 20, .e 21, .e 22, .p 23, .f 24]) madeB_l1 = true := plan_cutL [.p 10, .p 14, .p 16, .p 1] _ _ _ madeB_s1 (by rw [madeB_a1]; exact madeB_k2)
theorem madeB_k0 : planOK madeB_ops madeB_w madeB_f false (PTree.of [.p 0, .p 2, .p 4, .p 8, .p 10, .p 14, .p 16, .p 1, .q 3, .p 5, .p 6, .q 7, .q 9, .p 11, .p 12, .q 13, .q 15, .p 17, .p 18, .q 19, .p 20, .e 21, .e 22, .p 23, .f 24]) madeB_l0 = true := plan_cutL [.p 0, .p 2, .p 4, .p 8] _ _ _ madeB_s0 (by rw [madeB_a0]; exact madeB_k1)
theorem madeB_ok (ops : Array Oper) (h : opsOf Tryd.f11 9 = some ops) : planned ops (PTree.of madeB) = true := by
 have e : ops = madeB_ops := by unfold madeB_ops; rw [h]
 subst e
 unfold planned
 rw [show effs (PTree.of madeB) = madeB_w from rfl, show lates (PTree.of madeB) = madeB_f from rfl, show xw madeB_ops.size false = madeB_l0 by kernel_rfl, madeB_k0, show Region.noSelect madeB_ops = true by kernel_rfl, show zo (PTree.of madeB).len madeB_ops.size = true by kernel_rfl]
 rfl
end Go.Vx
namespace Go.Vx
open Go Go.Proofs
variable [Gl]
@[irreducible] def blkOf (r : Rw Int) : Pl := (r.l.getD 0 0, r.l.getD 1 0)
abbrev hdE (h : Hd) (a b : SV) : List SV := [.int .i64 h.1, .int .i64 h.2.1, .int .i64 h.2.2.1, .int .i64 h.2.2.2, a, b]
def Grw {α : Type} (L l : List α) (o : Bool) (i c : Nat) : Prop := i = L.length ∧ l.take i = L ∧ i ≤ c ∧ c ≤ l.length ∧ (o = false → i = 0 ∧ c = 0)
theorem Grw.app {α : Type} {L l sp : List α} {o : Bool} {x : α} {i c c' : Nat} (h : Grw L l o i c) (h1 : i + 1 ≤ c') (h2 : c' ≤ i + 1 + sp.length) : Grw (L ++ [x]) (l.take i ++ [x] ++ sp) true (i + 1) c' := by
 obtain ⟨e1, e2, e3, e4, e5⟩ := h
 have hl : (l.take i).length = i := by rw [zp]; omega
 refine ⟨by rw [zw, ← e1]; rfl, ?_, h1, by rw [zw, zw, hl]; exact h2, fun h => xf h⟩
 rw [yh (by rw [zw, hl]; exact zy _), zu (by rw [zw, hl]; exact zy _), e2]
theorem by87 : Tryd.prog.types[87].bytes = 16 := by kernel_rfl
theorem by88 : Tryd.prog.types[88].bytes = 72 := by kernel_rfl
abbrev Gx (α : Type) := Nat × Bool × Nat × Nat × List α × Nat
def Md3 (h : Hd) (A : List (Rw Int)) : Inv' C0 := ⟨3, Gx Pl, fun x => [(4, .int .i64 (x.1 : Int))], fun x m => match m with
 | [a0, a1, bx, rs, y] => [a0, a1, bx, rs, ⟨y.block, y.base, 6, true, none, .one (hdE h (.sl 5 0 x.1 x.2.2.2.2.2) .nils)⟩, ⟨x.2.2.1, x.2.2.2.1, 2, true, some x.2.1, .rows 87 x.2.2.2.2.1⟩]
 | m => m, fun x => x.1 ≤ A.length ∧ Grw ((A.take x.1).map blkOf) x.2.2.2.2.1 x.2.1 x.1 x.2.2.2.2.2, fun x => A.length - x.1⟩
def Md7 (h : Hd) (B : List Slot) : Inv' C0 := ⟨7, Gx Slot, fun x => [(5, .int .i64 (x.1 : Int))], fun x m => match m with
 | [a0, a1, bx, rs, y, bl] => match y.cells with
   | .one [_, _, _, _, sb, _] => [a0, a1, bx, rs, ⟨y.block, y.base, 6, true, none, .one (hdE h sb (.sl 6 0 x.1 x.2.2.2.2.2))⟩, bl, ⟨x.2.2.1, x.2.2.2.1, 9, true, some x.2.1, .rows 88 x.2.2.2.2.1⟩]
   | _ => m
 | m => m, fun x => x.1 ≤ B.length ∧ Grw (B.take x.1) x.2.2.2.2.1 x.2.1 x.1 x.2.2.2.2.2, fun x => B.length - x.1⟩
set_option maxHeartbeats 8000000 in
theorem made_ok (h : Hd) (o : Bool) (b q : Nat) (l : List (Rw Int)) (n c : Nat) (o2 : Bool) (b2 q2 : Nat) (l2 : List Slot) (n2 c2 : Nat)
 (h1 : Sq.ok (o, b, q, l, n, c)) (h2 : Sq.ok (o2, b2, q2, l2, n2, c2)) (hr : ∀ r ∈ l.take n, Rok r ∧ r.l.length = 2) (hn : n ≤ 70) (hn2 : n2 ≤ 100) :
 Does (C := C0) Tryd.prog (.fn 11) [⟨b, q, 1, false, some o, .rows 71 l⟩, ⟨b2, q2, 9, false, some o2, .rows 74 l2⟩] [ptv h (.sl 0 0 n c) (.sl 1 0 n2 c2)]
 [⟨Gx Pl × Gx Slot, fun y => Grw ((l.take n).map blkOf) y.1.2.2.2.2.1 y.1.2.1 n y.1.2.2.2.2.2 ∧ Grw (l2.take n2) y.2.2.2.2.2.1 y.2.2.1 n2 y.2.2.2.2.2.2, fun y => ptv h (.sl 2 0 n y.1.2.2.2.2.2) (.sl 3 0 n2 y.2.2.2.2.2.2),
   fun y => [⟨b, q, 1, false, some o, .rows 71 l⟩, ⟨b2, q2, 9, false, some o2, .rows 74 l2⟩, ⟨y.1.2.2.1, y.1.2.2.2.1, 2, true, some y.1.2.1, .rows 87 y.1.2.2.2.2.1⟩, ⟨y.2.2.2.1, y.2.2.2.2.1, 9, true, some y.2.2.1, .rows 88 y.2.2.2.2.2.1⟩]⟩] := by
 have hnl : n ≤ l.length := h1.2.1
 have hnl2 : n2 ≤ l2.length := h2.2.1
 refine loc_fn (P := Tryd.prog) (E := ⟨[], [], 74, [(5, [4], madeA),
  (9, [4], madeB)], [fI], []⟩) (L := [Md3 h (l.take n), Md7 h (l2.take n2)]) mix Tryd.func11 rfl (by kernel_rfl) (by kernel_rfl) rfl rfl ?_
 ((conv => arg 1; reduce); with_reducible repeat' first | exact ty | refine ta ?_ ?_ | refine ti fun _ => ?_ | refine tf fun _ => ?_ | refine tl ?_)
 all_goals try exact madeA_ok _ (by kernel_rfl)
 all_goals try exact madeB_ok _ (by kernel_rfl)
 all_goals try exact vlf
 · rename_i b0 b1 b2
   refine Stands.one (0, false, 0, 0, [], 0) ⟨⟨zn _, rfl, rfl, zy _, zy _, fun _ => ⟨rfl, rfl⟩⟩, ?_⟩
   exact vgo
 iterate 4 (
  focus
  rename_i b0 b1 b2 v hv h3
  obtain ⟨v, on, vb, vq, vl, vc⟩ := v
  obtain ⟨e1, e2⟩ : v ≤ (l.take n).length ∧ Grw (((l.take n).take v).map blkOf) vl on v vc := hv
  have h3 : v < n := Int.ofNat_lt.1 (ow h3)
  first
   | (exact on_of h1.2.2 (yp (zn _) h3)
      done)
   | (exact Int.ofNat_lt.2 h3
      done)
   | (show (v : Int).toNat + 0 < l.length
      omega
      done))
 iterate 8 (
  focus
  rename_i b0 b1 b2 v hv h3 r hr1
  obtain ⟨v, on, vb, vq, vl, vc⟩ := v
  obtain ⟨e1, e2⟩ : v ≤ (l.take n).length ∧ Grw (((l.take n).take v).map blkOf) vl on v vc := hv
  have h3 : v < n := Int.ofNat_lt.1 (ow h3)
  first
   | (change Rw Int at r
      have hr1 : l.getD v Rw.nil = r := hr1
      obtain ⟨⟨g1, g2, g3⟩, g4⟩ := hr r (row_mem h3 hnl hr1)
      exact on_of g1 (by omega)
      done)
   | (change Rw Int at r
      have hr1 : l.getD v Rw.nil = r := hr1
      obtain ⟨⟨g1, g2, g3⟩, g4⟩ := hr r (row_mem h3 hnl hr1)
      show (0 : Int) < ((r.l.length : Nat) : Int)
      rw [g4]; decide
      done)
   | (change Rw Int at r
      have hr1 : l.getD v Rw.nil = r := hr1
      obtain ⟨⟨g1, g2, g3⟩, g4⟩ := hr r (row_mem h3 hnl hr1)
      show (0 : Int).toNat + 0 < r.l.length
      rw [g4]; decide
      done)
   | (exact on_of h1.2.2 (yp (zn _) h3)
      done)
   | (exact Int.ofNat_lt.2 h3
      done)
   | (show (v : Int).toNat + 0 < l.length
      omega
      done))
 iterate 4 (
  focus
  rename_i b0 b1 b2 v hv h3 r hr1 r2 hr2
  obtain ⟨v, on, vb, vq, vl, vc⟩ := v
  obtain ⟨e1, e2⟩ : v ≤ (l.take n).length ∧ Grw (((l.take n).take v).map blkOf) vl on v vc := hv
  have h3 : v < n := Int.ofNat_lt.1 (ow h3)
  change Rw Int at r2
  have hr2 : l.getD v Rw.nil = r2 := hr2
  obtain ⟨⟨g1, g2, g3⟩, g4⟩ := hr r2 (row_mem h3 hnl hr2)
  first
   | (exact on_of g1 (by omega)
      done)
   | (show (1 : Int) < ((r2.l.length : Nat) : Int)
      rw [g4]; decide
      done)
   | (show (1 : Int).toNat + 0 < r2.l.length
      rw [g4]; decide
      done))
 iterate 2 (
  focus
  rename_i b0 b1 b2 v hv h3 r hr1 r2 hr2 bk
  obtain ⟨v, on, vb, vq, vl, vc⟩ := v
  obtain ⟨e1, e2⟩ : v ≤ (l.take n).length ∧ Grw (((l.take n).take v).map blkOf) vl on v vc := hv
  have h3 : v < n := Int.ofNat_lt.1 (ow h3)
  first
   | (obtain ⟨k1, k2, k3, k4, k5⟩ := e2
      rw [by87]
      exact ⟨k3, by show 0 + vc ≤ vl.length; omega, zy 1, by show (v + 1) * 16 ≤ _; omega⟩
      done)
   | (exact e2.2.2.2.2
      done))
 iterate 2 (
  focus
  rename_i b0 b1 b2 v hv h3 r hr1 r2 hr2 bk b9 q9 sp cap m1 m2
  obtain ⟨v, on, vb, vq, vl, vc⟩ := v
  obtain ⟨e1, e2⟩ : v ≤ (l.take n).length ∧ Grw (((l.take n).take v).map blkOf) vl on v vc := hv
  have h3 : v < n := Int.ofNat_lt.1 (ow h3)
  first
   | (exact inR64 (by show _ ≤ (v : Int) + 1; omega) (by show (v : Int) + 1 ≤ _; omega)
      done)
   | (change Rw Int at r
      have hr1 : l.getD v Rw.nil = r := hr1
      obtain ⟨⟨g1, g2, g3⟩, g4⟩ := hr r (row_mem h3 hnl hr1)
      change Rw Int at r2
      have hr2 : l.getD v Rw.nil = r2 := hr2
      have hr12 : r2 = r := hr2.symm.trans hr1
      subst hr12
      have e3 := e2.app (x := blkOf r2) (sp := sp) m1 m2
      refine Stands.one (v + 1, true, b9, q9, vl.take v ++ [blkOf r2] ++ sp, cap) ⟨⟨by show v + 1 ≤ (l.take n).length; rw [tk_len hnl]; omega, ?_⟩, ?_, ?_⟩
      · show Grw (((l.take n).take (v + 1)).map blkOf) _ _ _ _
        rw [take_snoc (d := Rw.nil) (by rw [tk_len hnl]; exact h3), tk_at h3, hr1, yy]
        exact e3
      · show (l.take n).length - (v + 1) < (l.take n).length - v
        rw [tk_len hnl]; omega
      ((conv => arg 1; reduce); with_reducible repeat' first | exact ty | refine ta ?_ ?_ | refine ti fun _ => ?_ | refine tf fun _ => ?_ | refine tl ?_)
      all_goals try exact vlf
      unfold blkOf
      rfl
      done))
 · rename_i b0 b1 b2 v hv h3
   obtain ⟨v, on, vb, vq, vl, vc⟩ := v
   obtain ⟨e1, e2⟩ : v ≤ (l.take n).length ∧ Grw (((l.take n).take v).map blkOf) vl on v vc := hv
   have h3 : ¬ v < n := fun h => ov h3 (Int.ofNat_lt.2 h)
   obtain rfl : v = n := by rw [tk_len hnl] at e1; omega
   rw [zu (l := l.take v) (by rw [tk_len hnl]; exact zy _)] at e2
   refine Stands.one (0, false, 0, 0, [], 0) ⟨⟨zn _, rfl, rfl, zy _, zy _, fun _ => ⟨rfl, rfl⟩⟩, ?_⟩
   exact vgo
 iterate 12 (
  focus
  rename_i b0 b1 b2 v hv h3 w hw h4
  obtain ⟨w, on, wb, wq, wl, wc⟩ := w
  obtain ⟨e3, e4⟩ : w ≤ (l2.take n2).length ∧ Grw ((l2.take n2).take w) wl on w wc := hw
  have h4 : w < n2 := Int.ofNat_lt.1 (ow h4)
  first
   | (exact on_of h2.2.2 (yp (zn _) h4)
      done)
   | (exact Int.ofNat_lt.2 h4
      done)
   | (show (w : Int).toNat + 0 < l2.length
      omega
      done))
 iterate 2 (
  focus
  rename_i b0 b1 b2 v hv h3 w hw h4 bk
  obtain ⟨w, on, wb, wq, wl, wc⟩ := w
  obtain ⟨e3, e4⟩ : w ≤ (l2.take n2).length ∧ Grw ((l2.take n2).take w) wl on w wc := hw
  have h4 : w < n2 := Int.ofNat_lt.1 (ow h4)
  first
   | (obtain ⟨k1, k2, k3, k4, k5⟩ := e4
      rw [by88]
      exact ⟨k3, by show 0 + wc ≤ wl.length; omega, zy 1, by show (w + 1) * 72 ≤ _; omega⟩
      done)
   | (exact e4.2.2.2.2
      done))
 iterate 2 (
  focus
  rename_i b0 b1 b2 v hv h3 w hw h4 bk b9 q9 sp cap m1 m2
  obtain ⟨w, on, wb, wq, wl, wc⟩ := w
  obtain ⟨e3, e4⟩ : w ≤ (l2.take n2).length ∧ Grw ((l2.take n2).take w) wl on w wc := hw
  have h4 : w < n2 := Int.ofNat_lt.1 (ow h4)
  first
   | (exact inR64 (by show _ ≤ (w : Int) + 1; omega) (by show (w : Int) + 1 ≤ _; omega)
      done)
   | (have e5 := e4.app (x := l2.getD w slot0) (sp := sp) m1 m2
      refine Stands.one (w + 1, true, b9, q9, wl.take w ++ [l2.getD w slot0] ++ sp, cap) ⟨⟨by show w + 1 ≤ (l2.take n2).length; rw [tk_len hnl2]; omega, ?_⟩, ?_, ?_⟩
      · show Grw ((l2.take n2).take (w + 1)) _ _ _ _
        rw [take_snoc (d := slot0) (by rw [tk_len hnl2]; exact h4), tk_at h4]
        exact e5
      · show (l2.take n2).length - (w + 1) < (l2.take n2).length - w
        rw [tk_len hnl2]; omega
      exact vgo
      done))
 · rename_i b0 b1 b2 v hv h3 w hw h4
   obtain ⟨v, on, vb, vq, vl, vc⟩ := v
   obtain ⟨e1, e2⟩ : v ≤ (l.take n).length ∧ Grw (((l.take n).take v).map blkOf) vl on v vc := hv
   have h3 : ¬ v < n := fun h => ov h3 (Int.ofNat_lt.2 h)
   obtain ⟨w, won, wb, wq, wl, wc⟩ := w
   obtain ⟨e3, e4⟩ : w ≤ (l2.take n2).length ∧ Grw ((l2.take n2).take w) wl won w wc := hw
   have h4 : ¬ w < n2 := fun h => ov h4 (Int.ofNat_lt.2 h)
   obtain rfl : w = n2 := by rw [tk_len hnl2] at e3; omega
   rw [zu (l := l2.take w) (by rw [tk_len hnl2]; exact zy _)] at e4
   obtain rfl : v = n := by rw [tk_len hnl] at e1; omega
   rw [zu (l := l.take v) (by rw [tk_len hnl]; exact zy _)] at e2
   refine Ends.one ((v, on, vb, vq, vl, vc), (w, won, wb, wq, wl, wc)) ⟨e2, e4⟩ ?_
   exact vgo
def fcMade : Fc Tryd.prog C0 where
 tg := .fn 11
 X := Hd × Sq (Rw Int) × Sq Slot
 args := fun (h, (o, b, q, l, n, c), (o2, b2, q2, l2, n2, c2)) => [ptv h (.sl 0 0 n c) (.sl 1 0 n2 c2)]
 mem := fun (h, (o, b, q, l, n, c), (o2, b2, q2, l2, n2, c2)) => [⟨b, q, 1, false, some o, .rows 71 l⟩, ⟨b2, q2, 9, false, some o2, .rows 74 l2⟩]
 pre := fun (h, (o, b, q, l, n, c), (o2, b2, q2, l2, n2, c2)) => Sq.ok (o, b, q, l, n, c) ∧ Sq.ok (o2, b2, q2, l2, n2, c2) ∧ (∀ r ∈ l.take n, Rok r ∧ r.l.length = 2) ∧ n ≤ 70 ∧ n2 ≤ 100
 alts := fun (h, (o, b, q, l, n, c), (o2, b2, q2, l2, n2, c2)) => [⟨Gx Pl × Gx Slot, fun y => Grw ((l.take n).map blkOf) y.1.2.2.2.2.1 y.1.2.1 n y.1.2.2.2.2.2 ∧ Grw (l2.take n2) y.2.2.2.2.2.1 y.2.2.1 n2 y.2.2.2.2.2.2, fun y => ptv h (.sl 2 0 n y.1.2.2.2.2.2) (.sl 3 0 n2 y.2.2.2.2.2.2),
  fun y => [⟨b, q, 1, false, some o, .rows 71 l⟩, ⟨b2, q2, 9, false, some o2, .rows 74 l2⟩, ⟨y.1.2.2.1, y.1.2.2.2.1, 2, true, some y.1.2.1, .rows 87 y.1.2.2.2.2.1⟩, ⟨y.2.2.2.1, y.2.2.2.2.1, 9, true, some y.2.2.1, .rows 88 y.2.2.2.2.2.1⟩]⟩]
 mat vs m := match vs with
  | [.agg [.int _ h1, .int _ h2, .int _ h3, .int _ h4, .sl a 0 n c, .sl a' 0 n' c']] => match nth m a, nth m a' with
    | ⟨b, q, _, _, g, .rows 71 l⟩, ⟨b', q', _, _, g', .rows 74 l'⟩ => some (((h1, h2, h3, h4), (onOf g, b, q, l, n, c), (onOf g', b', q', l', n', c')), [a, a'])
    | _, _ => none
  | _ => none
 ok := fun (h, (o, b, q, l, n, c), (o2, b2, q2, l2, n2, c2)) x => made_ok h o b q l n c o2 b2 q2 l2 n2 c2 x.1 x.2.1 x.2.2.1 x.2.2.2.1 x.2.2.2.2
end Go.Vx
namespace Go.Vx
open Go Go.Proofs
variable [Gl]
noncomputable def fcStb : Fc Tryd.prog C0 where
 tg := .fn 66
 X := Bool × Nat × Nat × List Pg × Nat × Nat
 args := fun (o, b, q, l, n, c) => [.sl 0 0 n c, .int .i64 (n : Int), fnC]
 mem := fun (o, b, q, l, n, c) => [⟨b, q, 9, true, some o, .rows 70 l⟩]
 pre := fun (o, b, q, l, n, c) => n ≤ l.length ∧ n < 1000000000 ∧ (o = false → n = 0) ∧ ∀ x ∈ l.take n, Pin x
 alts := fun (o, b, q, l, n, c) => [⟨List Pg, fun W => W.Perm (l.take n) ∧ Srd ltP W, fun _ => .tup [], fun W => [⟨b, q, 9, true, some o, .rows 70 (W ++ l.drop n)⟩]⟩]
 mat vs m := match vs with
  | [.sl a 0 n c, .int _ _, .fn (.func 50) _ _] => match nth m a with
    | ⟨b, q, _, _, g, .rows 70 l⟩ => some ((onOf g, b, q, l, n, c), [a])
    | _ => none
  | _ => none
 ok := fun (o, b, q, l, n, c) h => stable_ok o b q l n c h.1 h.2.1 h.2.2.1 h.2.2.2
theorem stb_ok (o : Bool) (b q : Nat) (l : List Pg) (n c : Nat) (h : n ≤ l.length) (hn : n < 1000000000) (ho : o = false → n = 0) (hP : ∀ x ∈ l.take n, Pin x) :
 Does (C := C0) Tryd.prog (.fn 49) [⟨b, q, 9, true, some o, .rows 70 l⟩] [.sl 0 0 n c, fnC]
  [⟨List Pg, fun W => W.Perm (l.take n) ∧ Srd ltP W, fun _ => .tup [], fun W => [⟨b, q, 9, true, some o, .rows 70 (W ++ l.drop n)⟩]⟩] := by
 refine loc_fn (P := Tryd.prog) (E := ⟨[fcStb], [], 9, [], [], []⟩) (L := []) mix Tryd.func49 rfl (by kernel_rfl) (by kernel_rfl) rfl rfl ?_
 ((conv => arg 1; reduce); with_reducible repeat' first | exact ty | refine ta ?_ ?_ | refine ti fun _ => ?_ | refine tf fun _ => ?_ | refine tl ?_)
 all_goals try exact vlf
 · exact ⟨h, hn, ho, hP⟩
 · rename_i W hW
   refine Ends.one W hW ?_
   exact vgo
noncomputable def fcSort : Fc Tryd.prog C0 where
 tg := .fn 49
 X := Bool × Nat × Nat × List Pg × Nat × Nat
 args := fun (o, b, q, l, n, c) => [.sl 0 0 n c, fnC]
 mem := fun (o, b, q, l, n, c) => [⟨b, q, 9, true, some o, .rows 70 l⟩]
 pre := fun (o, b, q, l, n, c) => n ≤ l.length ∧ n < 1000000000 ∧ (o = false → n = 0) ∧ ∀ x ∈ l.take n, Pin x
 alts := fun (o, b, q, l, n, c) => [⟨List Pg, fun W => W.Perm (l.take n) ∧ Srd ltP W, fun _ => .tup [], fun W => [⟨b, q, 9, true, some o, .rows 70 (W ++ l.drop n)⟩]⟩]
 mat vs m := match vs with
  | [.sl a 0 n c, .fn (.func 50) _ _] => match nth m a with
    | ⟨b, q, _, _, g, .rows 70 l⟩ => some ((onOf g, b, q, l, n, c), [a])
    | _ => none
  | _ => none
 ok := fun (o, b, q, l, n, c) h => stb_ok o b q l n c h.1 h.2.1 h.2.2.1 h.2.2.2
theorem by70 : Tryd.prog.types[70].bytes = 72 := by kernel_rfl
def hdP (f : Int) (x : Pl) : Pg := ⟨(x.1, 0), 1, ⟨1, x.1, 0, x.2, 0, f⟩⟩
def slP (s : Slot) : Option Pg := if 0 < s.pl.2 then some ⟨s.pl, 1, s.me⟩ else none
def Pa3 (h : Hd) (A : List Pl) : Inv' C0 := ⟨3, Gx Pg, fun x => [(12, .int .i64 (x.1 : Int)), (3, .sl 3 0 x.1 x.2.2.2.2.2)], fun x m => match m with
 | [a0, a1, bx] => [a0, a1, bx, ⟨x.2.2.1, x.2.2.2.1, 9, true, some x.2.1, .rows 70 x.2.2.2.2.1⟩]
 | m => m, fun x => x.1 ≤ A.length ∧ Grw ((A.take x.1).map (hdP h.2.2.2)) x.2.2.2.2.1 x.2.1 x.1 x.2.2.2.2.2, fun x => A.length - x.1⟩
def Pa9 (h : Hd) (A : List Pl) (B : List Slot) : Inv' C0 := ⟨9, Nat × Gx Pg, fun x => [(35, .int .i64 (x.1 : Int)), (3, .sl 3 0 x.2.1 x.2.2.2.2.2.2)], fun x m => match m with
 | [a0, a1, bx, y] => [a0, a1, bx, ⟨x.2.2.2.1, x.2.2.2.2.1, 9, true, some x.2.2.1, .rows 70 x.2.2.2.2.2.1⟩]
 | m => m, fun x => x.1 ≤ B.length ∧ Grw (A.map (hdP h.2.2.2) ++ (B.take x.1).filterMap slP) x.2.2.2.2.2.1 x.2.2.1 x.2.1 x.2.2.2.2.2.2, fun x => B.length - x.1⟩
set_option maxHeartbeats 8000000 in
theorem pages_ok (h : Hd) (o : Bool) (b q : Nat) (l : List Pl) (n c : Nat) (o2 : Bool) (b2 q2 : Nat) (l2 : List Slot) (n2 c2 : Nat)
 (h1 : Sq.ok (o, b, q, l, n, c)) (h2 : Sq.ok (o2, b2, q2, l2, n2, c2)) (hn : n ≤ 70) (hn2 : n2 ≤ 100) (hA : ∀ x ∈ l.take n, 0 ≤ x.1 ∧ x.1 ≤ 64) (hB : ∀ x ∈ l2.take n2, 0 ≤ x.pl.1 ∧ x.pl.1 ≤ 64 ∧ 0 ≤ x.pl.2 ∧ x.pl.2 ≤ 64) :
 Does (C := C0) Tryd.prog (.fn 27) [⟨b, q, 2, true, some o, .rows 87 l⟩, ⟨b2, q2, 9, true, some o2, .rows 88 l2⟩] [ptv h (.sl 0 0 n c) (.sl 1 0 n2 c2)]
  [⟨Gx Pg, fun y => ∃ W, W.Perm ((l.take n).map (hdP h.2.2.2) ++ (l2.take n2).filterMap slP) ∧ Srd ltP W ∧ Grw W y.2.2.2.2.1 y.2.1 y.1 y.2.2.2.2.2, fun y => .sl 2 0 y.1 y.2.2.2.2.2,
    fun y => [⟨b, q, 2, true, some o, .rows 87 l⟩, ⟨b2, q2, 9, true, some o2, .rows 88 l2⟩, ⟨y.2.2.1, y.2.2.2.1, 9, true, some y.2.1, .rows 70 y.2.2.2.2.1⟩]⟩] := by
 have hnl : n ≤ l.length := h1.2.1
 have hnl2 : n2 ≤ l2.length := h2.2.1
 refine loc_fn (P := Tryd.prog) (E := ⟨[fcSort], [], 55, [], [], []⟩) (L := [Pa3 h (l.take n), Pa9 h (l.take n) (l2.take n2)]) mix Tryd.func27 rfl (by kernel_rfl) (by kernel_rfl) rfl rfl ?_
 ((conv => arg 1; reduce); with_reducible repeat' first | exact ty | refine ta ?_ ?_ | refine ti fun _ => ?_ | refine tf fun _ => ?_ | refine tl ?_)
 all_goals try exact vlf
 · rename_i b0
   refine Stands.one (0, false, 0, 0, [], 0) ⟨⟨zn _, rfl, rfl, zy _, zy _, fun _ => ⟨rfl, rfl⟩⟩, ?_⟩
   exact vgo
 iterate 4 (
  focus
  rename_i b0 v hv h3
  obtain ⟨v, on, vb, vq, vl, vc⟩ := v
  obtain ⟨e1, e2⟩ : v ≤ (l.take n).length ∧ Grw (((l.take n).take v).map (hdP h.2.2.2)) vl on v vc := hv
  have h3 : v < n := Int.ofNat_lt.1 (ow h3)
  first
   | exact on_of h1.2.2 (yp (zn _) h3)
   | exact Int.ofNat_lt.2 h3
   | (show (v : Int).toNat + 0 < l.length
      omega))
 iterate 2 (
  focus
  rename_i b0 v hv h3 b1 b2 b3
  obtain ⟨v, on, vb, vq, vl, vc⟩ := v
  obtain ⟨e1, e2⟩ : v ≤ (l.take n).length ∧ Grw (((l.take n).take v).map (hdP h.2.2.2)) vl on v vc := hv
  have h3 : v < n := Int.ofNat_lt.1 (ow h3)
  first
   | (obtain ⟨k1, k2, k3, k4, k5⟩ := e2
      rw [by70]
      exact ⟨k3, by show 0 + vc ≤ vl.length; omega, zy 1, by show (v + 1) * 72 ≤ _; omega⟩
      done)
   | (exact e2.2.2.2.2
      done))
 iterate 2 (
  focus
  rename_i b0 v hv h3 b1 b2 b3 b9 q9 sp cap m1 m2
  obtain ⟨v, on, vb, vq, vl, vc⟩ := v
  obtain ⟨e1, e2⟩ : v ≤ (l.take n).length ∧ Grw (((l.take n).take v).map (hdP h.2.2.2)) vl on v vc := hv
  have h3 : v < n := Int.ofNat_lt.1 (ow h3)
  first
   | (exact inR64 (by show _ ≤ (v : Int) + 1; omega) (by show (v : Int) + 1 ≤ _; omega)
      done)
   | (have e3 := e2.app (x := hdP h.2.2.2 (l.getD v (0, 0))) (sp := sp) m1 m2
      refine Stands.one (v + 1, true, b9, q9, vl.take v ++ [hdP h.2.2.2 (l.getD v (0, 0))] ++ sp, cap) ⟨⟨by show v + 1 ≤ (l.take n).length; rw [tk_len hnl]; omega, ?_⟩, ?_, ?_⟩
      · show Grw (((l.take n).take (v + 1)).map (hdP h.2.2.2)) _ _ _ _
        rw [take_snoc (d := ((0, 0) : Pl)) (by rw [tk_len hnl]; exact h3), tk_at h3, yy]
        exact e3
      · show (l.take n).length - (v + 1) < (l.take n).length - v
        rw [tk_len hnl]; omega
      exact vgo
      done))
 · rename_i b0 v hv h3
   obtain ⟨v, on, vb, vq, vl, vc⟩ := v
   obtain ⟨e1, e2⟩ : v ≤ (l.take n).length ∧ Grw (((l.take n).take v).map (hdP h.2.2.2)) vl on v vc := hv
   have h3 : ¬ v < n := fun h => ov h3 (Int.ofNat_lt.2 h)
   obtain rfl : v = n := by rw [tk_len hnl] at e1; omega
   rw [zu (l := l.take v) (by rw [tk_len hnl]; exact zy _)] at e2
   refine Stands.one (0, v, on, vb, vq, vl, vc) ⟨⟨zn _, by show Grw ((l.take v).map (hdP h.2.2.2) ++ []) vl on v vc; rw [zk]; exact e2⟩, ?_⟩
   exact vgo
 iterate 4 (
  focus
  rename_i b0 v hv h3 w hw h4
  obtain ⟨w, k, on, wb, wq, wl, wc⟩ := w
  obtain ⟨e3, e4⟩ : w ≤ (l2.take n2).length ∧ Grw ((l.take n).map (hdP h.2.2.2) ++ ((l2.take n2).take w).filterMap slP) wl on k wc := hw
  have e9 : k ≤ 70 + w := by
   rw [e4.1, zw, zt, tk_len hnl]
   have := wu slP ((l2.take n2).take w)
   rw [zp] at this
   omega
  have h4 : w < n2 := Int.ofNat_lt.1 (ow h4)
  first
   | exact on_of h2.2.2 (yp (zn _) h4)
   | exact Int.ofNat_lt.2 h4
   | (show (w : Int).toNat + 0 < l2.length
      omega))
 iterate 2 (
  focus
  rename_i b0 v hv h3 w hw h4 b1 h5 b2
  obtain ⟨w, k, on, wb, wq, wl, wc⟩ := w
  obtain ⟨e3, e4⟩ : w ≤ (l2.take n2).length ∧ Grw ((l.take n).map (hdP h.2.2.2) ++ ((l2.take n2).take w).filterMap slP) wl on k wc := hw
  have e9 : k ≤ 70 + w := by
   rw [e4.1, zw, zt, tk_len hnl]
   have := wu slP ((l2.take n2).take w)
   rw [zp] at this
   omega
  have h4 : w < n2 := Int.ofNat_lt.1 (ow h4)
  first
   | (obtain ⟨k1, k2, k3, k4, k5⟩ := e4
      rw [by70]
      exact ⟨k3, by show 0 + wc ≤ wl.length; omega, zy 1, by show (k + 1) * 72 ≤ _; omega⟩
      done)
   | (exact e4.2.2.2.2
      done))
 iterate 2 (
  focus
  rename_i b0 v hv h3 w hw h4 b1 h5 b2 b9 q9 sp cap m1 m2
  obtain ⟨w, k, on, wb, wq, wl, wc⟩ := w
  obtain ⟨e3, e4⟩ : w ≤ (l2.take n2).length ∧ Grw ((l.take n).map (hdP h.2.2.2) ++ ((l2.take n2).take w).filterMap slP) wl on k wc := hw
  have e9 : k ≤ 70 + w := by
   rw [e4.1, zw, zt, tk_len hnl]
   have := wu slP ((l2.take n2).take w)
   rw [zp] at this
   omega
  have h4 : w < n2 := Int.ofNat_lt.1 (ow h4)
  first
   | (exact inR64 (by show _ ≤ (w : Int) + 1; omega) (by show (w : Int) + 1 ≤ _; omega)
      done)
   | (have h5 : 0 < (l2.getD w slot0).pl.2 := ow h5
      have e5 := e4.app (x := ⟨(l2.getD w slot0).pl, 1, (l2.getD w slot0).me⟩) (sp := sp) m1 m2
      refine Stands.one (w + 1, k + 1, true, b9, q9, wl.take k ++ [⟨(l2.getD w slot0).pl, 1, (l2.getD w slot0).me⟩] ++ sp, cap) ⟨⟨by show w + 1 ≤ (l2.take n2).length; rw [tk_len hnl2]; omega, ?_⟩, ?_, ?_⟩
      · show Grw ((l.take n).map (hdP h.2.2.2) ++ ((l2.take n2).take (w + 1)).filterMap slP) _ _ _ _
        rw [take_snoc (d := slot0) (by rw [tk_len hnl2]; exact h4), tk_at h4, ve, ← zm]
        have e6 : [l2.getD w slot0].filterMap slP = [⟨(l2.getD w slot0).pl, 1, (l2.getD w slot0).me⟩] := by
         simp only [pw, sy, slP, if_pos h5]
        rw [e6]
        exact e5
      · show (l2.take n2).length - (w + 1) < (l2.take n2).length - w
        rw [tk_len hnl2]; omega
      exact vgo
      done))
 iterate 2 (
  focus
  rename_i b0 v hv h3 w hw h4 b1 h5
  obtain ⟨w, k, on, wb, wq, wl, wc⟩ := w
  obtain ⟨e3, e4⟩ : w ≤ (l2.take n2).length ∧ Grw ((l.take n).map (hdP h.2.2.2) ++ ((l2.take n2).take w).filterMap slP) wl on k wc := hw
  have e9 : k ≤ 70 + w := by
   rw [e4.1, zw, zt, tk_len hnl]
   have := wu slP ((l2.take n2).take w)
   rw [zp] at this
   omega
  have h4 : w < n2 := Int.ofNat_lt.1 (ow h4)
  first
   | (exact inR64 (by show _ ≤ (w : Int) + 1; omega) (by show (w : Int) + 1 ≤ _; omega)
      done)
   | (have h5 : ¬ 0 < (l2.getD w slot0).pl.2 := ov h5
      refine Stands.one (w + 1, k, on, wb, wq, wl, wc) ⟨⟨by show w + 1 ≤ (l2.take n2).length; rw [tk_len hnl2]; omega, ?_⟩, ?_, ?_⟩
      · show Grw ((l.take n).map (hdP h.2.2.2) ++ ((l2.take n2).take (w + 1)).filterMap slP) _ _ _ _
        rw [take_snoc (d := slot0) (by rw [tk_len hnl2]; exact h4), tk_at h4, ve]
        have e6 : [l2.getD w slot0].filterMap slP = [] := by
         simp only [pw, sy, slP, if_neg h5]
        rw [e6, zk]
        exact e4
      · show (l2.take n2).length - (w + 1) < (l2.take n2).length - w
        rw [tk_len hnl2]; omega
      exact vgo
      done))
 · rename_i b0 v hv h3 w hw h4
   obtain ⟨w, k, on, wb, wq, wl, wc⟩ := w
   obtain ⟨e3, e4⟩ : w ≤ (l2.take n2).length ∧ Grw ((l.take n).map (hdP h.2.2.2) ++ ((l2.take n2).take w).filterMap slP) wl on k wc := hw
   have e9 : k ≤ 70 + w := by
    rw [e4.1, zw, zt, tk_len hnl]
    have := wu slP ((l2.take n2).take w)
    rw [zp] at this
    omega
   have h4 : ¬ w < n2 := fun h => ov h4 (Int.ofNat_lt.2 h)
   obtain rfl : w = n2 := by rw [tk_len hnl2] at e3; omega
   rw [zu (l := l2.take w) (by rw [tk_len hnl2]; exact zy _)] at e4
   obtain ⟨k1, k2, k3, k4, k5⟩ := e4
   refine ⟨by show k ≤ wl.length; omega, by show k < 1000000000; omega, fun h => (k5 h).1, ?_⟩
   show ∀ x ∈ wl.take k, Pin x
   rw [k2]
   intro x hx
   rcases List.mem_append.1 hx with hx | hx
   · obtain ⟨y, hy, rfl⟩ := List.mem_map.1 hx
     exact ⟨(hA y hy).1, (hA y hy).2, ui _, by show (0 : Int) ≤ 64; omega⟩
   · obtain ⟨y, hy, hs⟩ := List.mem_filterMap.1 hx
     unfold slP at hs
     split at hs
     · simp only [Option.some.injEq] at hs
       subst hs
       exact hB y hy
     · cases hs
 · rename_i b0 v hv h3 w hw h4 W hW
   obtain ⟨w, k, on, wb, wq, wl, wc⟩ := w
   obtain ⟨e3, e4⟩ : w ≤ (l2.take n2).length ∧ Grw ((l.take n).map (hdP h.2.2.2) ++ ((l2.take n2).take w).filterMap slP) wl on k wc := hw
   have e9 : k ≤ 70 + w := by
    rw [e4.1, zw, zt, tk_len hnl]
    have := wu slP ((l2.take n2).take w)
    rw [zp] at this
    omega
   have h4 : ¬ w < n2 := fun h => ov h4 (Int.ofNat_lt.2 h)
   obtain rfl : w = n2 := by rw [tk_len hnl2] at e3; omega
   rw [zu (l := l2.take w) (by rw [tk_len hnl2]; exact zy _)] at e4
   obtain ⟨k1, k2, k3, k4, k5⟩ := e4
   obtain ⟨w1, w2⟩ := hW
   have w1 : List.Perm W (wl.take k) := w1
   have wk : vn W = k := by rw [w1.length_eq, zp]; omega
   rw [k2] at w1
   refine Ends.one (k, on, wb, wq, W ++ wl.drop k, wc) ⟨W, w1, w2, wk.symm, ?_, k3, ?_, k5⟩ ?_
   · show (W ++ wl.drop k).take k = W
     rw [← wk, List.take_left]
   · show wc ≤ (W ++ wl.drop k).length
     rw [zw, zj]; omega
   exact vgo
noncomputable def fcPages : Fc Tryd.prog C0 where
 tg := .fn 27
 X := Hd × Sq Pl × Sq Slot
 args := fun (h, (o, b, q, l, n, c), (o2, b2, q2, l2, n2, c2)) => [ptv h (.sl 0 0 n c) (.sl 1 0 n2 c2)]
 mem := fun (h, (o, b, q, l, n, c), (o2, b2, q2, l2, n2, c2)) => [⟨b, q, 2, true, some o, .rows 87 l⟩, ⟨b2, q2, 9, true, some o2, .rows 88 l2⟩]
 pre := fun (h, (o, b, q, l, n, c), (o2, b2, q2, l2, n2, c2)) => Sq.ok (o, b, q, l, n, c) ∧ Sq.ok (o2, b2, q2, l2, n2, c2) ∧ n ≤ 70 ∧ n2 ≤ 100 ∧ (∀ x ∈ l.take n, 0 ≤ x.1 ∧ x.1 ≤ 64) ∧ ∀ x ∈ l2.take n2, 0 ≤ x.pl.1 ∧ x.pl.1 ≤ 64 ∧ 0 ≤ x.pl.2 ∧ x.pl.2 ≤ 64
 alts := fun (h, (o, b, q, l, n, c), (o2, b2, q2, l2, n2, c2)) => [⟨Gx Pg, fun y => ∃ W, W.Perm ((l.take n).map (hdP h.2.2.2) ++ (l2.take n2).filterMap slP) ∧ Srd ltP W ∧ Grw W y.2.2.2.2.1 y.2.1 y.1 y.2.2.2.2.2, fun y => .sl 2 0 y.1 y.2.2.2.2.2,
       fun y => [⟨b, q, 2, true, some o, .rows 87 l⟩, ⟨b2, q2, 9, true, some o2, .rows 88 l2⟩, ⟨y.2.2.1, y.2.2.2.1, 9, true, some y.2.1, .rows 70 y.2.2.2.2.1⟩]⟩]
 mat vs m := match vs with
  | [.agg [.int _ h1, .int _ h2, .int _ h3, .int _ h4, .sl a 0 n c, .sl a' 0 n' c']] => match nth m a, nth m a' with
    | ⟨b, q, _, _, g, .rows 87 l⟩, ⟨b', q', _, _, g', .rows 88 l'⟩ => some (((h1, h2, h3, h4), (onOf g, b, q, l, n, c), (onOf g', b', q', l', n', c')), [a, a'])
    | _, _ => none
  | _ => none
 ok := fun (h, (o, b, q, l, n, c), (o2, b2, q2, l2, n2, c2)) x => pages_ok h o b q l n c o2 b2 q2 l2 n2 c2 x.1 x.2.1 x.2.2.1 x.2.2.2.1 x.2.2.2.2.1 x.2.2.2.2.2
end Go.Vx
namespace Go.Vx
open Go Go.Proofs
end Go.Vx
namespace Go.Vx
open Go Go.Proofs
variable [Gl]
def lst (x : Pl) : List Int := [x.1, x.2]
end Go.Vx
namespace Go.Vx
open Go Go.Proofs
abbrev pmayA : List Tk := [.p 0, .p 1, .p 2, .p 4, .q 3, .q 5, .e 6, .e 7, .p 8, .p 9, .p 10, .q 11, .p 12, .p 13, .p 14, .p 15, .p 16, .p 17, .p 18, .p 20, .p 21, .p 25, .q 19, .p 22, .p 23, .q 24, .q 26, .p 27, .p 28, .p 29, .p 30]
noncomputable def pmayA_ops : Array Oper := match opsOf Tryd.f13 5 with
 | some o => o
 | none => #[]
def pmayA_w : List Nat := [6, 7]
def pmayA_f : List Nat := []
def pmayA_l0 : Array Bool := #[false, false, false, false, false, false, false, false, false, false, false, false, false, false, false, false, false, false, false, false, false, false, false, false, false, false, false, false, false, false, false]
theorem pmayA_s0 : stepsOKL pmayA_ops pmayA_w pmayA_f false [.p 0, .p 1, .p 2, .p 4] pmayA_l0 = true := by kernel_rfl
def pmayA_l1 : Array Bool := #[true, true, true, false, true, false, false, false, false, false, false, false, false, false, false, false, false, false, false, false, false, false, false, false, false, false, false, false, false, false, false]
theorem pmayA_a0 : listedBy [.p 0, .p 1, .p 2, .p 4] pmayA_l0 = pmayA_l1 := by kernel_rfl
theorem pmayA_s1 : stepsOKL pmayA_ops pmayA_w pmayA_f false [.q 3, .q 5, .e 6, .e 7] pmayA_l1 = true := by kernel_rfl
def pmayA_l2 : Array Bool := #[true, true, true, true, true, true, true, true, false, false, false, false, false, false, false, false, false, false, false, false, false, false, false, false, false, false, false, false, false, false, false]
theorem pmayA_a1 : listedBy [.q 3, .q 5, .e 6, .e 7] pmayA_l1 = pmayA_l2 := by kernel_rfl
theorem pmayA_s2 : stepsOKL pmayA_ops pmayA_w pmayA_f false [.p 8, .p 9, .p 10, .q 11] pmayA_l2 = true := by kernel_rfl
def pmayA_l3 : Array Bool := #[true, true, true, true, true, true, true, true, true, true, true, true, false, false, false, false, false, false, false, false, false, false, false, false, false, false, false, false, false, false, false]
theorem pmayA_a2 : listedBy [.p 8, .p 9, .p 10, .q 11] pmayA_l2 = pmayA_l3 := by kernel_rfl
theorem pmayA_s3 : stepsOKL pmayA_ops pmayA_w pmayA_f false [.p 12, .p 13, .p 14, .p 15] pmayA_l3 = true := by kernel_rfl
def pmayA_l4 : Array Bool := #[true, true, true, true, true, true, true, true, true, true, true, true, true, true, true, true, false, false, false, false, false, false, false, false, false, false, false, false, false, false, false]
theorem pmayA_a3 : listedBy [.p 12, .p 13, .p 14, .p 15] pmayA_l3 = pmayA_l4 := by kernel_rfl
theorem pmayA_s4 : stepsOKL pmayA_ops pmayA_w pmayA_f false [.p 16, .p 17, .p 18, .p 20] pmayA_l4 = true := by kernel_rfl
def pmayA_l5 : Array Bool := #[true, true, true, true, true, true, true, true, true, true, true, true, true, true, true, true, true, true, true, false, true, false, false, false, false, false, false, false, false, false, false]
theorem pmayA_a4 : listedBy [.p 16, .p 17, .p 18, .p 20] pmayA_l4 = pmayA_l5 := by kernel_rfl
theorem pmayA_s5 : stepsOKL pmayA_ops pmayA_w pmayA_f false [.p 21, .p 25, .q 19, .p 22] pmayA_l5 = true := by kernel_rfl
def pmayA_l6 : Array Bool := #[true, true, true, true, true, true, true, true, true, true, true, true, true, true, true, true, true, true, true, true, true, true, true, false, false, true, false, false, false, false, false]
theorem pmayA_a5 : listedBy [.p 21, .p 25, .q 19, .p 22] pmayA_l5 = pmayA_l6 := by kernel_rfl
theorem pmayA_s6 : stepsOKL pmayA_ops pmayA_w pmayA_f false [.p 23, .q 24, .q 26, .p 27] pmayA_l6 = true := by kernel_rfl
def pmayA_l7 : Array Bool := #[true, true, true, true, true, true, true, true, true, true, true, true, true, true, true, true, true, true, true, true, true, true, true, true, true, true, true, true, false, false, false]
theorem pmayA_a6 : listedBy [.p 23, .q 24, .q 26, .p 27] pmayA_l6 = pmayA_l7 := by kernel_rfl
theorem pmayA_s7 : stepsOKL pmayA_ops pmayA_w pmayA_f false [.p 28, .p 29, .p 30] pmayA_l7 = true := by kernel_rfl
def pmayA_l8 : Array Bool := #[true, true, true, true, true, true, true, true, true, true, true, true, true, true, true, true, true, true, true, true, true, true, true, true, true, true, true, true, true, true, true]
theorem pmayA_a7 : listedBy [.p 28, .p 29, .p 30] pmayA_l7 = pmayA_l8 := by kernel_rfl
theorem pmayA_k8 : planOK pmayA_ops pmayA_w pmayA_f false (PTree.of []) pmayA_l8 = true := by kernel_rfl
theorem pmayA_k7 : planOK pmayA_ops pmayA_w pmayA_f false (PTree.of [.p 28, .p 29, .p 30]) pmayA_l7 = true := plan_cutL [.p 28, .p 29, .p 30] _ _ _ pmayA_s7 (by rw [pmayA_a7]; exact pmayA_k8)
theorem pmayA_k6 : planOK pmayA_ops pmayA_w pmayA_f false (PTree.of [.p 23, .q 24, .q 26, .p 27, .p 28, .p 29, .p 30]) pmayA_l6 = true := plan_cutL [.p 23, .q 24, .q 26, .p 27] _ _ _ pmayA_s6 (by rw [pmayA_a6]; exact pmayA_k7)
theorem pmayA_k5 : planOK pmayA_ops pmayA_w pmayA_f false (PTree.of [.p 21, .p 25, .q 19, .p 22, .p 23, .q 24, .q 26, .p 27, .p 28, .p 29, .p 30]) pmayA_l5 = true := plan_cutL [.p 21, .p 25, .q 19, .p 22] _ _ _ pmayA_s5 (by rw [pmayA_a5]; exact pmayA_k6)
theorem pmayA_k4 : planOK pmayA_ops pmayA_w pmayA_f false (PTree.of [.p 16, .p 17, .p 18, .p 20, .p 21, .p 25, .q 19, .p 22, .p 23, .q 24, .q 26, .p 27, .p 28, .p 29, .p 30]) pmayA_l4 = true := plan_cutL [.p 16, .p 17, .p 18, .p 20] _ _ _ pmayA_s4 (by rw [pmayA_a4]; exact pmayA_k5)
theorem pmayA_k3 : planOK pmayA_ops pmayA_w pmayA_f false (PTree.of [.p 12, .p 13, .p 14, .p 15, .p 16, .p 17, .p 18, .p 20, .p 21, .p 25, .q 19, .p 22, .p 23, .q 24, .q 26, .p 27, .p 28, .p 29, .p 30]) pmayA_l3 = true := plan_cutL [.p 12, .p 13, .p 14, .p 15] _ _ _ pmayA_s3 (by rw [pmayA_a3]; exact pmayA_k4)
theorem pmayA_k2 : planOK pmayA_ops pmayA_w pmayA_f false (PTree.of [.p 8, .p 9, .p 10, .q 11, .p 12, .p 13, .p 14, .p 15, .p 16, .p 17, .p 18, .p 20, .p 21, .p 25, .q 19, .p 22, .p 23, .q 24, .q 26, .p 27, .p 28, .p 29, .p 30]) pmayA_l2 = true := plan_cutL [.p 8, .p 9, .p 10, .q 11] _ _ _ pmayA_s2 (by rw [pmayA_a2]; exact pmayA_k3)
theorem pmayA_k1 : planOK pmayA_ops pmayA_w pmayA_f false (PTree.of [.q 3, .q 5, .e 6, .e 7, .p 8, .p 9, .p 10, .q 11, .p 12, .p 13, .p 14, .p 15, .p 16, .p 17, .p 18, .p 20, .p 21, .p 25, .q 19, .p 22, .p 23, .q 24, .q 26, .p 27, .p 28, .p 29, .p 30]) pmayA_l1 = true := plan_cutL [.q 3, .q 5, .e 6, .e 7] _ _ _ pmayA_s1 (by rw [pmayA_a1]; exact pmayA_k2)
theorem pmayA_k0 : planOK pmayA_ops pmayA_w pmayA_f false (PTree.of [.p 0, .p 1, .p 2, .p 4, .q 3, .q 5, .e 6, .e 7, .p 8, .p 9, .p 10, .q 11, .p 12, .p 13, .p 14, .p 15, .p 16, .p 17, .p 18, .p 20, .p 21, .p 25, .q 19, .p 22, .p 23, .q 24, .q 26, .p 27, .p 28, .p 29, .p 30]) pmayA_l0 = true := plan_cutL [.p 0, .p 1, .p 2, .p 4] _ _ _ pmayA_s0 (by rw [pmayA_a0]; exact pmayA_k1)
theorem pmayA_ok (ops : Array Oper) (h : opsOf Tryd.f13 5 = some ops) : planned ops (PTree.of pmayA) = true := by
 have e : ops = pmayA_ops := by unfold pmayA_ops; rw [h]
 subst e
 unfold planned
 rw [show effs (PTree.of pmayA) = pmayA_w from rfl, show lates (PTree.of pmayA) = pmayA_f from rfl, show xw pmayA_ops.size false = pmayA_l0 by kernel_rfl, pmayA_k0, show Region.noSelect pmayA_ops = true by kernel_rfl, show zo (PTree.of pmayA).len pmayA_ops.size = true by kernel_rfl]
 rfl
end Go.Vx
namespace Go.Vx
open Go Go.Proofs
abbrev pmayB : List Tk := [.p 0, .p 1, .p 2, .p 3, .p 4, .p 5, .p 7, .p 8, .q 6, .q 9, .e 10, .e 11, .p 12, .p 13, .p 14, .p 15, .q 16, .p 17, .p 18, .p 19, .p 20, .q 21, .e 22, .p 23, .p 24, .p 25, .p 26, .p 27, .p 28, .p 30, .p 31, .p 35, .q 29, .p 32, .p 33, .q 34, .q 36, .e 37, .p 38, .p 39, .p 40]
noncomputable def pmayB_ops : Array Oper := match opsOf Tryd.f13 11 with
 | some o => o
 | none => #[]
def pmayB_w : List Nat := [10, 11, 22, 37]
def pmayB_f : List Nat := []
def pmayB_l0 : Array Bool := #[false, false, false, false, false, false, false, false, false, false, false, false, false, false, false, false, false, false, false, false, false, false, false, false, false, false, false, false, false, false, false, false, false, false, false, false, false, false, false, false, false]
theorem pmayB_s0 : stepsOKL pmayB_ops pmayB_w pmayB_f false [.p 0, .p 1, .p 2, .p 3] pmayB_l0 = true := by kernel_rfl
def pmayB_l1 : Array Bool := #[true, true, true, true, false, false, false, false, false, false, false, false, false, false, false, false, false, false, false, false, false, false, false, false, false, false, false, false, false, false, false, false, false, false, false, false, false, false, false, false, false]
theorem pmayB_a0 : listedBy [.p 0, .p 1, .p 2, .p 3] pmayB_l0 = pmayB_l1 := by kernel_rfl
theorem pmayB_s1 : stepsOKL pmayB_ops pmayB_w pmayB_f false [.p 4, .p 5, .p 7, .p 8] pmayB_l1 = true := by kernel_rfl
def pmayB_l2 : Array Bool := #[true, true, true, true, true, true, false, true, true, false, false, false, false, false, false, false, false, false, false, false, false, false, false, false, false, false, false, false, false, false, false, false, false, false, false, false, false, false, false, false, false]
theorem pmayB_a1 : listedBy [.p 4, .p 5, .p 7, .p 8] pmayB_l1 = pmayB_l2 := by kernel_rfl
theorem pmayB_s2 : stepsOKL pmayB_ops pmayB_w pmayB_f false [.q 6, .q 9, .e 10, .e 11] pmayB_l2 = true := by kernel_rfl
def pmayB_l3 : Array Bool := #[true, true, true, true, true, true, true, true, true, true, true, true, false, false, false, false, false, false, false, false, false, false, false, false, false, false, false, false, false, false, false, false, false, false, false, false, false, false, false, false, false]
theorem pmayB_a2 : listedBy [.q 6, .q 9, .e 10, .e 11] pmayB_l2 = pmayB_l3 := by kernel_rfl
theorem pmayB_s3 : stepsOKL pmayB_ops pmayB_w pmayB_f false [.p 12, .p 13, .p 14, .p 15] pmayB_l3 = true := by kernel_rfl
def pmayB_l4 : Array Bool := #[true, true, true, true, true, true, true, true, true, true, true, true, true, true, true, true, false, false, false, false, false, false, false, false, false, false, false, false, false, false, false, false, false, false, false, false, false, false, false, false, false]
theorem pmayB_a3 : listedBy [.p 12, .p 13, .p 14, .p 15] pmayB_l3 = pmayB_l4 := by kernel_rfl
theorem pmayB_s4 : stepsOKL pmayB_ops pmayB_w pmayB_f false [.q 16, .p 17, .p 18, .p 19] pmayB_l4 = true := by kernel_rfl
def pmayB_l5 : Array Bool := #[true, true, true, true, true, true, true, true, true, true, true, true, true, true, true, true, true, true, true, true, false, false, false, false, false, false, false, false, false, false, false, false, false, false, false, false, false, false, false, false, false]
theorem pmayB_a4 : listedBy [.q 16, .p 17, .p 18, .p 19] pmayB_l4 = pmayB_l5 := by kernel_rfl
theorem pmayB_s5 : stepsOKL pmayB_ops pmayB_w pmayB_f false [.p 20, .q 21, .e 22, .p 23] pmayB_l5 = true := by kernel_rfl
def pmayB_l6 : Array Bool := #[true, true, true, true, true, true, true, true, true, true, true, true, true, true, true, true, true, true, true, true, true, true, true, true, false, false, false, false, false, false, false, false, false, false, false, false, false, false, false, false, false]
theorem pmayB_a5 : listedBy [.p 20, .q 21, .e 22, .p 23] pmayB_l5 = pmayB_l6 := by kernel_rfl
theorem pmayB_s6 : stepsOKL pmayB_ops pmayB_w pmayB_f false [.p 24, .p 25, .p 26, .p 27] pmayB_l6 = true := by kernel_rfl
def pmayB_l7 : Array Bool := #[true, true, true, true, true, true, true, true, true, true, true, true, true, true, true, true, true, true, true, true, true, true, true, true, true, true, true, true, false, false, false, false, false, false, false, false, false, false, false, false, false]
theorem pmayB_a6 : listedBy [.p 24, .p 25, .p 26, .p 27] pmayB_l6 = pmayB_l7 := by kernel_rfl
theorem pmayB_s7 : stepsOKL pmayB_ops pmayB_w pmayB_f false [.p 28, .p 30, .p 31, .p 35] pmayB_l7 = true := by kernel_rfl
def pmayB_l8 : Array Bool := #[true, true, true, true, true, true, true, true, true, true, true, true, true, true, true, true, true, true, true, true, true, true, true, true, true, true, true, true, true, false, true, true, false, false, false, true, false, false, false, false, false]
theorem pmayB_a7 : listedBy [.p 28, .p 30, .p 31, .p 35] pmayB_l7 = pmayB_l8 := by kernel_rfl
theorem pmayB_s8 : stepsOKL pmayB_ops pmayB_w pmayB_f false [.q 29, .p 32, .p 33, .q 34] pmayB_l8 = true := by kernel_rfl
def pmayB_l9 : Array Bool := #[true, true, true, true, true, true, true, true, true, true, true, true, true, true, true, true, true, true, true, true, true, true, true, true, true, true, true, true, true, true, true, true, true, true, true, true, false, false, false, false, false]
theorem pmayB_a8 : listedBy [.q 29, .p 32, .p 33, .q 34] pmayB_l8 = pmayB_l9 := by kernel_rfl
theorem pmayB_s9 : stepsOKL pmayB_ops pmayB_w pmayB_f false [.q 36, .e 37, .p 38, .p 39] pmayB_l9 = true := by kernel_rfl
def pmayB_l10 : Array Bool := #[true, true, true, true, true, true, true, true, true, true, true, true, true, true, true, true, true, true, true, true, true, true, true, true, true, true, true, true, true, true, true, true, true, true, true, true, true, true, true, true, false]
theorem pmayB_a9 : listedBy [.q 36, .e 37, .p 38, .p 39] pmayB_l9 = pmayB_l10 := by kernel_rfl
theorem pmayB_s10 : stepsOKL pmayB_ops pmayB_w pmayB_f false [.p 40] pmayB_l10 = true := by kernel_rfl
def pmayB_l11 : Array Bool := #[true, true, true, true, true, true, true, true, true, true, true, true, true, true, true, true, true, true, true, true, true, true, true, true, true, true, true, true, true, true, true, true, true, true, true, true, true, true, true, true, true]
theorem pmayB_a10 : listedBy [.p 40] pmayB_l10 = pmayB_l11 := by kernel_rfl
theorem pmayB_k11 : planOK pmayB_ops pmayB_w pmayB_f false (PTree.of []) pmayB_l11 = true := by kernel_rfl
theorem pmayB_k10 : planOK pmayB_ops pmayB_w pmayB_f false (PTree.of [.p 40]) pmayB_l10 = true := plan_cutL [.p 40] _ _ _ pmayB_s10 (by rw [pmayB_a10]; exact pmayB_k11)
theorem pmayB_k9 : planOK pmayB_ops pmayB_w pmayB_f false (PTree.of [.q 36, .e 37, .p 38, .p 39, .p 40]) pmayB_l9 = true := plan_cutL [.q 36, .e 37, .p 38, .p 39] _ _ _ pmayB_s9 (by rw [pmayB_a9]; exact pmayB_k10)
theorem pmayB_k8 : planOK pmayB_ops pmayB_w pmayB_f false (PTree.of [.q 29, .p 32, .p 33, .q 34, .q 36, .e 37, .p 38, .p 39, .p 40]) pmayB_l8 = true := plan_cutL [.q 29, .p 32, .p 33, .q 34] _ _ _ pmayB_s8 (by rw [pmayB_a8]; exact pmayB_k9)
theorem pmayB_k7 : planOK pmayB_ops pmayB_w pmayB_f false (PTree.of [.p 28, .p 30, .p 31, .p 35, .q 29, .p 32, .p 33, .q 34, .q 36, .e 37, .p 38, .p 39, .p 40]) pmayB_l7 = true := plan_cutL [.p 28, .p 30, .p 31, .p 35] _ _ _ pmayB_s7 (by rw [pmayB_a7]; exact pmayB_k8)
theorem pmayB_k6 : planOK pmayB_ops pmayB_w pmayB_f false (PTree.of [.p 24, .p 25, .p 26, .p 27, .p 28, .p 30, .p 31, .p 35, .q 29, .p 32, .p 33, .q 34, .q 36, .e 37, .p 38, .p 39, .p 40]) pmayB_l6 = true := plan_cutL [.p 24, .p 25, .p 26, .p 27] _ _ _ pmayB_s6 (by rw [pmayB_a6]; exact pmayB_k7)
theorem pmayB_k5 : planOK pmayB_ops pmayB_w pmayB_f false (PTree.of [.p 20, .q 21, .e 22, .p 23, .p 24, .p 25, .p 26, .p 27, .p 28, .p 30, .p 31, .p 35, .q 29, .p 32, .p 33, .q 34, .q 36, .e 37, .p 38, .p 39, .p 40]) pmayB_l5 = true := plan_cutL [.p 20, .q 21, .e 22, .p 23] _ _ _ pmayB_s5 (by rw [pmayB_a5]; exact pmayB_k6)
theorem pmayB_k4 : planOK pmayB_ops pmayB_w pmayB_f false (PTree.of [.q 16, .p 17, .p 18, .p 19, .p 20, .q 21, .e 22, .p 23, .p 24, .p 25, .p 26, .p 27, .p 28, .p 30, .p 31, .p 35, .q 29, .p 32, .p 33, .q 34, .q 36, .e 37, .p 38, .p 39, .p 40]) pmayB_l4 = true := plan_cutL [.q 16, .p 17, .p 18, .p 19] _ _ _ pmayB_s4 (by rw [pmayB_a4]; exact pmayB_k5)
theorem pmayB_k3 : planOK pmayB_ops pmayB_w pmayB_f false (PTree.of [.p 12, .p 13, .p 14, .p 15, .q 16, .p 17, .p 18, .p 19, .p 20, .q 21, .e 22, .p 23, .p 24, .p 25, .p 26, .p 27, .p 28, .p 30, .p 31, .p 35, .q 29, .p 32, .p 33, .q 34, .q 36, .e 37, .p 38, .p 39, .p 40]) pmayB_l3 = true := plan_cutL [.p 12, .p 13, .p 14, .p 15] _ _ _ pmayB_s3 (by rw [pmayB_a3]; exact pmayB_k4)
theorem pmayB_k2 : planOK pmayB_ops pmayB_w pmayB_f false (PTree.of [.q 6, .q 9, .e 10, .e 11, .p 12, .p 13, .p 14, .p 15, .q 16, .p 17, .p 18, .p 19, .p 20, .q 21, .e 22, .p 23, .p 24, .p 25, .p 26, .p 27, .p 28, .p 30, .p 31, .p 35, .q 29, .p 32, .p 33, .q 34, .q 36, .e 37, .p 38, .p 39, .p 40]) pmayB_l2 = true := plan_cutL [.q 6, .q 9, .e 10, .e 11] _ _ _ pmayB_s2 (by rw [pmayB_a2]; exact pmayB_k3)
theorem pmayB_k1 : planOK pmayB_ops pmayB_w pmayB_f false (PTree.of [.p 4, .p 5, .p 7, .p 8, .q 6, .q 9, .e 10, .e 11, .p 12, .p 13, .p 14, .p 15, .q 16, .p 17, .p 18, .p 19, .p 20, .q 21, .e 22, .p 23, .p 24, .p 25, .p 26, .p 27, .p 28, .p 30, .p 31, .p 35, .q 29, .p 32, .p 33, .q 34, .q 36, .e 37, .p 38, .p 39, .p 40]) pmayB_l1 = true := plan_cutL [.p 4, .p 5, .p 7, .p 8] _ _ _ pmayB_s1 (by rw [pmayB_a1]; exact pmayB_k2)
theorem pmayB_k0 : planOK pmayB_ops pmayB_w pmayB_f false (PTree.of [.p 0, .p 1, .p 2, .p 3, .p 4, .p 5, .p 7, .p 8, .q 6, .q 9, .e 10, .e 11, .p 12, .p 13, .p 14, .p 15, .q 16, .p 17, .p 18, .p 19, .p 20, .q 21, .e 22, .p 23, .p 24, .p 25, .p 26, .p 27, .p 28, .p 30, .p 31, .p 35, .q 29, .p 32, .p 33, .q 34, .q 36, .e 37, .p 38, .p 39, .p 40]) pmayB_l0 = true := plan_cutL [.p 0, .p 1, .p 2, .p 3] _ _ _ pmayB_s0 (by rw [pmayB_a0]; exact pmayB_k1)
theorem pmayB_ok (ops : Array Oper) (h : opsOf Tryd.f13 11 = some ops) : planned ops (PTree.of pmayB) = true := by
 have e : ops = pmayB_ops := by unfold pmayB_ops; rw [h]
 subst e
 unfold planned
 rw [show effs (PTree.of pmayB) = pmayB_w from rfl, show lates (PTree.of pmayB) = pmayB_f from rfl, show xw pmayB_ops.size false = pmayB_l0 by kernel_rfl, pmayB_k0, show Region.noSelect pmayB_ops = true by kernel_rfl, show zo (PTree.of pmayB).len pmayB_ops.size = true by kernel_rfl]
 rfl
end Go.Vx
