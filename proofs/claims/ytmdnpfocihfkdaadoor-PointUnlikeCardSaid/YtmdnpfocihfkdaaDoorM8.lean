/-
  Round 23: PointSays.
  Round 23: a point of which a block has not two numbers.
  Round 23: PointBack.
  Round 23: PointUnlike.
  Round 23: the errors that are laid; the inputs.
  Round 23: PointUnlike, where a block has not two numbers.
  Conditions: none.
-/
import Derived.Test.YtmdnpfocihfkdaaDoorM4
import Derived.Test.YtmdnpfocihfkdaaDoorM5
import Derived.Test.YtmdnpfocihfkdaaDoorM6
import Derived.Test.YtmdnpfocihfkdaaDoorM7
import Derived.Test.YtmdnpfocihfkdaaDoorRows
import Derived.LaidMore
import Derived.ChangeOld
import Derived.Below
import Derived.Stop.Joined
import Derived.Lib.SmallJoins
set_option linter.unusedSectionVars false
set_option maxRecDepth 100000
set_option linter.unusedVariables false
set_option linter.unusedSimpArgs false
namespace Go.Vx
open Go Go.Proofs
variable [Gl]

/-- The same, where the second has nothing. -/
def pcSameN : Pc Tryd.prog C0 := { pcSame with
  mat := fun vs m => match vs with
    | [.agg [.int _ h1, .int _ h2, .int _ h3, .int _ h4, .sl a 0 n c, .sl a2 0 n2 c2], .agg [.int _ h1', .int _ h2', .int _ h3', .int _ h4', .nils, .nils]] => match nth m a, nth m a2 with
      | ⟨b, q, _, _, g, .rows 71 l⟩, ⟨b2, q2, _, _, g2, .rows 74 l2⟩ => some ((((h1, h2, h3, h4), (onOf g, b, q, l, n, c), (onOf g2, b2, q2, l2, n2, c2)), ((h1', h2', h3', h4'), (false, 0, 0, [], 0, 0), (false, 0, 0, [], 0, 0))), [a, a2, m.length, m.length + 1])
      | _, _ => none
    | _ => none }
theorem plain0 : Plain C0 (Gl.A 0) := ⟨0, Gl.c 0, Gl.t 0, List.mem_singleton.2 rfl⟩
theorem grw_sq {α : Type} {L l : List α} {o : Bool} {b q i c : Nat} (h : Grw L l o i c) : Sq.ok (o, b, q, l, i, c) := ⟨h.2.2.1, Nat.le_trans h.2.2.1 h.2.2.2.1, h.2.2.2.2⟩
theorem says_f {l : List (Rw Int)} {n n2 : Nat} {n3 : Nat} {o : Bool} {b q c : Nat} {o2 : Bool} {b2 q2 c2 : Nat} {l2 : List Slot} (h1 : Sq.ok (o, b, q, l, n, c)) (h2 : Sq.ok (o2, b2, q2, l2, n2, c2)) (hr : ∀ r ∈ l.take n, Rok r)
    (d : (!fr (l.take n) n2 || decide ((8000 : Int) < (n3 : Int))) = false) : n ≤ 70 ∧ n2 ≤ 100 ∧ n3 ≤ 8000 ∧ ∀ r ∈ l.take n, Rok r ∧ r.l.length = 2 := by
  simp only [Bool.or_eq_false_iff, Bool.not_eq_false', decide_eq_false_iff_not] at d
  obtain ⟨e1, e2, e3⟩ := fr_iff.1 d.1
  rw [tk_len (h1.2.1)] at e1
  exact ⟨e1, e2, by omega, fun r hm => ⟨hr r hm, e3 r hm⟩⟩
theorem says_g {X : Bool} {n3 : Nat} (d : (X || decide ((8000 : Int) < (n3 : Int))) = false) : n3 ≤ 8000 := by
  simp only [Bool.or_eq_false_iff, decide_eq_false_iff_not] at d
  omega
theorem says_lim {b : List Int} {h : Hd} {A : List Pl} {B : List Slot} (hp : IsPt b h A B) (hb : b.length ≤ 8000) : A.length ≤ 1000000 ∧ B.length ≤ 1000000 := by
  have := bytesP_len h A B
  rw [← hp.2] at this
  omega
theorem blk_lsts {L : List (Rw Int)} (h : ∀ r ∈ L, r.l.length = 2) : (L.map blkOf).map lst = L.map (·.l) := by
  rw [List.map_map]
  refine List.map_congr_left fun r hr => ?_
  have := h r hr
  unfold blkOf lst
  match hl : r.l, this with
  | [a, b], _ => simp [hl]
theorem says_same {b : List Int} {h h' : Hd} {A : List Pl} {B : List Slot} {X Y : List (Rw Int)} {Z B' : List Slot} (hb : b.length ≤ 8000) (h1 : IsPt b h A B) (h2 : IsPt b h' (Y.map blkOf) B') (hX : X.map (·.l) = A.map lst) (hZ : Z = B)
    (hY : ∀ r ∈ Y, r.l.length = 2) : smP h h' X Y Z B' = true := by
  obtain ⟨a1, a2⟩ := says_lim h1 hb
  obtain ⟨a3, a4⟩ := says_lim h2 hb
  obtain ⟨e1, e2, e3⟩ := bytesP_inj h1.1 h2.1 (by omega) (by omega) (by omega) (by omega) (h1.2.symm.trans h2.2)
  subst e1 hZ
  exact smP_iff.2 ⟨rfl, by rw [hX, e2, blk_lsts hY], e3⟩
abbrev dead3 : Tm := [(3, .junk), (5, .junk), (6, .junk), (7, .junk), (8, .junk), (13, .junk), (14, .junk), (15, .junk), (16, .junk), (17, .junk), (18, .junk), (19, .junk), (20, .junk), (21, .junk), (22, .junk), (23, .junk), (24, .junk), (25, .junk), (26, .junk), (27, .junk), (28, .junk), (29, .junk), (30, .junk), (31, .junk), (32, .junk), (33, .junk), (34, .junk), (35, .junk), (36, .junk), (37, .junk), (38, .junk), (39, .junk), (40, .junk), (41, .junk), (42, .junk), (43, .junk), (44, .junk), (45, .junk), (46, .junk), (47, .junk), (48, .junk), (49, .junk), (50, .junk), (51, .junk), (52, .junk), (53, .junk), (54, .junk), (55, .junk), (56, .junk), (57, .junk), (58, .junk), (59, .junk), (60, .junk), (61, .junk), (62, .junk), (63, .junk), (64, .junk), (65, .junk), (66, .junk), (67, .junk)]
def SaJ : Inv' C0 := ⟨1000008, Unit, fun _ => dead3, fun _ m => match m with
  | a :: b :: c :: d :: _ => [a, b, c, d]
  | m => m, fun _ => True, fun _ => 0⟩
set_option maxHeartbeats 8000000 in
theorem says_ok (h : Hd) (o : Bool) (b q : Nat) (l : List (Rw Int)) (n c : Nat) (o2 : Bool) (b2 q2 : Nat) (l2 : List Slot) (n2 c2 : Nat) (o3 : Bool) (b3 q3 : Nat) (l3 : List Int) (n3 c3 : Nat)
    (h1 : Sq.ok (o, b, q, l, n, c)) (h2 : Sq.ok (o2, b2, q2, l2, n2, c2)) (h3 : Sq.ok (o3, b3, q3, l3, n3, c3)) (h3c : c3 ≤ l3.length) (hr : ∀ r ∈ l.take n, Rok r) (hb : Bys (l3.take n3)) :
    Tells (C := C0) Tryd.prog (.fn 3) [⟨b, q, 1, false, some o, .rows 71 l⟩, ⟨b2, q2, 9, false, some o2, .rows 74 l2⟩, ⟨b3, q3, 1, false, some o3, .rows 5 l3⟩] [ptv h (.sl 0 0 n c) (.sl 1 0 n2 c2), .sl 2 0 n3 c3] (.bool .t) := by
  refine loc_pc (P := Tryd.prog) (E := ⟨[fcMade, fcBytes, fcPb, fcOpen, fcRopen, fcBack], [pcFirst, pcFair, pcRpmay, pcPmay, pcSb, pcSame, pcSameN], 96, [(10, [1000009, 1000011], [.p 0, .p 1, .p 2, .p 3, .p 4, .p 5, .p 6, .p 7, .p 8, .q 9, .p 10, .p 11, .p 12, .p 13, .p 15, .e 14, .e 16, .p 17, .p 18])], [], []⟩) (L := [SaJ]) mix Tryd.func3 rfl (by kernel_rfl) (by kernel_rfl) rfl rfl ?_
  ((conv => (arg 1; reduce)); with_reducible repeat' (first | exact Tr.yes_h | refine Tr.and_h ?_ ?_ | refine Tr.imp_h fun _ => ?_ | refine Tr.all_h fun _ => ?_ | refine Tr.lf_h ?_))
  all_goals try (first | first | (show Region.lexB _ _ = true; kernel_rfl) | (show planned _ _ = true; kernel_rfl) | exact rfl | exact True.intro | ((try dsimp only [imp, C0, cG, cInt, cPl, cSlot, cPg, rwCodec, cRaw] at *); (try refine inR64 ?_ ?_) <;> (try simp only [List.length_set, List.length_append, List.length_take, List.length_drop]) <;> omega))
  · rename_i bn
    exact ⟨h1.2.1, h1.2.2⟩
  · rename_i bn d0
    obtain ⟨f1, f2, f3, f4⟩ := says_f h1 h2 hr d0
    exact ⟨h1, h2, f4, f1, f2⟩
  · rename_i bn d0 y1 k1
    obtain ⟨f1, f2, f3, f4⟩ := says_f h1 h2 hr d0
    exact ⟨grw_sq k1.1, grw_sq k1.2, Nat.le_trans f1 (by decide), Nat.le_trans f2 (by decide)⟩
  · rename_i bn d0 y1 k1 y2 k2
    obtain ⟨f1, f2, f3, f4⟩ := says_f h1 h2 hr d0
    exact ⟨h1, h2, f4, Nat.le_trans f1 (by decide), Nat.le_trans f2 (by decide)⟩
  · rename_i bn d0 y1 k1 y2 k2
    obtain ⟨f1, f2, f3, f4⟩ := says_f h1 h2 hr d0
    exact ⟨h1, h2, f4, f1, f2⟩
  · rename_i bn d0 y1 k1 y2 k2 y3 k3
    obtain ⟨f1, f2, f3, f4⟩ := says_f h1 h2 hr d0
    exact ⟨grw_sq k3.1, grw_sq k3.2, Nat.le_trans f1 (by decide), Nat.le_trans f2 (by decide)⟩
  · rename_i bn d0 y1 k1 y2 k2 y3 k3 d3 d4 d5
    exact plain0
  · rename_i bn d0 y1 k1 y2 k2 y3 k3 d3 d4 d5
    exact plain0
  · rename_i bn d0 y1 k1 y2 k2 y3 k3 d3
    have k2 : okP h (y1.1.2.2.2.2.1.take n) (y1.2.2.2.2.2.1.take n2) = false := k2
    rw [k1.1.2.1, k1.2.2.1] at k2
    have d3 : ((!(okP h (y3.1.2.2.2.2.1.take n) (y3.2.2.2.2.2.1.take n2) == okP h ((l.take n).map blkOf) (l2.take n2)) || okP h ((l.take n).map blkOf) (l2.take n2)) || (!okP h ((l.take n).map blkOf) (l2.take n2) && (!decide (Gl.A 0 = Gl.A 0) || decide ((0 : Int) ≠ 0)))) = true := d3
    rw [k3.1.2.1, k3.2.2.1, k2] at d3
    simp at d3
  · rename_i bn d0 y1 k1 y2 k2 y3 k3 d3
    refine Stands.one () ⟨trivial, ?_⟩
    ((conv => (arg 1; reduce)); with_reducible repeat' (first | exact Tr.yes_h | refine Tr.and_h ?_ ?_ | refine Tr.imp_h fun _ => ?_ | refine Tr.all_h fun _ => ?_ | refine Tr.lf_h ?_))
    all_goals (first | first | (show Region.lexB _ _ = true; kernel_rfl) | (show planned _ _ = true; kernel_rfl) | exact rfl | exact True.intro | ((try dsimp only [imp, C0, cG, cInt, cPl, cSlot, cPg, rwCodec, cRaw] at *); (try refine inR64 ?_ ?_) <;> (try simp only [List.length_set, List.length_append, List.length_take, List.length_drop]) <;> omega))
  · rename_i bn d0 y1 k1 y2 k2 u hu
    exact ⟨h3.1, by omega, by have := says_g d0; omega, h3.2.2, hb, by have := says_g d0; omega⟩
  · rename_i bn d0 y1 k1 y2 k2 u hu y5 k5 b5
    exact ⟨h3.1, by omega, by have := says_g d0; omega, h3.2.2, hb, by have := says_g d0; omega⟩
  · rename_i bn d0 y1 k1 y2 k2 u hu y5 k5 b5 y6 k6 b6 d6
    exact plain0
  · rename_i bn d0 y1 k1 y2 k2 u hu y5 k5 b5 y6 k6 b6 d6
    exact plain0
  · rename_i bn d0 y1 k1 y2 k2 u hu y5 k5 b5 y6 k6 b6 d6
    exact ⟨⟨Nat.le_refl _, Nat.le_refl _, fun _ => ⟨rfl, rfl⟩⟩, ⟨Nat.le_refl _, Nat.le_refl _, fun _ => ⟨rfl, rfl⟩⟩, Nat.zero_le _, Nat.zero_le _⟩
  · rename_i bn d0 y1 k1 y2 k2 u hu y5 k5 b5 y6 k6 b6 d6 y7 k7
    exact ⟨grw_sq k7.1.1, grw_sq k7.2, ⟨Nat.le_refl _, Nat.le_refl _, fun _ => ⟨rfl, rfl⟩⟩, ⟨Nat.le_refl _, Nat.le_refl _, fun _ => ⟨rfl, rfl⟩⟩, (fun r hr => k7.1.2.2 r hr), (fun r hr => nomatch hr), by decide, by decide⟩
  · rename_i bn d0 y1 k1 y2 k2 u hu y5 k5 b5 y6 k6 b6 d6 y7 k7
    have e1 : y7.1.2.2.2.2.1.take 0 = [] := rfl
    have e2 : y7.2.2.2.2.2.1.take 0 = [] := rfl
    exact smP_iff.2 ⟨rfl, rfl, rfl⟩
  · rename_i bn d0 y1 k1 y2 k2 u hu y5 k5 b5 y6 k6 b6 d6
    have d6 : ((false == false) && decide (Gl.A 0 = Gl.A 0)) = false := d6
    simp at d6
  · rename_i bn d0 y1 k1 y2 k2 u hu y5 k5 b5 y6 k6 b6 d6
    exact absurd k6.1 (k5 _ _ _)
  · rename_i bn d0 y1 k1 y2 k2 u hu y5 k5 b5 y6 k6 b6 d6 y7 k7
    exact absurd k6.1 (k5 _ _ _)
  · rename_i bn d0 y1 k1 y2 k2 u hu y5 k5 b5 y6 k6 b6 d6 y7 k7
    exact absurd k6.1 (k5 _ _ _)
  · rename_i bn d0 y1 k1 y2 k2 u hu y5 k5 b5 y6 k6 b6 d6
    exact absurd k6.1 (k5 _ _ _)
  · rename_i bn d0 y1 k1 y2 k2 u hu y5 k5 b5
    exact ⟨h3.1, by omega, by have := says_g d0; omega, h3.2.2, hb, by have := says_g d0; omega⟩
  · rename_i bn d0 y1 k1 y2 k2 u hu y5 k5 b5 y6 k6 b6
    exact absurd k5.1 (k6 _ _ _)
  · rename_i bn d0 y1 k1 y2 k2 u hu y5 k5 b5 y6 k6 b6 d6
    obtain ⟨q1, q2⟩ := says_lim k5.1 (by rw [List.length_take]; have := says_g d0; omega)
    rw [tk_len (k5.2.1.2.1)] at q1
    rw [tk_len (k5.2.2.2.1)] at q2
    exact ⟨k5.2.1, k5.2.2, q1, q2⟩
  · rename_i bn d0 y1 k1 y2 k2 u hu y5 k5 b5 y6 k6 b6 d6 y7 k7
    obtain ⟨q1, q2⟩ := says_lim k5.1 (by rw [List.length_take]; have := says_g d0; omega)
    rw [tk_len (k5.2.1.2.1)] at q1
    rw [tk_len (k5.2.2.2.1)] at q2
    exact ⟨grw_sq k7.1.1, grw_sq k7.2, k6.2.1, k6.2.2.1, k7.1.2.2, fun r hr => (k6.2.2.2 r hr).1, Nat.lt_of_le_of_lt q1 (by decide), Nat.lt_of_le_of_lt q2 (by decide)⟩
  · rename_i bn d0 y1 k1 y2 k2 u hu y5 k5 b5 y6 k6 b6 d6 y7 k7
    exact says_same (by rw [List.length_take]; have := says_g d0; omega) k5.1 k6.1 k7.1.2.1 k7.2.2.1 fun r hr => (k6.2.2.2 r hr).2
  · rename_i bn d0 y1 k1 y2 k2 u hu y5 k5 b5 y6 k6 b6 d6
    cases d6
  · rename_i bn d0 y1 k1 y2 k2
    obtain ⟨f1, f2, f3, f4⟩ := says_f h1 h2 hr d0
    exact ⟨h1, h2, f4, Nat.le_trans f1 (by decide), Nat.le_trans f2 (by decide)⟩
  · rename_i bn d0 y1 k1 y2 k2
    obtain ⟨f1, f2, f3, f4⟩ := says_f h1 h2 hr d0
    exact ⟨h1, h2, f4, f1, f2⟩
  · rename_i bn d0 y1 k1 y2 k2 y3 k3
    obtain ⟨f1, f2, f3, f4⟩ := says_f h1 h2 hr d0
    exact ⟨grw_sq k3.1, grw_sq k3.2, Nat.le_trans f1 (by decide), Nat.le_trans f2 (by decide)⟩
  · rename_i bn d0 y1 k1 y2 k2 y3 k3 d3
    have k2 := k2.1
    have d3 : (!(okP h (y3.1.2.2.2.2.1.take n) (y3.2.2.2.2.2.1.take n2) == okP h ((l.take n).map blkOf) (l2.take n2))) = true := d3
    rw [k3.1.2.1, k3.2.2.1] at d3
    simp at d3
  · rename_i bn d0 y1 k1 y2 k2 y3 k3 d3 d4
    obtain ⟨f1, f2, f3, f4⟩ := says_f h1 h2 hr d0
    exact ⟨h1, h2, f4, Nat.le_trans f1 (by decide), Nat.le_trans f2 (by decide)⟩
  · rename_i bn d0 y1 k1 y2 k2 y3 k3 d3 d4 y4 k4
    obtain ⟨k2, k5⟩ : okP h (y1.1.2.2.2.2.1.take n) (y1.2.2.2.2.2.1.take n2) = true ∧ Gr (bytesP h (y1.1.2.2.2.2.1.take n) (y1.2.2.2.2.2.1.take n2)) y2.2.2.1 (bytesP h (y1.1.2.2.2.2.1.take n) (y1.2.2.2.2.2.1.take n2)).length y2.2.2.2 := k2
    have k6 : Gr (bytesP h ((l.take n).map blkOf) (l2.take n2)) y4.2.2.1 (bytesP h ((l.take n).map blkOf) (l2.take n2)).length y4.2.2.2 := k4
    show 0 + (bytesP h (y1.1.2.2.2.2.1.take n) (y1.2.2.2.2.2.1.take n2)).length ≤ y2.2.2.1.length ∧ 0 + (bytesP h ((l.take n).map blkOf) (l2.take n2)).length ≤ y4.2.2.1.length ∧ (_ → _ ∧ _) ∧ (_ → _ ∧ _) ∧ Bys ((y2.2.2.1.drop 0).take (bytesP h (y1.1.2.2.2.2.1.take n) (y1.2.2.2.2.2.1.take n2)).length) ∧ Bys ((y4.2.2.1.drop 0).take (bytesP h ((l.take n).map blkOf) (l2.take n2)).length)
    rw [List.drop_zero, List.drop_zero, k5.2.1, k6.2.1]
    exact ⟨by have := k5.2.2; omega, by have := k6.2.2; omega, fun h => Bool.noConfusion h, fun h => Bool.noConfusion h, bytesP_byt _ _ _, bytesP_byt _ _ _⟩
  · rename_i bn d0 y1 k1 y2 k2 y3 k3 d3 d4 y4 k4 d5
    obtain ⟨k2, k5⟩ : okP h (y1.1.2.2.2.2.1.take n) (y1.2.2.2.2.2.1.take n2) = true ∧ Gr (bytesP h (y1.1.2.2.2.2.1.take n) (y1.2.2.2.2.2.1.take n2)) y2.2.2.1 (bytesP h (y1.1.2.2.2.2.1.take n) (y1.2.2.2.2.2.1.take n2)).length y2.2.2.2 := k2
    have k6 : Gr (bytesP h ((l.take n).map blkOf) (l2.take n2)) y4.2.2.1 (bytesP h ((l.take n).map blkOf) (l2.take n2)).length y4.2.2.2 := k4
    have d5 : (!ieq ((y2.2.2.1.drop 0).take (bytesP h (y1.1.2.2.2.2.1.take n) (y1.2.2.2.2.2.1.take n2)).length) ((y4.2.2.1.drop 0).take (bytesP h ((l.take n).map blkOf) (l2.take n2)).length) || !okP h ((l.take n).map blkOf) (l2.take n2)) = true := d5
    rw [List.drop_zero, List.drop_zero, k5.2.1, k6.2.1, k1.1.2.1, k1.2.2.1] at d5
    rw [k1.1.2.1, k1.2.2.1] at k2
    rw [k2, ieq_yes rfl] at d5
    cases d5
  · rename_i bn d0 y1 k1 y2 k2 y3 k3 d3 d4 y4 k4 d5
    refine Stands.one () ⟨trivial, ?_⟩
    ((conv => (arg 1; reduce)); with_reducible repeat' (first | exact Tr.yes_h | refine Tr.and_h ?_ ?_ | refine Tr.imp_h fun _ => ?_ | refine Tr.all_h fun _ => ?_ | refine Tr.lf_h ?_))
    all_goals (first | first | (show Region.lexB _ _ = true; kernel_rfl) | (show planned _ _ = true; kernel_rfl) | exact rfl | exact True.intro | ((try dsimp only [imp, C0, cG, cInt, cPl, cSlot, cPg, rwCodec, cRaw] at *); (try refine inR64 ?_ ?_) <;> (try simp only [List.length_set, List.length_append, List.length_take, List.length_drop]) <;> omega))
  · rename_i bn d0 y1 k1 y2 k2 y3 k3 d3 d4 d5
    have k2 : okP h (y1.1.2.2.2.2.1.take n) (y1.2.2.2.2.2.1.take n2) = true := k2.1
    rw [k1.1.2.1, k1.2.2.1] at k2
    have d4 : okP h ((l.take n).map blkOf) (l2.take n2) = false := d4
    rw [k2] at d4; cases d4
  · rename_i bn d0 y1 k1 y2 k2 y3 k3 d3 d4 d5
    have k2 : okP h (y1.1.2.2.2.2.1.take n) (y1.2.2.2.2.2.1.take n2) = true := k2.1
    rw [k1.1.2.1, k1.2.2.1] at k2
    have d4 : okP h ((l.take n).map blkOf) (l2.take n2) = false := d4
    rw [k2] at d4; cases d4
  · rename_i bn d0 y1 k1 y2 k2 u hu
    exact ⟨h3.1, by omega, by have := says_g d0; omega, h3.2.2, hb, by have := says_g d0; omega⟩
  · rename_i bn d0 y1 k1 y2 k2 u hu y5 k5 b5
    exact ⟨h3.1, by omega, by have := says_g d0; omega, h3.2.2, hb, by have := says_g d0; omega⟩
  · rename_i bn d0 y1 k1 y2 k2 u hu y5 k5 b5 y6 k6 b6 d6
    exact plain0
  · rename_i bn d0 y1 k1 y2 k2 u hu y5 k5 b5 y6 k6 b6 d6
    exact plain0
  · rename_i bn d0 y1 k1 y2 k2 u hu y5 k5 b5 y6 k6 b6 d6
    exact ⟨⟨Nat.le_refl _, Nat.le_refl _, fun _ => ⟨rfl, rfl⟩⟩, ⟨Nat.le_refl _, Nat.le_refl _, fun _ => ⟨rfl, rfl⟩⟩, Nat.zero_le _, Nat.zero_le _⟩
  · rename_i bn d0 y1 k1 y2 k2 u hu y5 k5 b5 y6 k6 b6 d6 y7 k7
    exact ⟨grw_sq k7.1.1, grw_sq k7.2, ⟨Nat.le_refl _, Nat.le_refl _, fun _ => ⟨rfl, rfl⟩⟩, ⟨Nat.le_refl _, Nat.le_refl _, fun _ => ⟨rfl, rfl⟩⟩, (fun r hr => k7.1.2.2 r hr), (fun r hr => nomatch hr), by decide, by decide⟩
  · rename_i bn d0 y1 k1 y2 k2 u hu y5 k5 b5 y6 k6 b6 d6 y7 k7
    have e1 : y7.1.2.2.2.2.1.take 0 = [] := rfl
    have e2 : y7.2.2.2.2.2.1.take 0 = [] := rfl
    exact smP_iff.2 ⟨rfl, rfl, rfl⟩
  · rename_i bn d0 y1 k1 y2 k2 u hu y5 k5 b5 y6 k6 b6 d6
    have d6 : ((false == false) && decide (Gl.A 0 = Gl.A 0)) = false := d6
    simp at d6
  · rename_i bn d0 y1 k1 y2 k2 u hu y5 k5 b5 y6 k6 b6 d6
    exact absurd k6.1 (k5 _ _ _)
  · rename_i bn d0 y1 k1 y2 k2 u hu y5 k5 b5 y6 k6 b6 d6 y7 k7
    exact absurd k6.1 (k5 _ _ _)
  · rename_i bn d0 y1 k1 y2 k2 u hu y5 k5 b5 y6 k6 b6 d6 y7 k7
    exact absurd k6.1 (k5 _ _ _)
  · rename_i bn d0 y1 k1 y2 k2 u hu y5 k5 b5 y6 k6 b6 d6
    exact absurd k6.1 (k5 _ _ _)
  · rename_i bn d0 y1 k1 y2 k2 u hu y5 k5 b5
    exact ⟨h3.1, by omega, by have := says_g d0; omega, h3.2.2, hb, by have := says_g d0; omega⟩
  · rename_i bn d0 y1 k1 y2 k2 u hu y5 k5 b5 y6 k6 b6
    exact absurd k5.1 (k6 _ _ _)
  · rename_i bn d0 y1 k1 y2 k2 u hu y5 k5 b5 y6 k6 b6 d6
    obtain ⟨q1, q2⟩ := says_lim k5.1 (by rw [List.length_take]; have := says_g d0; omega)
    rw [tk_len (k5.2.1.2.1)] at q1
    rw [tk_len (k5.2.2.2.1)] at q2
    exact ⟨k5.2.1, k5.2.2, q1, q2⟩
  · rename_i bn d0 y1 k1 y2 k2 u hu y5 k5 b5 y6 k6 b6 d6 y7 k7
    obtain ⟨q1, q2⟩ := says_lim k5.1 (by rw [List.length_take]; have := says_g d0; omega)
    rw [tk_len (k5.2.1.2.1)] at q1
    rw [tk_len (k5.2.2.2.1)] at q2
    exact ⟨grw_sq k7.1.1, grw_sq k7.2, k6.2.1, k6.2.2.1, k7.1.2.2, fun r hr => (k6.2.2.2 r hr).1, Nat.lt_of_le_of_lt q1 (by decide), Nat.lt_of_le_of_lt q2 (by decide)⟩
  · rename_i bn d0 y1 k1 y2 k2 u hu y5 k5 b5 y6 k6 b6 d6 y7 k7
    exact says_same (by rw [List.length_take]; have := says_g d0; omega) k5.1 k6.1 k7.1.2.1 k7.2.2.1 fun r hr => (k6.2.2.2 r hr).2
  · rename_i bn d0 y1 k1 y2 k2 u hu y5 k5 b5 y6 k6 b6 d6
    cases d6
end Go.Vx
set_option linter.unusedSectionVars false
set_option maxRecDepth 100000
set_option linter.unusedVariables false
set_option linter.unusedSimpArgs false
namespace Go.Vx
open Go Go.Proofs
variable [Gl]

def FrO (A : List Raw) : Inv' C0 := ⟨4, Nat, fun i => [(3, .int .i64 (i : Int))], fun _ m => m, fun i => i ≤ A.length ∧ ∀ r ∈ A.take i, r.2.1 = 2, fun i => A.length - i⟩
theorem fairO_ok (h : Hd) (o : Bool) (b q : Nat) (l : List Raw) (n c : Nat) (o' : Bool) (b' q' : Nat) (l' : List Slot) (n' c' : Nat) (h1 : n ≤ l.length) (ho : o = false → n = 0 ∧ c = 0) (hr : ∃ r ∈ l.take n, r.2.1 ≠ 2) :
    Tells (C := C0) Tryd.prog (.fn 9) [⟨b, q, 1, false, some o, .rows 1071 l⟩, ⟨b', q', 9, false, some o', .rows 74 l'⟩] [ptv h (.sl 0 0 n c) (.sl 1 0 n' c')] (.bool .f) := by
  refine loc_pc (P := Tryd.prog) (E := ⟨[], [], 28, [], [], []⟩) (L := [FrO (l.take n)]) mix Tryd.func9 rfl (by kernel_rfl) (by kernel_rfl) rfl rfl ?_
  ((conv => (arg 1; reduce)); with_reducible repeat' (first | exact Tr.yes_h | refine Tr.and_h ?_ ?_ | refine Tr.imp_h fun _ => ?_ | refine Tr.all_h fun _ => ?_ | refine Tr.lf_h ?_))
  all_goals try (first | first | (show Region.lexB _ _ = true; kernel_rfl) | (show planned _ _ = true; kernel_rfl) | exact rfl | exact True.intro | ((try dsimp only [imp, C0, cG, cInt, cPl, cSlot, cPg, rwCodec, cRaw] at *); (try refine inR64 ?_ ?_) <;> (try simp only [List.length_set, List.length_append, List.length_take, List.length_drop]) <;> omega))
  · rename_i b0 h0
    refine Stands.one (0 : Nat) ⟨⟨Nat.zero_le _, by simp⟩, ?_⟩
    ((conv => (arg 1; reduce)); with_reducible repeat' (first | exact Tr.yes_h | refine Tr.and_h ?_ ?_ | refine Tr.imp_h fun _ => ?_ | refine Tr.all_h fun _ => ?_ | refine Tr.lf_h ?_))
    all_goals (first | first | (show Region.lexB _ _ = true; kernel_rfl) | (show planned _ _ = true; kernel_rfl) | exact rfl | exact True.intro | ((try dsimp only [imp, C0, cG, cInt, cPl, cSlot, cPg, rwCodec, cRaw] at *); (try refine inR64 ?_ ?_) <;> (try simp only [List.length_set, List.length_append, List.length_take, List.length_drop]) <;> omega))
  all_goals try (rename_i b0 h0 v hv h2; change Nat at v; have h2 := of_decide_eq_true h2; first | exact h2 | exact on_of ho (by omega) | (show (v : Int).toNat + 0 < l.length; omega))
  · rename_i b0 h0 v hv h2 h3
    change Nat at v
    have h2 := of_decide_eq_true h2
    have h0 : (decide (70 < (n : Int)) || decide (100 < (n' : Int))) = false := h0
    simp only [Bool.or_eq_false_iff, decide_eq_false_iff_not] at h0
    exact inR64 (by show _ ≤ (v : Int) + 1; omega) (by show (v : Int) + 1 ≤ _; omega)
  · rename_i b0 h0 v hv h2 h3
    change Nat at v
    have h2 := of_decide_eq_true h2
    obtain ⟨e1, e2⟩ := hv
    have h3 : ¬ (((l.getD v (none, 0, 0)).2.1 : Nat) : Int) ≠ 2 := of_decide_eq_false h3
    refine Stands.one (v + 1 : Nat) ⟨⟨by rw [tk_len h1]; omega, ?_⟩, ?_, ?_⟩
    · intro r2 hr2
      have hr2 : r2 ∈ (l.take n).take (v + 1) := hr2
      rw [take_snoc (d := (none, 0, 0)) (by rw [tk_len h1]; omega), tk_at (by omega)] at hr2
      rcases List.mem_append.1 hr2 with h4 | h4
      · exact e2 r2 h4
      · rw [List.mem_singleton.1 h4]; omega
    · show (l.take n).length - (v + 1) < (l.take n).length - v
      rw [tk_len h1]; omega
    ((conv => (arg 1; reduce)); with_reducible repeat' (first | exact Tr.yes_h | refine Tr.and_h ?_ ?_ | refine Tr.imp_h fun _ => ?_ | refine Tr.all_h fun _ => ?_ | refine Tr.lf_h ?_))
    all_goals (first | first | (show Region.lexB _ _ = true; kernel_rfl) | (show planned _ _ = true; kernel_rfl) | exact rfl | exact True.intro | ((try dsimp only [imp, C0, cG, cInt, cPl, cSlot, cPg, rwCodec, cRaw] at *); (try refine inR64 ?_ ?_) <;> (try simp only [List.length_set, List.length_append, List.length_take, List.length_drop]) <;> omega))
  · rename_i b0 h0 v hv h2
    change Nat at v
    have h2 := of_decide_eq_false h2
    obtain ⟨e1, e2⟩ := hv
    rw [List.take_of_length_le (by rw [tk_len h1]; omega)] at e2
    obtain ⟨r, hr1, hr2⟩ := hr
    exact absurd (e2 r hr1) hr2
def pcFairO : Pc Tryd.prog C0 where
  tg := .fn 9
  X := Hd × (Bool × Nat × Nat × List Raw × Nat × Nat) × Sq Slot
  args := fun (h, (o, b, q, l, n, c), (o', b', q', l', n', c')) => [ptv h (.sl 0 0 n c) (.sl 1 0 n' c')]
  mem := fun (h, (o, b, q, l, n, c), (o', b', q', l', n', c')) => [⟨b, q, 1, false, some o, .rows 1071 l⟩, ⟨b', q', 9, false, some o', .rows 74 l'⟩]
  pre := fun (h, (o, b, q, l, n, c), (o', b', q', l', n', c')) => n ≤ l.length ∧ (o = false → n = 0 ∧ c = 0) ∧ ∃ r ∈ l.take n, r.2.1 ≠ 2
  res := fun (h, (o, b, q, l, n, c), (o', b', q', l', n', c')) => .bool .f
  mat vs m := match vs with
    | [.agg [.int _ h1, .int _ h2, .int _ h3, .int _ h4, .sl a 0 n c, .sl a' 0 n' c']] => match nth m a, nth m a' with
      | ⟨b, q, _, _, g, .rows 1071 l⟩, ⟨b', q', _, _, g', .rows 74 l'⟩ => some (((h1, h2, h3, h4), (onOf g, b, q, l, n, c), (onOf g', b', q', l', n', c')), [a, a'])
      | _, _ => none
    | _ => none
  ok := fun (h, (o, b, q, l, n, c), (o', b', q', l', n', c')) x => fairO_ok h o b q l n c o' b' q' l' n' c' x.1 x.2.1 x.2.2
theorem saysO_ok (h : Hd) (o : Bool) (b q : Nat) (l : List Raw) (n c : Nat) (o2 : Bool) (b2 q2 : Nat) (l2 : List Slot) (n2 c2 : Nat) (o3 : Bool) (b3 q3 : Nat) (l3 : List Int) (n3 c3 : Nat)
    (h1 : n ≤ l.length) (ho : o = false → n = 0 ∧ c = 0) (hr : ∃ r ∈ l.take n, r.2.1 ≠ 2) :
    Tells (C := C0) Tryd.prog (.fn 3) [⟨b, q, 1, false, some o, .rows 1071 l⟩, ⟨b2, q2, 9, false, some o2, .rows 74 l2⟩, ⟨b3, q3, 1, false, some o3, .rows 5 l3⟩] [ptv h (.sl 0 0 n c) (.sl 1 0 n2 c2), .sl 2 0 n3 c3] (.bool .t) := by
  refine loc_pc (P := Tryd.prog) (E := ⟨[], [pcFirst, pcFairO], 96, [], [], []⟩) (L := []) mix Tryd.func3 rfl (by kernel_rfl) (by kernel_rfl) rfl rfl ?_
  ((conv => (arg 1; reduce)); with_reducible repeat' (first | exact Tr.yes_h | refine Tr.and_h ?_ ?_ | refine Tr.imp_h fun _ => ?_ | refine Tr.all_h fun _ => ?_ | refine Tr.lf_h ?_))
  all_goals try (first | first | (show Region.lexB _ _ = true; kernel_rfl) | (show planned _ _ = true; kernel_rfl) | exact rfl | exact True.intro | ((try dsimp only [imp, C0, cG, cInt, cPl, cSlot, cPg, rwCodec, cRaw] at *); (try refine inR64 ?_ ?_) <;> (try simp only [List.length_set, List.length_append, List.length_take, List.length_drop]) <;> omega))
  · exact ⟨h1, ho, hr⟩
end Go.Vx
set_option linter.unusedSectionVars false
set_option maxRecDepth 100000
set_option linter.unusedVariables false
set_option linter.unusedSimpArgs false
namespace Go.Vx
open Go Go.Proofs
variable [Gl]

theorem plainG : ∀ g, g < 3 → Plain C0 (Gl.A g)
  | 0, _ => ⟨0, _, _, List.Mem.head _⟩
  | 1, _ => ⟨1, _, _, List.Mem.head _⟩
  | 2, _ => ⟨2, _, _, List.Mem.head _⟩
  | g + 3, h => absurd h (by omega)
theorem and511 (x : Int) : 0 ≤ ibit .and .i64 x 511 ∧ ibit .and .i64 x 511 ≤ 511 := by
  unfold ibit
  simp only
  have h1 : (BitVec.ofInt IntKind.i64.bits x &&& BitVec.ofInt IntKind.i64.bits 511).toNat ≤ 511 := by
    rw [BitVec.toNat_and]
    exact Nat.le_trans Nat.and_le_right (by decide)
  rw [wrap_i64 _ (by omega)]
  omega
theorem okP_cn {h : Hd} {A : List Pl} {B : List Slot} (hk : okP h A B = true) : cn h.1 = true := by
  unfold okP at hk
  have := (okSs_at hk).1
  simp only [okH, Bool.and_eq_true] at this
  exact this.1.1.1.1
/-- What pieces of P are. -/
structure BkF (P : List Int) (s num : Int) (y : Nat × Nat × List (Rw Int) × Nat) : Prop where
  s16 : 16 ≤ s ∧ s ≤ 1024
  c : cn num = true
  n64 : pcN P.length s.toNat ≤ 64
  pos : 1 ≤ pcN P.length s.toNat
  g : pcN P.length s.toNat ≤ y.2.2.2 ∧ pcN P.length s.toNat ≤ y.2.2.1.length
  r : ∀ r ∈ y.2.2.1.take (pcN P.length s.toNat), Rok r ∧ Bys r.l
  p : rowL y.2.2.1 0 (pcN P.length s.toNat) = pcs P s.toNat num (pcN P.length s.toNat)
  j : JOk (rowL y.2.2.1 0 (pcN P.length s.toNat)) num (P.length : Nat)
  o : (jout (rowL y.2.2.1 0 (pcN P.length s.toNat))).take P.length = P
theorem bk_of {P : List Int} (hP : Bys P) {y2 : Nat × Nat × List Int × Nat} {y3 : Nat × Nat × List (Rw Int) × Nat} {s num : Int} (k2 : Gr P y2.2.2.1 P.length y2.2.2.2)
    (k3 : (16 ≤ s ∧ s ≤ 1024) ∧ cn num = true ∧ P.length ≤ 64 * (s.toNat - 12) ∧ Grw (y3.2.2.1.take (pcN P.length s.toNat)) y3.2.2.1 true (pcN P.length s.toNat) y3.2.2.2 ∧ Prs (y2.2.2.1.take P.length) s.toNat num y3.2.2.1 (pcN P.length s.toNat)) :
    BkF P s num y3 := by
  obtain ⟨a1, a2, a3, a4, a5⟩ := k3
  rw [k2.2.1] at a5
  obtain ⟨j1, j2⟩ := jb1 (by omega) (by omega) a2 a3 a5
  exact ⟨a1, a2, pcN_le (by omega) a3, pcN_pos _ _, ⟨a4.2.2.1, Nat.le_trans a4.2.2.1 a4.2.2.2.1⟩, prs_rows hP a5, prs_rowL a5, j1, j2⟩
theorem bk_join {P : List Int} {s num : Int} {y3 : Nat × Nat × List (Rw Int) × Nat} (F : BkF P s num y3) {y4 : (Int × Nat) × Nat × Nat × List Int}
    (k4 : JOk (rowL y3.2.2.1 0 (pcN P.length s.toNat)) y4.1.1 y4.1.2 ∧ y4.1.2 ≤ y4.2.2.2.length ∧ y4.2.2.2.take y4.1.2 = (jout (rowL y3.2.2.1 0 (pcN P.length s.toNat))).take y4.1.2) :
    y4.1.1 = num ∧ y4.1.2 = P.length ∧ y4.2.2.2.take y4.1.2 = P ∧ y4.1.2 ≤ y4.2.2.2.length := by
  obtain ⟨u1, u2⟩ := jok_uniq k4.1 F.j
  have u3 : y4.1.2 = P.length := by omega
  refine ⟨u1, u3, ?_, k4.2.1⟩
  have := k4.2.2
  rw [u3, F.o] at this
  rw [u3]; exact this
theorem bk_row {P : List Int} {s num : Int} {y3 : Nat × Nat × List (Rw Int) × Nat} (F : BkF P s num y3) {v : Nat} (hv : v < pcN P.length s.toNat) : (y3.2.2.1.getD v Rw.nil).l = piece P s.toNat num v := by
  have h := rowL_at (l := y3.2.2.1) (i := 0) (n := pcN P.length s.toNat) (by have := F.g.2; omega) hv
  rw [F.p, pcs_at hv] at h
  exact h.symm
theorem bk_tail {P : List Int} {s num : Int} {y3 : Nat × Nat × List (Rw Int) × Nat} (F : BkF P s num y3) (h : 1 < pcN P.length s.toNat) :
    (srow y3.2.2.2 (Int.toNat 1) 0 + (pcN P.length s.toNat - Int.toNat 1) ≤ y3.2.2.1.length ∧ (true = false → pcN P.length s.toNat - Int.toNat 1 = 0 ∧ y3.2.2.2 - Int.toNat 1 = 0) ∧ (∀ r ∈ (y3.2.2.1.drop (srow y3.2.2.2 (Int.toNat 1) 0)).take (pcN P.length s.toNat - Int.toNat 1), Rok r ∧ Bys r.l) ∧ pcN P.length s.toNat - Int.toNat 1 ≤ 1000000) ∧
    ¬ jbad (rowL y3.2.2.1 (srow y3.2.2.2 (Int.toNat 1) 0) (pcN P.length s.toNat - Int.toNat 1)) ∧ (∀ x z, ¬ JOk (rowL y3.2.2.1 (srow y3.2.2.2 (Int.toNat 1) 0) (pcN P.length s.toNat - Int.toNat 1)) x z) ∧ True := by
  have e0 : Int.toNat 1 = 1 := rfl
  have es : srow y3.2.2.2 1 0 = 1 := by
    unfold srow
    rw [if_neg (by have := F.g.1; omega)]
  rw [e0, es]
  have hg := F.g.2
  have h64 := F.n64
  have hlen : (rowL y3.2.2.1 1 (pcN P.length s.toNat - 1)).length = pcN P.length s.toNat - 1 := rowL_len (by omega)
  have hat : ∀ v, v < pcN P.length s.toNat - 1 → (rowL y3.2.2.1 1 (pcN P.length s.toNat - 1)).getD v [] = piece P s.toNat num (v + 1) := by
    intro v hv
    rw [rowL_at (by omega) hv, bk_row F (by omega)]
  have hpl : ∀ v, (piece P s.toNat num v).length = s.toNat := fun v => piece_len (by have := F.s16; omega)
  have hJ : Jg (rowL y3.2.2.1 1 (pcN P.length s.toNat - 1)) := by
    have := F.s16
    refine ⟨by omega, by rw [hat 0 (by omega), hpl]; omega, by rw [hat 0 (by omega), hpl]; omega, fun v hv => ?_⟩
    rw [hlen] at hv
    rw [hat v hv, hat 0 (by omega), hpl, hpl]
  refine ⟨⟨by omega, fun h => Bool.noConfusion h, fun r hr => F.r r ?_, by omega⟩, jg_iff.1 hJ, fun x z hj => ?_, trivial⟩
  · obtain ⟨v, hv, rfl⟩ := List.getElem_of_mem hr
    rw [List.getElem_take, List.getElem_drop]
    rw [List.length_take, List.length_drop] at hv
    rw [List.mem_take_iff_getElem]
    exact ⟨1 + v, by omega, rfl⟩
  · have := (hj.2.1 0 (by omega)).2.1
    rw [hat 0 (by omega), (piece_nm (cn_u32 F.c) (by omega) (by have := F.s16; have := F.j.2.2.2.2.1; rw [F.p, pcs_len, pcs_at (by omega), hpl] at this; have h3 : pcN P.length s.toNat * (s.toNat - 12) ≤ 64 * 1012 := Nat.mul_le_mul h64 (by omega); omega)).2.1] at this
    omega
theorem bk_init {P : List Int} {s num : Int} {y3 : Nat × Nat × List (Rw Int) × Nat} (F : BkF P s num y3) (h : 1 < pcN P.length s.toNat) :
    (0 + ((pcN P.length s.toNat : Int) - 1).toNat ≤ y3.2.2.1.length ∧ (true = false → ((pcN P.length s.toNat : Int) - 1).toNat = 0 ∧ y3.2.2.2 = 0) ∧ (∀ r ∈ (y3.2.2.1.drop 0).take ((pcN P.length s.toNat : Int) - 1).toNat, Rok r ∧ Bys r.l) ∧ ((pcN P.length s.toNat : Int) - 1).toNat ≤ 1000000) ∧
    ¬ jbad (rowL y3.2.2.1 0 ((pcN P.length s.toNat : Int) - 1).toNat) ∧ ∀ x z, ¬ JOk (rowL y3.2.2.1 0 ((pcN P.length s.toNat : Int) - 1).toNat) x z := by
  have e0 : ((pcN P.length s.toNat : Int) - 1).toNat = pcN P.length s.toNat - 1 := by omega
  rw [e0]
  have hg := F.g.2
  have h64 := F.n64
  have hlen : (rowL y3.2.2.1 0 (pcN P.length s.toNat - 1)).length = pcN P.length s.toNat - 1 := rowL_len (by omega)
  have hat : ∀ v, v < pcN P.length s.toNat - 1 → (rowL y3.2.2.1 0 (pcN P.length s.toNat - 1)).getD v [] = piece P s.toNat num v := by
    intro v hv
    rw [rowL_at (by omega) hv, Nat.add_zero, bk_row F (by omega)]
  have hpl : ∀ v, (piece P s.toNat num v).length = s.toNat := fun v => piece_len (by have := F.s16; omega)
  have hJ : Jg (rowL y3.2.2.1 0 (pcN P.length s.toNat - 1)) := by
    have := F.s16
    refine ⟨by omega, by rw [hat 0 (by omega), hpl]; omega, by rw [hat 0 (by omega), hpl]; omega, fun v hv => ?_⟩
    rw [hlen] at hv
    rw [hat v hv, hat 0 (by omega), hpl, hpl]
  refine ⟨⟨by omega, fun h => Bool.noConfusion h, fun r hr => F.r r ?_, by omega⟩, jg_iff.1 hJ, fun x z hj => ?_⟩
  · rw [List.drop_zero] at hr
    obtain ⟨v, hv, rfl⟩ := List.getElem_of_mem hr
    rw [List.getElem_take]
    rw [List.length_take] at hv
    rw [List.mem_take_iff_getElem]
    exact ⟨v, by omega, rfl⟩
  · have hB : P.length < 4294967296 := by have := F.s16; have := F.j.2.2.2.2.1; rw [F.p, pcs_len, pcs_at (by omega), hpl] at this; have h3 : pcN P.length s.toNat * (s.toNat - 12) ≤ 64 * 1012 := Nat.mul_le_mul h64 (by omega); omega
    have a1 := (hj.2.1 0 (by omega)).2.2
    rw [hat 0 (by omega), (piece_nm (cn_u32 F.c) (by omega) hB).2.2] at a1
    have a2 := hj.2.2.2.2.2
    have a3 := F.j.2.2.2.2.2
    rw [hlen, hat 0 (by omega), hpl, ← a1] at a2
    rw [F.p, pcs_len, pcs_at (by omega), hpl] at a3
    omega
abbrev dead5 : Tm := [(1, .junk), (7, .junk), (8, .junk), (9, .junk), (10, .junk), (11, .junk), (12, .junk), (13, .junk), (14, .junk), (15, .junk), (16, .junk), (17, .junk), (18, .junk), (19, .junk), (20, .junk), (21, .junk), (22, .junk), (27, .junk), (28, .junk), (29, .junk), (30, .junk), (31, .junk), (32, .junk), (33, .junk), (34, .junk), (35, .junk), (36, .junk), (37, .junk), (38, .junk), (39, .junk), (40, .junk), (41, .junk), (42, .junk), (43, .junk), (44, .junk), (45, .junk), (46, .junk), (47, .junk), (48, .junk), (49, .junk), (50, .junk), (51, .junk), (52, .junk), (53, .junk), (54, .junk), (55, .junk), (56, .junk), (57, .junk), (58, .junk), (59, .junk), (60, .junk), (61, .junk), (62, .junk), (63, .junk), (64, .junk), (65, .junk), (66, .junk), (67, .junk), (68, .junk), (69, .junk), (70, .junk), (71, .junk), (72, .junk), (73, .junk), (74, .junk), (75, .junk), (76, .junk), (77, .junk), (78, .junk), (79, .junk), (80, .junk), (81, .junk), (82, .junk), (83, .junk), (84, .junk), (85, .junk), (86, .junk), (87, .junk), (88, .junk), (89, .junk), (90, .junk), (91, .junk), (92, .junk), (93, .junk), (94, .junk), (95, .junk), (96, .junk), (97, .junk), (98, .junk), (99, .junk), (100, .junk), (101, .junk), (102, .junk), (103, .junk), (104, .junk), (105, .junk), (106, .junk), (107, .junk), (108, .junk), (109, .junk), (110, .junk), (111, .junk), (112, .junk), (113, .junk), (114, .junk), (115, .junk), (116, .junk), (117, .junk), (118, .junk), (119, .junk), (120, .junk), (121, .junk), (122, .junk), (123, .junk), (124, .junk), (125, .junk), (126, .junk), (127, .junk), (128, .junk), (129, .junk), (130, .junk)]
def BkJ : Inv' C0 := ⟨1000019, Unit, fun _ => dead5, fun _ m => match m with
  | a :: b :: c :: d :: _ => [a, b, c, d]
  | m => m, fun _ => True, fun _ => 0⟩
set_option maxHeartbeats 8000000 in
theorem back5_ok (h : Hd) (o : Bool) (b q : Nat) (l : List (Rw Int)) (n c : Nat) (o2 : Bool) (b2 q2 : Nat) (l2 : List Slot) (n2 c2 : Nat) (size : Int) (o3 : Bool) (b3 q3 : Nat) (l3 : List Int) (n3 c3 : Nat)
    (h1 : Sq.ok (o, b, q, l, n, c)) (h2 : Sq.ok (o2, b2, q2, l2, n2, c2)) (h3 : Sq.ok (o3, b3, q3, l3, n3, c3)) (h3c : c3 ≤ l3.length) (hr : ∀ r ∈ l.take n, Rok r) (hb : Bys (l3.take n3)) :
    Tells (C := C0) Tryd.prog (.fn 5) [⟨b, q, 1, false, some o, .rows 71 l⟩, ⟨b2, q2, 9, false, some o2, .rows 74 l2⟩, ⟨b3, q3, 1, false, some o3, .rows 5 l3⟩] [ptv h (.sl 0 0 n c) (.sl 1 0 n2 c2), .int .i64 size, .sl 2 0 n3 c3] (.bool .t) := by
  refine loc_pc (P := Tryd.prog) (E := ⟨[fcMade, fcBytes, fcPieces, fcJoin, fcOpen, fcBack], [pcFirst, pcFair, pcSb, pcSame], 152, [(12, [1000003, 1000015], [.p 0, .p 1, .p 2, .p 3, .p 4, .p 5, .p 6, .p 7, .p 8, .p 9, .p 10, .p 11, .p 12, .p 13, .p 15, .e 14, .e 16, .p 17, .p 18])], [], []⟩) (L := [BkJ]) mix Tryd.func5 rfl (by kernel_rfl) (by kernel_rfl) rfl rfl ?_
  ((conv => (arg 1; reduce)); with_reducible repeat' (first | exact Tr.yes_h | refine Tr.and_h ?_ ?_ | refine Tr.imp_h fun _ => ?_ | refine Tr.all_h fun _ => ?_ | refine Tr.lf_h ?_))
  all_goals try (first | first | (show Region.lexB _ _ = true; kernel_rfl) | (show planned _ _ = true; kernel_rfl) | exact rfl | exact True.intro | ((try dsimp only [imp, C0, cG, cInt, cPl, cSlot, cPg, rwCodec, cRaw] at *); (try refine inR64 ?_ ?_) <;> (try simp only [List.length_set, List.length_append, List.length_take, List.length_drop]) <;> omega))
  all_goals try exact plainG _ (by decide)
  all_goals try (refine Stands.one () ⟨trivial, ?_⟩; ((conv => (arg 1; reduce)); with_reducible repeat' (first | exact Tr.yes_h | refine Tr.and_h ?_ ?_ | refine Tr.imp_h fun _ => ?_ | refine Tr.all_h fun _ => ?_ | refine Tr.lf_h ?_)); all_goals (first | first | (show Region.lexB _ _ = true; kernel_rfl) | (show planned _ _ = true; kernel_rfl) | exact rfl | exact True.intro | ((try dsimp only [imp, C0, cG, cInt, cPl, cSlot, cPg, rwCodec, cRaw] at *); (try refine inR64 ?_ ?_) <;> (try simp only [List.length_set, List.length_append, List.length_take, List.length_drop]) <;> omega)))
  · rename_i bn
    exact ⟨h1.2.1, h1.2.2⟩
  · rename_i bn d0
    obtain ⟨f1, f2, f3, f4⟩ := says_f h1 h2 hr d0
    exact ⟨h1, h2, f4, f1, f2⟩
  · rename_i bn d0 y1 k1
    obtain ⟨f1, f2, f3, f4⟩ := says_f h1 h2 hr d0
    exact ⟨grw_sq k1.1, grw_sq k1.2, Nat.le_trans f1 (by decide), Nat.le_trans f2 (by decide)⟩
  · rename_i bn d0 y1 k1 y2 k2 u hu
    exact ⟨h3.1, by omega, by have := says_g d0; omega, h3.2.2, hb, by have := says_g d0; omega⟩
  · rename_i bn d0 y1 k1 y2 k2 u hu y5 k5 b5
    exact ⟨⟨Nat.le_refl _, Nat.le_refl _, fun _ => ⟨rfl, rfl⟩⟩, ⟨Nat.le_refl _, Nat.le_refl _, fun _ => ⟨rfl, rfl⟩⟩, Nat.zero_le _, Nat.zero_le _⟩
  · rename_i bn d0 y1 k1 y2 k2 u hu y5 k5 b5
    obtain ⟨q1, q2⟩ := says_lim k5.1 (by rw [List.length_take]; have := says_g d0; omega)
    rw [tk_len k5.2.1.2.1] at q1
    rw [tk_len k5.2.2.2.1] at q2
    exact ⟨k5.2.1, k5.2.2, q1, q2⟩
  · rename_i bn d0 y1 k1 y2 k2 u hu y5 k5 b5 y6 k6
    exact absurd (k5.1.1.symm.trans k6) (by decide)
  · rename_i bn d0 y1 k1 y2 k2 u hu y5 k5 b5 y6 k6
    have e := k6.2.2.2
    exact ⟨by show 0 + _ ≤ _; omega, by show 0 + n3 ≤ l3.length; have := h3.2.1; dsimp only at this; omega, fun h => Bool.noConfusion h, h3.2.2, (by show Bys (List.take _ (List.drop 0 _)); rw [List.drop_zero, k6.2.2.1]; exact bytesP_byt _ _ _), hb⟩
  · rename_i bn d0 y1 k1 y2 k2 u hu y5 k5 b5 y6 k6
    refine ieq_yes ?_
    rw [List.drop_zero, List.drop_zero, k6.2.2.1]
    exact k5.1.2.symm
  · rename_i bn d0 y1 k1 y2 k2
    have s5 := and511 size
    exact inR64 (by omega) (by omega)
  · rename_i bn d0 y1 k1 y2 k2
    obtain ⟨f1, f2, f3, f4⟩ := says_f h1 h2 hr d0
    have lp : (bytesP h (y1.1.2.2.2.2.1.take n) (y1.2.2.2.2.2.1.take n2)).length ≤ 8000 := by
      rw [bytesP_len, k1.1.2.1, k1.2.2.1, List.length_map, tk_len h1.2.1, tk_len h2.2.1]; dsimp only; omega
    have e := k2.2.2.2
    exact ⟨⟨e.1, Nat.le_trans e.1 e.2, fun h => Bool.noConfusion h⟩, Nat.le_trans lp (by decide)⟩
  · rename_i bn d0 y1 k1 y2 k2 y3 k3 d1
    have s5 := and511 size
    exact inR64 (by omega) (by omega)
  · rename_i bn d0 y1 k1 y2 k2 y3 k3 d1
    have s5 := and511 size
    exact inR64 (by omega) (by omega)
  · rename_i bn d0 y1 k1 y2 k2 y3 k3
    have s5 := and511 size
    exact absurd k3 (by intro hk; rcases hk with hk | hk <;> omega)
  · rename_i bn d0 y1 k1 y2 k2 y3 k3
    exact absurd ((okP_cn k2.1).symm.trans k3.2) (by decide)
  · rename_i bn d0 y1 k1 y2 k2 y3 k3
    have s5 := and511 size
    have k4 := k3.2.2
    show (decide (Gl.A 1 = Gl.A 1) && decide (64 * (ibit .and .i64 size 511 + 300 - 12) < ((bytesP h (y1.1.2.2.2.2.1.take n) (y1.2.2.2.2.2.1.take n2)).length : Int))) = true
    simp only [decide_true, Bool.true_and, decide_eq_true_eq]
    have k4 : 64 * ((ibit .and .i64 size 511 + 300).toNat - 12) < (bytesP h (y1.1.2.2.2.2.1.take n) (y1.2.2.2.2.2.1.take n2)).length := k4
    omega
  · rename_i bn d0 y1 k1 y2 k2 y3 k3
    have F := bk_of (bytesP_byt _ _ _) k2.2 k3
    exact ⟨by show 0 + _ ≤ _; rw [Nat.zero_add]; exact F.g.2, fun h => Bool.noConfusion h, F.r, by have := F.n64; exact Nat.le_trans this (by decide)⟩
  · exact ⟨Nat.le_refl _, Nat.le_refl _, by decide, fun _ => ⟨rfl, rfl⟩, (show Bys [] from fun x hx => nomatch hx), by decide⟩
  · rename_i bn d0 y1 k1 y2 k2 y3 k3 y4 k4 y5 k5 b5
    have F := bk_of (bytesP_byt _ _ _) k2.2 k3
    exact absurd k4 F.j.1
  · rename_i bn d0 y1 k1 y2 k2 y3 k3 y4 k4 y5 k5 b5
    have F := bk_of (bytesP_byt _ _ _) k2.2 k3
    exact absurd k4 F.j.1
  · exact ⟨Nat.le_refl _, Nat.le_refl _, by decide, fun _ => ⟨rfl, rfl⟩, (show Bys [] from fun x hx => nomatch hx), by decide⟩
  · rename_i bn d0 y1 k1 y2 k2 y3 k3 y4 k4 y5 k5 b5
    have F := bk_of (bytesP_byt _ _ _) k2.2 k3
    exact absurd F.j (k4.2 _ _)
  · rename_i bn d0 y1 k1 y2 k2 y3 k3 y4 k4 y5 k5 b5
    have F := bk_of (bytesP_byt _ _ _) k2.2 k3
    exact absurd F.j (k4.2 _ _)
  · rename_i bn d0 y1 k1 y2 k2 y3 k3 y4 k4
    have F := bk_of (bytesP_byt _ _ _) k2.2 k3
    obtain ⟨u1, u2, u3, u4⟩ := bk_join F k4
    obtain ⟨f1, f2, f3, f4⟩ := says_f h1 h2 hr d0
    have lp : (bytesP h (y1.1.2.2.2.2.1.take n) (y1.2.2.2.2.2.1.take n2)).length ≤ 8000 := by
      rw [bytesP_len, k1.1.2.1, k1.2.2.1, List.length_map, tk_len h1.2.1, tk_len h2.2.1]; dsimp only; omega
    exact ⟨Nat.le_refl _, by show 0 + _ ≤ _; omega, by rw [u2]; exact Nat.lt_of_le_of_lt lp (by decide), fun h => Bool.noConfusion h, (by show Bys (List.take _ (List.drop 0 _)); rw [List.drop_zero, u3]; exact bytesP_byt _ _ _), by rw [u2]; exact Nat.le_trans lp (by decide)⟩
  · rename_i bn d0 y1 k1 y2 k2 y3 k3 y4 k4 y5 k5 b5
    have F := bk_of (bytesP_byt _ _ _) k2.2 k3
    obtain ⟨u1, u2, u3, u4⟩ := bk_join F k4
    exact absurd ⟨k2.1, by rw [List.drop_zero, u3]⟩ (k5 h (y1.1.2.2.2.2.1.take n) (y1.2.2.2.2.2.1.take n2))
  · rename_i bn d0 y1 k1 y2 k2 y3 k3 y4 k4 y5 k5 b5 d5
    have F := bk_of (bytesP_byt _ _ _) k2.2 k3
    obtain ⟨u1, u2, u3, u4⟩ := bk_join F k4
    exact absurd u1 (of_decide_eq_true d5)
  · rename_i bn d0 y1 k1 y2 k2 y3 k3 y4 k4 y5 k5 b5 d5
    have F := bk_of (bytesP_byt _ _ _) k2.2 k3
    obtain ⟨u1, u2, u3, u4⟩ := bk_join F k4
    obtain ⟨f1, f2, f3, f4⟩ := says_f h1 h2 hr d0
    have lp : (bytesP h (y1.1.2.2.2.2.1.take n) (y1.2.2.2.2.2.1.take n2)).length ≤ 8000 := by
      rw [bytesP_len, k1.1.2.1, k1.2.2.1, List.length_map, tk_len h1.2.1, tk_len h2.2.1]; dsimp only; omega
    obtain ⟨q1, q2⟩ := says_lim k5.1 (by rw [List.drop_zero, u3]; exact lp)
    rw [tk_len k5.2.1.2.1] at q1
    rw [tk_len k5.2.2.2.1] at q2
    exact ⟨k5.2.1, k5.2.2, q1, q2⟩
  · rename_i bn d0 y1 k1 y2 k2 y3 k3 y4 k4 y5 k5 b5 d5 y6 k6
    have F := bk_of (bytesP_byt _ _ _) k2.2 k3
    obtain ⟨u1, u2, u3, u4⟩ := bk_join F k4
    obtain ⟨f1, f2, f3, f4⟩ := says_f h1 h2 hr d0
    have lp : (bytesP h (y1.1.2.2.2.2.1.take n) (y1.2.2.2.2.2.1.take n2)).length ≤ 8000 := by
      rw [bytesP_len, k1.1.2.1, k1.2.2.1, List.length_map, tk_len h1.2.1, tk_len h2.2.1]; dsimp only; omega
    obtain ⟨q1, q2⟩ := says_lim k5.1 (by rw [List.drop_zero, u3]; exact lp)
    rw [tk_len k5.2.1.2.1] at q1
    rw [tk_len k5.2.2.2.1] at q2
    exact ⟨grw_sq k6.1.1, grw_sq k6.2, h1, h2, k6.1.2.2, hr, Nat.lt_of_le_of_lt q1 (by decide), Nat.lt_of_le_of_lt q2 (by decide)⟩
  · rename_i bn d0 y1 k1 y2 k2 y3 k3 y4 k4 y5 k5 b5 d5 y6 k6 d6
    have F := bk_of (bytesP_byt _ _ _) k2.2 k3
    obtain ⟨u1, u2, u3, u4⟩ := bk_join F k4
    obtain ⟨f1, f2, f3, f4⟩ := says_f h1 h2 hr d0
    have lp : (bytesP h (y1.1.2.2.2.2.1.take n) (y1.2.2.2.2.2.1.take n2)).length ≤ 8000 := by
      rw [bytesP_len, k1.1.2.1, k1.2.2.1, List.length_map, tk_len h1.2.1, tk_len h2.2.1]; dsimp only; omega
    obtain ⟨q1, q2⟩ := says_lim k5.1 (by rw [List.drop_zero, u3]; exact lp)
    rw [tk_len k5.2.1.2.1] at q1
    rw [tk_len k5.2.2.2.1] at q2
    have k7 := k5.1
    rw [List.drop_zero, u3, k1.1.2.1, k1.2.2.1] at k7
    have hs := says_same (b := bytesP h ((l.take n).map blkOf) (l2.take n2)) (Y := l.take n) (B' := l2.take n2) (by rw [← k1.1.2.1, ← k1.2.2.1]; exact lp) k7 ⟨by rw [← k1.1.2.1, ← k1.2.2.1]; exact k2.1, rfl⟩ k6.1.2.1 k6.2.2.1 fun r hr => (f4 r hr).2
    have d6 := (congrArg not hs).symm.trans d6
    cases d6
  · rename_i bn d0 y1 k1 y2 k2 y3 k3 y4 k4 y5 k5 b5 d5 y6 k6 d6 d7
    have F := bk_of (bytesP_byt _ _ _) k2.2 k3
    exact Int.ofNat_le.2 F.pos
  · rename_i bn d0 y1 k1 y2 k2 y3 k3 y4 k4 y5 k5 b5 d5 y6 k6 d6 d7
    have F := bk_of (bytesP_byt _ _ _) k2.2 k3
    have d7 := Int.ofNat_lt.1 (of_decide_eq_true d7)
    obtain ⟨v1, v2, v3, v4⟩ := bk_tail F d7
    exact v1
  · rename_i bn d0 y1 k1 y2 k2 y3 k3 y4 k4 y5 k5 b5 d5 y6 k6 d6 d7 y7 k7
    have F := bk_of (bytesP_byt _ _ _) k2.2 k3
    have := F.n64
    exact inR64 (by omega) (by omega)
  · rename_i bn d0 y1 k1 y2 k2 y3 k3 y4 k4 y5 k5 b5 d5 y6 k6 d6 d7 y7 k7
    have F := bk_of (bytesP_byt _ _ _) k2.2 k3
    have := F.pos
    omega
  · rename_i bn d0 y1 k1 y2 k2 y3 k3 y4 k4 y5 k5 b5 d5 y6 k6 d6 d7 y7 k7
    have F := bk_of (bytesP_byt _ _ _) k2.2 k3
    have := F.g.1
    omega
  · rename_i bn d0 y1 k1 y2 k2 y3 k3 y4 k4 y5 k5 b5 d5 y6 k6 d6 d7 y7 k7
    have F := bk_of (bytesP_byt _ _ _) k2.2 k3
    have d7 := Int.ofNat_lt.1 (of_decide_eq_true d7)
    exact (bk_init F d7).1
  · rename_i bn d0 y1 k1 y2 k2 y3 k3 y4 k4 y5 k5 b5 d5 y6 k6 d6 d7 y7 k7 y8 k8 d8
    have F := bk_of (bytesP_byt _ _ _) k2.2 k3
    have d7 := Int.ofNat_lt.1 (of_decide_eq_true d7)
    obtain ⟨v1, v2, v3, v4⟩ := bk_tail F d7
    exact absurd k7 v2
  · rename_i bn d0 y1 k1 y2 k2 y3 k3 y4 k4 y5 k5 b5 d5 y6 k6 d6 d7 y7 k7 y8 k8 d8
    have F := bk_of (bytesP_byt _ _ _) k2.2 k3
    have d7 := Int.ofNat_lt.1 (of_decide_eq_true d7)
    obtain ⟨v1, v2, v3, v4⟩ := bk_tail F d7
    exact absurd k7 v2
  · rename_i bn d0 y1 k1 y2 k2 y3 k3 y4 k4 y5 k5 b5 d5 y6 k6 d6 d7 y7 k7 y8 k8
    have F := bk_of (bytesP_byt _ _ _) k2.2 k3
    have d7 := Int.ofNat_lt.1 (of_decide_eq_true d7)
    obtain ⟨v1, v2, v3, v4⟩ := bk_tail F d7
    exact absurd k7 v2
  · rename_i bn d0 y1 k1 y2 k2 y3 k3 y4 k4 y5 k5 b5 d5 y6 k6 d6 d7 y7 k7
    have F := bk_of (bytesP_byt _ _ _) k2.2 k3
    have := F.n64
    exact inR64 (by omega) (by omega)
  · rename_i bn d0 y1 k1 y2 k2 y3 k3 y4 k4 y5 k5 b5 d5 y6 k6 d6 d7 y7 k7
    have F := bk_of (bytesP_byt _ _ _) k2.2 k3
    have := F.pos
    omega
  · rename_i bn d0 y1 k1 y2 k2 y3 k3 y4 k4 y5 k5 b5 d5 y6 k6 d6 d7 y7 k7
    have F := bk_of (bytesP_byt _ _ _) k2.2 k3
    have := F.g.1
    omega
  · rename_i bn d0 y1 k1 y2 k2 y3 k3 y4 k4 y5 k5 b5 d5 y6 k6 d6 d7 y7 k7
    have F := bk_of (bytesP_byt _ _ _) k2.2 k3
    have d7 := Int.ofNat_lt.1 (of_decide_eq_true d7)
    exact (bk_init F d7).1
  · rename_i bn d0 y1 k1 y2 k2 y3 k3 y4 k4 y5 k5 b5 d5 y6 k6 d6 d7 y7 k7 y8 k8 d8
    have F := bk_of (bytesP_byt _ _ _) k2.2 k3
    have d7 := Int.ofNat_lt.1 (of_decide_eq_true d7)
    obtain ⟨w1, w2, w3⟩ := bk_init F d7
    exact absurd k8 w2
  · rename_i bn d0 y1 k1 y2 k2 y3 k3 y4 k4 y5 k5 b5 d5 y6 k6 d6 d7 y7 k7 y8 k8 d8
    have d8 : (!decide (Gl.A 0 = Gl.A 0) || !decide (Gl.A 0 = Gl.A 0)) = true := d8
    simp at d8
  · rename_i bn d0 y1 k1 y2 k2 y3 k3 y4 k4 y5 k5 b5 d5 y6 k6 d6 d7 y7 k7 y8 k8
    have F := bk_of (bytesP_byt _ _ _) k2.2 k3
    have d7 := Int.ofNat_lt.1 (of_decide_eq_true d7)
    obtain ⟨w1, w2, w3⟩ := bk_init F d7
    exact absurd k8.1 (w3 _ _)
  · rename_i bn d0 y1 k1 y2 k2 y3 k3 y4 k4 y5 k5 b5 d5 y6 k6 d6 d7 y7 k7
    have F := bk_of (bytesP_byt _ _ _) k2.2 k3
    have := F.n64
    exact inR64 (by omega) (by omega)
  · rename_i bn d0 y1 k1 y2 k2 y3 k3 y4 k4 y5 k5 b5 d5 y6 k6 d6 d7 y7 k7
    have F := bk_of (bytesP_byt _ _ _) k2.2 k3
    have := F.pos
    omega
  · rename_i bn d0 y1 k1 y2 k2 y3 k3 y4 k4 y5 k5 b5 d5 y6 k6 d6 d7 y7 k7
    have F := bk_of (bytesP_byt _ _ _) k2.2 k3
    have := F.g.1
    omega
  · rename_i bn d0 y1 k1 y2 k2 y3 k3 y4 k4 y5 k5 b5 d5 y6 k6 d6 d7 y7 k7
    have F := bk_of (bytesP_byt _ _ _) k2.2 k3
    have d7 := Int.ofNat_lt.1 (of_decide_eq_true d7)
    exact (bk_init F d7).1
  · rename_i bn d0 y1 k1 y2 k2 y3 k3 y4 k4 y5 k5 b5 d5 y6 k6 d6 d7 y7 k7 y8 k8
    have F := bk_of (bytesP_byt _ _ _) k2.2 k3
    have d7 := Int.ofNat_lt.1 (of_decide_eq_true d7)
    obtain ⟨v1, v2, v3, v4⟩ := bk_tail F d7
    exact absurd k7.1 (v3 _ _)
  · rename_i bn d0 y1 k1 y2 k2 y3 k3 y4 k4 y5 k5 b5 d5 y6 k6 d6 d7 y7 k7 y8 k8
    have F := bk_of (bytesP_byt _ _ _) k2.2 k3
    have d7 := Int.ofNat_lt.1 (of_decide_eq_true d7)
    obtain ⟨v1, v2, v3, v4⟩ := bk_tail F d7
    exact absurd k7.1 (v3 _ _)
  · rename_i bn d0 y1 k1 y2 k2 y3 k3 y4 k4 y5 k5 b5 d5 y6 k6 d6 d7 y7 k7 y8 k8
    have F := bk_of (bytesP_byt _ _ _) k2.2 k3
    have d7 := Int.ofNat_lt.1 (of_decide_eq_true d7)
    obtain ⟨v1, v2, v3, v4⟩ := bk_tail F d7
    exact absurd k7.1 (v3 _ _)
  · rename_i bn d0 y1 k1 y2 k2 u hu
    exact ⟨h3.1, by omega, by have := says_g d0; omega, h3.2.2, hb, by have := says_g d0; omega⟩
  · rename_i bn d0 y1 k1 y2 k2 u hu y5 k5 b5
    exact ⟨⟨Nat.le_refl _, Nat.le_refl _, fun _ => ⟨rfl, rfl⟩⟩, ⟨Nat.le_refl _, Nat.le_refl _, fun _ => ⟨rfl, rfl⟩⟩, Nat.zero_le _, Nat.zero_le _⟩
  · rename_i bn d0 y1 k1 y2 k2 u hu y5 k5 b5
    obtain ⟨q1, q2⟩ := says_lim k5.1 (by rw [List.length_take]; have := says_g d0; omega)
    rw [tk_len k5.2.1.2.1] at q1
    rw [tk_len k5.2.2.2.1] at q2
    exact ⟨k5.2.1, k5.2.2, q1, q2⟩
  · rename_i bn d0 y1 k1 y2 k2 u hu y5 k5 b5 y6 k6
    exact absurd (k5.1.1.symm.trans k6) (by decide)
  · rename_i bn d0 y1 k1 y2 k2 u hu y5 k5 b5 y6 k6
    have e := k6.2.2.2
    exact ⟨by show 0 + _ ≤ _; omega, by show 0 + n3 ≤ l3.length; have := h3.2.1; dsimp only at this; omega, fun h => Bool.noConfusion h, h3.2.2, (by show Bys (List.take _ (List.drop 0 _)); rw [List.drop_zero, k6.2.2.1]; exact bytesP_byt _ _ _), hb⟩
  · rename_i bn d0 y1 k1 y2 k2 u hu y5 k5 b5 y6 k6
    refine ieq_yes ?_
    rw [List.drop_zero, List.drop_zero, k6.2.2.1]
    exact k5.1.2.symm
end Go.Vx
set_option linter.unusedSectionVars false
set_option maxRecDepth 100000
set_option linter.unusedVariables false
set_option linter.unusedSimpArgs false
namespace Go.Vx
open Go Go.Proofs
variable [Gl]

theorem copy_ok (o : Bool) (b q : Nat) (l : List Int) (i n c : Nat) (h : i + n ≤ l.length) (hn : n ≤ 1000000) (ho : o = false → n = 0 ∧ c = 0) :
    Does (C := C0) Tryd.prog (.fn 26) [⟨b, q, 1, false, some o, .rows 5 l⟩] [.sl 0 i n c]
    [⟨Nat × Nat × List Int × Nat, fun y => Gr ((l.drop i).take n) y.2.2.1 n y.2.2.2, fun y => .sl 1 0 n y.2.2.2, fun y => [⟨b, q, 1, false, some o, .rows 5 l⟩, ⟨y.1, y.2.1, 1, true, none, .rows 5 y.2.2.1⟩]⟩] := by
  refine loc_fn (P := Tryd.prog) (E := ⟨[], [], 8, [], [], []⟩) (L := []) mix Tryd.func26 rfl (by kernel_rfl) (by kernel_rfl) rfl rfl ?_
  ((conv => (arg 1; reduce)); with_reducible repeat' (first | exact Tr.yes_h | refine Tr.and_h ?_ ?_ | refine Tr.imp_h fun _ => ?_ | refine Tr.all_h fun _ => ?_ | refine Tr.lf_h ?_))
  all_goals try (first | first | (show Region.lexB _ _ = true; kernel_rfl) | (show planned _ _ = true; kernel_rfl) | exact rfl | exact True.intro | ((try dsimp only [imp, C0, cG, cInt, cPl, cSlot, cPg, rwCodec, cRaw] at *); (try refine inR64 ?_ ?_) <;> (try simp only [List.length_set, List.length_append, List.length_take, List.length_drop]) <;> omega))
  · rw [by5]; omega
  · rw [by5]
    exact ⟨Nat.zero_le _, by rw [List.length_replicate]; omega, h, by show (0 + n) * 1 ≤ _; omega⟩
  · exact fun e => ⟨(ho e).1, (ho e).1⟩
  · rename_i b1 b2 q2 sp cap g1 g2
    have g1 : 0 + n ≤ cap := g1
    have g2 : cap ≤ 0 + n + sp.length := g2
    have hl : ((l.drop i).take n).length = n := rows_len h
    refine Ends.one (b2, q2, (l.drop i).take n ++ sp, cap) ⟨hl.symm, ?_, by show n ≤ cap; omega, by show cap ≤ List.length _; rw [List.length_append, hl]; omega⟩ ?_
    · show List.take n _ = _
      rw [List.take_append_of_le_length (by rw [hl]; exact Nat.le_refl _), List.take_of_length_le (by rw [hl]; exact Nat.le_refl _)]
    ((conv => (arg 1; reduce)); with_reducible repeat' (first | exact Tr.yes_h | refine Tr.and_h ?_ ?_ | refine Tr.imp_h fun _ => ?_ | refine Tr.all_h fun _ => ?_ | refine Tr.lf_h ?_))
    all_goals try (first | first | (show Region.lexB _ _ = true; kernel_rfl) | (show planned _ _ = true; kernel_rfl) | exact rfl | exact True.intro | ((try dsimp only [imp, C0, cG, cInt, cPl, cSlot, cPg, rwCodec, cRaw] at *); (try refine inR64 ?_ ?_) <;> (try simp only [List.length_set, List.length_append, List.length_take, List.length_drop]) <;> omega))
    all_goals exact Nat.zero_add _
def fcCopy : Fc Tryd.prog C0 where
  tg := .fn 26
  X := Bool × Nat × Nat × List Int × Nat × Nat × Nat
  args := fun (o, b, q, l, i, n, c) => [.sl 0 i n c]
  mem := fun (o, b, q, l, i, n, c) => [⟨b, q, 1, false, some o, .rows 5 l⟩]
  pre := fun (o, b, q, l, i, n, c) => i + n ≤ l.length ∧ n ≤ 1000000 ∧ (o = false → n = 0 ∧ c = 0)
  alts := fun (o, b, q, l, i, n, c) => [⟨Nat × Nat × List Int × Nat, fun y => Gr ((l.drop i).take n) y.2.2.1 n y.2.2.2, fun y => .sl 1 0 n y.2.2.2, fun y => [⟨b, q, 1, false, some o, .rows 5 l⟩, ⟨y.1, y.2.1, 1, true, none, .rows 5 y.2.2.1⟩]⟩]
  mat vs m := match vs with
    | [.sl a i n c] => match nth m a with
      | ⟨b, q, _, _, g, .rows 5 l⟩ => some ((onOf g, b, q, l, i, n, c), [a])
      | _ => none
    | _ => none
  ok := fun (o, b, q, l, i, n, c) h => copy_ok o b q l i n c h.1 h.2.1 h.2.2
/-- A turned byte is another one. -/
theorem xor_u8 {x b : Int} (hx : 0 ≤ x ∧ x < 256) (hb : 0 ≤ b ∧ b < 256) (h0 : b ≠ 0) : ibit .xor .u8 x b ≠ x ∧ 0 ≤ ibit .xor .u8 x b ∧ ibit .xor .u8 x b < 256 := by
  obtain ⟨x, rfl⟩ := Int.eq_ofNat_of_zero_le hx.1
  obtain ⟨b, rfl⟩ := Int.eq_ofNat_of_zero_le hb.1
  have hx : x < 256 := by omega
  have hb : b < 256 := by omega
  have e : ibit .xor .u8 (x : Int) (b : Int) = ((x ^^^ b : Nat) : Int) := by
    unfold ibit
    simp only [BitVec.toNat_xor]
    have e1 : (BitVec.ofInt IntKind.u8.bits (x : Int)).toNat = x := by
      show (BitVec.ofInt 8 (x : Int)).toNat = x
      rw [BitVec.ofInt_natCast, BitVec.toNat_ofNat]; omega
    have e2 : (BitVec.ofInt IntKind.u8.bits (b : Int)).toNat = b := by
      show (BitVec.ofInt 8 (b : Int)).toNat = b
      rw [BitVec.ofInt_natCast, BitVec.toNat_ofNat]; omega
    rw [e1, e2]
    have : x ^^^ b < 256 := Nat.xor_lt_two_pow (n := 8) hx hb
    show IntKind.u8.wrap ((x ^^^ b : Nat) : Int) = _
    unfold IntKind.wrap
    simp [IntKind.bits, IntKind.signed]
    omega
  rw [e]
  refine ⟨fun h => h0 ?_, by omega, ?_⟩
  · have h : x ^^^ b = x := by omega
    have : x ^^^ (x ^^^ b) = x ^^^ x := by rw [h]
    rw [← Nat.xor_assoc, Nat.xor_self, Nat.zero_xor] at this
    omega
  · have : x ^^^ b < 256 := Nat.xor_lt_two_pow (n := 8) hx hb
    omega
/-- Where in a list of n. -/
theorem at_in {a n : Int} (h : 0 < n) : (0 ≤ (a.tmod n + n).tmod n ∧ (a.tmod n + n).tmod n < n) ∧ 0 ≤ a.tmod n + n ∧ a.tmod n + n < 2 * n := by
  have h1 : -n < a.tmod n := by
    have := Int.lt_tmod_of_pos a h
    exact this
  have h2 : a.tmod n < n := Int.tmod_lt_of_pos a h
  refine ⟨?_, by omega, by omega⟩
  rw [Int.tmod_eq_emod_of_nonneg (by omega)]
  exact ⟨Int.emod_nonneg _ (by omega), Int.emod_lt_of_pos _ h⟩
theorem lsts_inj : ∀ {A B : List Pl}, A.map lst = B.map lst → A = B
  | [], [], _ => rfl
  | [], _ :: _, h => by cases h
  | _ :: _, [], h => by cases h
  | a :: A, b :: B, h => by
    rw [List.map_cons, List.map_cons, List.cons.injEq] at h
    rw [lst_inj a b h.1, lsts_inj h.2]
theorem unl_f {l : List (Rw Int)} {n n2 : Nat} {o : Bool} {b q c : Nat} (h1 : Sq.ok (o, b, q, l, n, c)) (hr : ∀ r ∈ l.take n, Rok r) {l' : List (Rw Int)} {n' n2' : Nat} {o' : Bool} {b' q' c' : Nat} (h1' : Sq.ok (o', b', q', l', n', c')) (hr' : ∀ r ∈ l'.take n', Rok r)
    (d : (!fr (l.take n) n2 || !fr (l'.take n') n2') = false) : (n ≤ 70 ∧ n2 ≤ 100 ∧ ∀ r ∈ l.take n, Rok r ∧ r.l.length = 2) ∧ (n' ≤ 70 ∧ n2' ≤ 100 ∧ ∀ r ∈ l'.take n', Rok r ∧ r.l.length = 2) := by
  simp only [Bool.or_eq_false_iff, Bool.not_eq_false'] at d
  obtain ⟨e1, e2, e3⟩ := fr_iff.1 d.1
  obtain ⟨g1, g2, g3⟩ := fr_iff.1 d.2
  rw [tk_len h1.2.1] at e1
  rw [tk_len h1'.2.1] at g1
  exact ⟨⟨e1, e2, fun r hm => ⟨hr r hm, e3 r hm⟩⟩, ⟨g1, g2, fun r hm => ⟨hr' r hm, g3 r hm⟩⟩⟩
theorem unl_eq {h h' : Hd} {X Y : List (Rw Int)} {B B' : List Slot} (hX : ∀ r ∈ X, r.l.length = 2) (hY : ∀ r ∈ Y, r.l.length = 2) (k : okP h (X.map blkOf) B = true) (k' : okP h' (Y.map blkOf) B' = true) (a1 : X.length ≤ 70) (a2 : B.length ≤ 100) (a3 : Y.length ≤ 70) (a4 : B'.length ≤ 100) :
    smP h h' X Y B B' = ieq (bytesP h (X.map blkOf) B) (bytesP h' (Y.map blkOf) B') := by
  rw [Bool.eq_iff_iff, smP_iff, ieq_iff, ← blk_lsts hX, ← blk_lsts hY]
  constructor
  · rintro ⟨rfl, e, rfl⟩
    rw [lsts_inj e]
  · intro e
    obtain ⟨e1, e2, e3⟩ := bytesP_inj k k' (by rw [List.length_map]; omega) (by omega) (by rw [List.length_map]; omega) (by omega) e
    exact ⟨e1, by rw [e2], e3⟩
theorem unl_ne {n : Nat} (h : 28 ≤ n) : (n : Int) ≠ 0 := by omega
theorem unl_in {x : Int} {n : Nat} (h : 0 ≤ x ∧ x < 2 * (n : Int)) (hn : n ≤ 8000) : inR .i64 x := inR64 (by omega) (by omega)
theorem unl_ix {x : Int} {n c L : Nat} (h : 0 ≤ x ∧ x < (n : Int)) (h1 : n ≤ c) (h2 : c ≤ L) : x.toNat + 0 < n ∧ x.toNat + 0 < L := by omega
theorem unl_byt {P z : List Int} (hP : Bys P) (hz : z.take P.length = P) {i : Nat} (hi : i < P.length) : 0 ≤ z.getD i 0 ∧ z.getD i 0 < 256 := by
  have : z.getD i 0 = P.getD i 0 := by rw [← hz, tk_at hi]
  rw [this, List.getD_eq_getElem?_getD, List.getElem?_eq_getElem hi]
  exact hP _ (List.getElem_mem _)
theorem unl_set {P z : List Int} (hP : Bys P) (hz : z.take P.length = P) {i : Nat} (hi : i < P.length) {v : Int} (hv : 0 ≤ v ∧ v < 256) : Bys ((z.set i v).take P.length) := by
  rw [List.take_set, hz]
  intro x hx
  rcases List.mem_or_eq_of_mem_set hx with hx | rfl
  · exact hP x hx
  · exact hv
theorem unl_turn {P z : List Int} (hz : z.take P.length = P) {i : Nat} (hi : i < P.length) {v : Int} (hv : v ≠ z.getD i 0) : (z.set i v).take P.length ≠ P := by
  rw [List.take_set, hz]
  intro h
  have e := congrArg (fun L => L[i]?) h
  simp only [List.getElem?_set_self hi] at e
  have : z.getD i 0 = P.getD i 0 := by rw [← hz, tk_at hi]
  rw [this, List.getD_eq_getElem?_getD, ← e] at hv
  exact hv rfl
theorem unl_no {P z : List Int} {h h' : Hd} {A5 : List Pl} {B5 : List Slot} {X Y : List (Rw Int)} {Z B : List Slot} (hp : z = bytesP h' A5 B5) (hP : P = bytesP h (Y.map blkOf) B) (hX : X.map (·.l) = A5.map lst) (hZ : Z = B5) (hY : ∀ r ∈ Y, r.l.length = 2) (hne : z ≠ P) :
    smP h' h X Y Z B = false := by
  cases hs : smP h' h X Y Z B with
  | false => rfl
  | true =>
    obtain ⟨e1, e2, e3⟩ := smP_iff.1 hs
    refine absurd ?_ hne
    rw [hX, ← blk_lsts hY] at e2
    rw [hp, hP, e1, lsts_inj e2, ← hZ, e3]
set_option maxHeartbeats 8000000 in
theorem unlike_ok (h : Hd) (o : Bool) (b q : Nat) (l : List (Rw Int)) (n c : Nat) (o2 : Bool) (b2 q2 : Nat) (l2 : List Slot) (n2 c2 : Nat) (h' : Hd) (o' : Bool) (b' q' : Nat) (l' : List (Rw Int)) (n' c' : Nat) (o2' : Bool) (b2' q2' : Nat) (l2' : List Slot) (n2' c2' : Nat) (at' by' : Int)
    (h1 : Sq.ok (o, b, q, l, n, c)) (h2 : Sq.ok (o2, b2, q2, l2, n2, c2)) (hr : ∀ r ∈ l.take n, Rok r) (h1' : Sq.ok (o', b', q', l', n', c')) (h2' : Sq.ok (o2', b2', q2', l2', n2', c2')) (hr' : ∀ r ∈ l'.take n', Rok r) (hby : 0 ≤ by' ∧ by' < 256) :
    Tells (C := C0) Tryd.prog (.fn 6) [⟨b, q, 1, false, some o, .rows 71 l⟩, ⟨b2, q2, 9, false, some o2, .rows 74 l2⟩, ⟨b', q', 1, false, some o', .rows 71 l'⟩, ⟨b2', q2', 9, false, some o2', .rows 74 l2'⟩] [ptv h (.sl 0 0 n c) (.sl 1 0 n2 c2), ptv h' (.sl 2 0 n' c') (.sl 3 0 n2' c2'), .int .i64 at', .int .u8 by'] (.bool .t) := by
  refine loc_pc (P := Tryd.prog) (E := ⟨[fcMade, fcBytes, fcCopy, fcOpen, fcBack], [pcFirst, pcFair, pcSb, pcSame], 93, [(16, [1000004, 1000015], [.p 0, .p 1, .p 2, .p 3, .p 5, .e 4, .e 6, .p 7, .p 8, .p 9])], [], []⟩) (L := []) mix Tryd.func6 rfl (by kernel_rfl) (by kernel_rfl) rfl rfl ?_
  ((conv => (arg 1; reduce)); with_reducible repeat' (first | exact Tr.yes_h | refine Tr.and_h ?_ ?_ | refine Tr.imp_h fun _ => ?_ | refine Tr.all_h fun _ => ?_ | refine Tr.lf_h ?_))
  all_goals try (first | first | (show Region.lexB _ _ = true; kernel_rfl) | (show planned _ _ = true; kernel_rfl) | exact rfl | exact True.intro | ((try dsimp only [imp, C0, cG, cInt, cPl, cSlot, cPg, rwCodec, cRaw] at *); (try refine inR64 ?_ ?_) <;> (try simp only [List.length_set, List.length_append, List.length_take, List.length_drop]) <;> omega))
  · rename_i bn bm
    exact ⟨h1.2.1, h1.2.2⟩
  · rename_i bn bm d0
    exact ⟨h1'.2.1, h1'.2.2⟩
  · rename_i bn bm d0
    obtain ⟨⟨f1, f2, f3⟩, ⟨g1, g2, g3⟩⟩ := unl_f h1 hr h1' hr' d0
    exact ⟨h1, h2, f3, f1, f2⟩
  · rename_i bn bm d0 y1 k1
    obtain ⟨⟨f1, f2, f3⟩, ⟨g1, g2, g3⟩⟩ := unl_f h1 hr h1' hr' d0
    exact ⟨grw_sq k1.1, grw_sq k1.2, Nat.le_trans f1 (by decide), Nat.le_trans f2 (by decide)⟩
  · rename_i bn bm d0 y1 k1 y2 k2
    obtain ⟨⟨f1, f2, f3⟩, ⟨g1, g2, g3⟩⟩ := unl_f h1 hr h1' hr' d0
    exact ⟨h1', h2', g3, g1, g2⟩
  · rename_i bn bm d0 y1 k1 y2 k2 y3 k3
    obtain ⟨⟨f1, f2, f3⟩, ⟨g1, g2, g3⟩⟩ := unl_f h1 hr h1' hr' d0
    exact ⟨grw_sq k3.1, grw_sq k3.2, Nat.le_trans g1 (by decide), Nat.le_trans g2 (by decide)⟩
  · rename_i bn bm d0 y1 k1 y2 k2
    obtain ⟨⟨f1, f2, f3⟩, ⟨g1, g2, g3⟩⟩ := unl_f h1 hr h1' hr' d0
    exact ⟨h1', h2', g3, g1, g2⟩
  · rename_i bn bm d0 y1 k1 y2 k2 y3 k3
    obtain ⟨⟨f1, f2, f3⟩, ⟨g1, g2, g3⟩⟩ := unl_f h1 hr h1' hr' d0
    exact ⟨grw_sq k3.1, grw_sq k3.2, Nat.le_trans g1 (by decide), Nat.le_trans g2 (by decide)⟩
  · rename_i bn bm d0 y1 k1 y2 k2 y3 k3 y4 k4
    obtain ⟨⟨f1, f2, f3⟩, ⟨g1, g2, g3⟩⟩ := unl_f h1 hr h1' hr' d0
    exact ⟨h1, h2, h1', h2', hr, hr', Nat.lt_of_le_of_lt f1 (by decide), Nat.lt_of_le_of_lt f2 (by decide)⟩
  · rename_i bn bm d0 y1 k1 y2 k2 y3 k3 y4 k4
    have e := k2.2.2.2
    have e' := k4.2.2.2
    exact ⟨by show 0 + _ ≤ _; omega, by show 0 + _ ≤ _; omega, fun h => Bool.noConfusion h, fun h => Bool.noConfusion h, (by show Bys (List.take _ (List.drop 0 _)); rw [List.drop_zero, k2.2.2.1]; exact bytesP_byt _ _ _), (by show Bys (List.take _ (List.drop 0 _)); rw [List.drop_zero, k4.2.2.1]; exact bytesP_byt _ _ _)⟩
  · rename_i bn bm d0 y1 k1 y2 k2 y3 k3 y4 k4 d1
    obtain ⟨⟨f1, f2, f3⟩, ⟨g1, g2, g3⟩⟩ := unl_f h1 hr h1' hr' d0
    have e := unl_eq (h := h) (h' := h') (X := l.take n) (Y := l'.take n') (B := l2.take n2) (B' := l2'.take n2') (fun r hr => (f3 r hr).2) (fun r hr => (g3 r hr).2) (by rw [← k1.1.2.1, ← k1.2.2.1]; exact k2.1) (by rw [← k3.1.2.1, ← k3.2.2.1]; exact k4.1) (by rw [tk_len h1.2.1]; exact f1) (by rw [tk_len h2.2.1]; exact f2) (by rw [tk_len h1'.2.1]; exact g1) (by rw [tk_len h2'.2.1]; exact g2)
    have d1 : (!(smP h h' (l.take n) (l'.take n') (l2.take n2) (l2'.take n2') == ieq (List.take (bytesP h (y1.1.2.2.2.2.1.take n) (y1.2.2.2.2.2.1.take n2)).length (List.drop 0 y2.2.2.1)) (List.take (bytesP h' (y3.1.2.2.2.2.1.take n') (y3.2.2.2.2.2.1.take n2')).length (List.drop 0 y4.2.2.1)))) = true := d1
    rw [List.drop_zero, List.drop_zero, k2.2.2.1, k4.2.2.1, k1.1.2.1, k1.2.2.1, k3.1.2.1, k3.2.2.1, e] at d1
    simp at d1
  · rename_i bn bm d0 y1 k1 y2 k2 y3 k3 y4 k4 d1
    obtain ⟨⟨f1, f2, f3⟩, ⟨g1, g2, g3⟩⟩ := unl_f h1 hr h1' hr' d0
    have lp : 28 ≤ (bytesP h (y1.1.2.2.2.2.1.take n) (y1.2.2.2.2.2.1.take n2)).length ∧ (bytesP h (y1.1.2.2.2.2.1.take n) (y1.2.2.2.2.2.1.take n2)).length ≤ 8000 := by
      rw [bytesP_len, k1.1.2.1, k1.2.2.1, List.length_map, tk_len h1.2.1, tk_len h2.2.1]; dsimp only; omega
    exact unl_ne lp.1
  · rename_i bn bm d0 y1 k1 y2 k2 y3 k3 y4 k4 d1
    obtain ⟨⟨f1, f2, f3⟩, ⟨g1, g2, g3⟩⟩ := unl_f h1 hr h1' hr' d0
    have lp : 28 ≤ (bytesP h (y1.1.2.2.2.2.1.take n) (y1.2.2.2.2.2.1.take n2)).length ∧ (bytesP h (y1.1.2.2.2.2.1.take n) (y1.2.2.2.2.2.1.take n2)).length ≤ 8000 := by
      rw [bytesP_len, k1.1.2.1, k1.2.2.1, List.length_map, tk_len h1.2.1, tk_len h2.2.1]; dsimp only; omega
    have A := at_in (a := at') (n := ((bytesP h (y1.1.2.2.2.2.1.take n) (y1.2.2.2.2.2.1.take n2)).length : Int)) (by omega)
    exact unl_in A.2 lp.2
  · rename_i bn bm d0 y1 k1 y2 k2 y3 k3 y4 k4 d1
    obtain ⟨⟨f1, f2, f3⟩, ⟨g1, g2, g3⟩⟩ := unl_f h1 hr h1' hr' d0
    have lp : 28 ≤ (bytesP h (y1.1.2.2.2.2.1.take n) (y1.2.2.2.2.2.1.take n2)).length ∧ (bytesP h (y1.1.2.2.2.2.1.take n) (y1.2.2.2.2.2.1.take n2)).length ≤ 8000 := by
      rw [bytesP_len, k1.1.2.1, k1.2.2.1, List.length_map, tk_len h1.2.1, tk_len h2.2.1]; dsimp only; omega
    exact unl_ne lp.1
  · rename_i bn bm d0 y1 k1 y2 k2 y3 k3 y4 k4 d1 d2
    obtain ⟨⟨f1, f2, f3⟩, ⟨g1, g2, g3⟩⟩ := unl_f h1 hr h1' hr' d0
    have lp : 28 ≤ (bytesP h (y1.1.2.2.2.2.1.take n) (y1.2.2.2.2.2.1.take n2)).length ∧ (bytesP h (y1.1.2.2.2.2.1.take n) (y1.2.2.2.2.2.1.take n2)).length ≤ 8000 := by
      rw [bytesP_len, k1.1.2.1, k1.2.2.1, List.length_map, tk_len h1.2.1, tk_len h2.2.1]; dsimp only; omega
    have e := k2.2.2.2
    exact ⟨by show 0 + _ ≤ _; omega, Nat.le_trans lp.2 (by decide), fun h => Bool.noConfusion h⟩
  · rename_i bn bm d0 y1 k1 y2 k2 y3 k3 y4 k4 d1 d2 z kz
    obtain ⟨⟨f1, f2, f3⟩, ⟨g1, g2, g3⟩⟩ := unl_f h1 hr h1' hr' d0
    have lp : 28 ≤ (bytesP h (y1.1.2.2.2.2.1.take n) (y1.2.2.2.2.2.1.take n2)).length ∧ (bytesP h (y1.1.2.2.2.2.1.take n) (y1.2.2.2.2.2.1.take n2)).length ≤ 8000 := by
      rw [bytesP_len, k1.1.2.1, k1.2.2.1, List.length_map, tk_len h1.2.1, tk_len h2.2.1]; dsimp only; omega
    have A := at_in (a := at') (n := ((bytesP h (y1.1.2.2.2.2.1.take n) (y1.2.2.2.2.2.1.take n2)).length : Int)) (by omega)
    exact A.1.1
  · rename_i bn bm d0 y1 k1 y2 k2 y3 k3 y4 k4 d1 d2 z kz
    obtain ⟨⟨f1, f2, f3⟩, ⟨g1, g2, g3⟩⟩ := unl_f h1 hr h1' hr' d0
    have lp : 28 ≤ (bytesP h (y1.1.2.2.2.2.1.take n) (y1.2.2.2.2.2.1.take n2)).length ∧ (bytesP h (y1.1.2.2.2.2.1.take n) (y1.2.2.2.2.2.1.take n2)).length ≤ 8000 := by
      rw [bytesP_len, k1.1.2.1, k1.2.2.1, List.length_map, tk_len h1.2.1, tk_len h2.2.1]; dsimp only; omega
    have A := at_in (a := at') (n := ((bytesP h (y1.1.2.2.2.2.1.take n) (y1.2.2.2.2.2.1.take n2)).length : Int)) (by omega)
    exact A.1.2
  · rename_i bn bm d0 y1 k1 y2 k2 y3 k3 y4 k4 d1 d2 z kz
    obtain ⟨⟨f1, f2, f3⟩, ⟨g1, g2, g3⟩⟩ := unl_f h1 hr h1' hr' d0
    have lp : 28 ≤ (bytesP h (y1.1.2.2.2.2.1.take n) (y1.2.2.2.2.2.1.take n2)).length ∧ (bytesP h (y1.1.2.2.2.2.1.take n) (y1.2.2.2.2.2.1.take n2)).length ≤ 8000 := by
      rw [bytesP_len, k1.1.2.1, k1.2.2.1, List.length_map, tk_len h1.2.1, tk_len h2.2.1]; dsimp only; omega
    have A := at_in (a := at') (n := ((bytesP h (y1.1.2.2.2.2.1.take n) (y1.2.2.2.2.2.1.take n2)).length : Int)) (by omega)
    have X := unl_ix A.1 kz.2.2.1 kz.2.2.2
    exact X.2
  · rename_i bn bm d0 y1 k1 y2 k2 y3 k3 y4 k4 d1 d2 z kz
    obtain ⟨⟨f1, f2, f3⟩, ⟨g1, g2, g3⟩⟩ := unl_f h1 hr h1' hr' d0
    have lp : 28 ≤ (bytesP h (y1.1.2.2.2.2.1.take n) (y1.2.2.2.2.2.1.take n2)).length ∧ (bytesP h (y1.1.2.2.2.2.1.take n) (y1.2.2.2.2.2.1.take n2)).length ≤ 8000 := by
      rw [bytesP_len, k1.1.2.1, k1.2.2.1, List.length_map, tk_len h1.2.1, tk_len h2.2.1]; dsimp only; omega
    have A := at_in (a := at') (n := ((bytesP h (y1.1.2.2.2.2.1.take n) (y1.2.2.2.2.2.1.take n2)).length : Int)) (by omega)
    exact A.1.1
  · rename_i bn bm d0 y1 k1 y2 k2 y3 k3 y4 k4 d1 d2 z kz
    obtain ⟨⟨f1, f2, f3⟩, ⟨g1, g2, g3⟩⟩ := unl_f h1 hr h1' hr' d0
    have lp : 28 ≤ (bytesP h (y1.1.2.2.2.2.1.take n) (y1.2.2.2.2.2.1.take n2)).length ∧ (bytesP h (y1.1.2.2.2.2.1.take n) (y1.2.2.2.2.2.1.take n2)).length ≤ 8000 := by
      rw [bytesP_len, k1.1.2.1, k1.2.2.1, List.length_map, tk_len h1.2.1, tk_len h2.2.1]; dsimp only; omega
    have A := at_in (a := at') (n := ((bytesP h (y1.1.2.2.2.2.1.take n) (y1.2.2.2.2.2.1.take n2)).length : Int)) (by omega)
    exact A.1.2
  · rename_i bn bm d0 y1 k1 y2 k2 y3 k3 y4 k4 d1 d2 z kz
    obtain ⟨⟨f1, f2, f3⟩, ⟨g1, g2, g3⟩⟩ := unl_f h1 hr h1' hr' d0
    have lp : 28 ≤ (bytesP h (y1.1.2.2.2.2.1.take n) (y1.2.2.2.2.2.1.take n2)).length ∧ (bytesP h (y1.1.2.2.2.2.1.take n) (y1.2.2.2.2.2.1.take n2)).length ≤ 8000 := by
      rw [bytesP_len, k1.1.2.1, k1.2.2.1, List.length_map, tk_len h1.2.1, tk_len h2.2.1]; dsimp only; omega
    have A := at_in (a := at') (n := ((bytesP h (y1.1.2.2.2.2.1.take n) (y1.2.2.2.2.2.1.take n2)).length : Int)) (by omega)
    have X := unl_ix A.1 kz.2.2.1 kz.2.2.2
    exact X.2
  · rename_i bn bm d0 y1 k1 y2 k2 y3 k3 y4 k4 d1 d2 z kz
    obtain ⟨⟨f1, f2, f3⟩, ⟨g1, g2, g3⟩⟩ := unl_f h1 hr h1' hr' d0
    have lp : 28 ≤ (bytesP h (y1.1.2.2.2.2.1.take n) (y1.2.2.2.2.2.1.take n2)).length ∧ (bytesP h (y1.1.2.2.2.2.1.take n) (y1.2.2.2.2.2.1.take n2)).length ≤ 8000 := by
      rw [bytesP_len, k1.1.2.1, k1.2.2.1, List.length_map, tk_len h1.2.1, tk_len h2.2.1]; dsimp only; omega
    have A := at_in (a := at') (n := ((bytesP h (y1.1.2.2.2.2.1.take n) (y1.2.2.2.2.2.1.take n2)).length : Int)) (by omega)
    have X := unl_ix A.1 kz.2.2.1 kz.2.2.2
    have zt : z.2.2.1.take (bytesP h (y1.1.2.2.2.2.1.take n) (y1.2.2.2.2.2.1.take n2)).length = bytesP h (y1.1.2.2.2.2.1.take n) (y1.2.2.2.2.2.1.take n2) := by
      have := kz.2.1
      rw [List.drop_zero, k2.2.2.1] at this
      exact this
    have hz := unl_byt (P := bytesP h (y1.1.2.2.2.2.1.take n) (y1.2.2.2.2.2.1.take n2)) (bytesP_byt _ _ _) zt X.1
    have hx := xor_u8 hz hby (of_decide_eq_false d2)
    have hs := unl_set (bytesP_byt h (y1.1.2.2.2.2.1.take n) (y1.2.2.2.2.2.1.take n2)) zt X.1 hx.2
    exact ⟨kz.2.2.1, by rw [List.length_set, Nat.zero_add]; exact kz.2.2.2, Nat.lt_of_le_of_lt lp.2 (by decide), fun h => Bool.noConfusion h, by rw [List.drop_zero]; exact hs, Nat.le_trans lp.2 (by decide)⟩
  · rename_i bn bm d0 y1 k1 y2 k2 y3 k3 y4 k4 d1 d2 z kz y5 k5 b5
    obtain ⟨⟨f1, f2, f3⟩, ⟨g1, g2, g3⟩⟩ := unl_f h1 hr h1' hr' d0
    have lp : 28 ≤ (bytesP h (y1.1.2.2.2.2.1.take n) (y1.2.2.2.2.2.1.take n2)).length ∧ (bytesP h (y1.1.2.2.2.2.1.take n) (y1.2.2.2.2.2.1.take n2)).length ≤ 8000 := by
      rw [bytesP_len, k1.1.2.1, k1.2.2.1, List.length_map, tk_len h1.2.1, tk_len h2.2.1]; dsimp only; omega
    have A := at_in (a := at') (n := ((bytesP h (y1.1.2.2.2.2.1.take n) (y1.2.2.2.2.2.1.take n2)).length : Int)) (by omega)
    have X := unl_ix A.1 kz.2.2.1 kz.2.2.2
    have zt : z.2.2.1.take (bytesP h (y1.1.2.2.2.2.1.take n) (y1.2.2.2.2.2.1.take n2)).length = bytesP h (y1.1.2.2.2.2.1.take n) (y1.2.2.2.2.2.1.take n2) := by
      have := kz.2.1
      rw [List.drop_zero, k2.2.2.1] at this
      exact this
    have hz := unl_byt (P := bytesP h (y1.1.2.2.2.2.1.take n) (y1.2.2.2.2.2.1.take n2)) (bytesP_byt _ _ _) zt X.1
    have hx := xor_u8 hz hby (of_decide_eq_false d2)
    have hs := unl_set (bytesP_byt h (y1.1.2.2.2.2.1.take n) (y1.2.2.2.2.2.1.take n2)) zt X.1 hx.2
    obtain ⟨q1, q2⟩ := says_lim k5.1 (by rw [List.drop_zero, List.length_take]; exact Nat.le_trans (Nat.min_le_left _ _) lp.2)
    rw [tk_len k5.2.1.2.1] at q1
    rw [tk_len k5.2.2.2.1] at q2
    exact ⟨k5.2.1, k5.2.2, q1, q2⟩
  · rename_i bn bm d0 y1 k1 y2 k2 y3 k3 y4 k4 d1 d2 z kz y5 k5 b5 y6 k6
    obtain ⟨⟨f1, f2, f3⟩, ⟨g1, g2, g3⟩⟩ := unl_f h1 hr h1' hr' d0
    have lp : 28 ≤ (bytesP h (y1.1.2.2.2.2.1.take n) (y1.2.2.2.2.2.1.take n2)).length ∧ (bytesP h (y1.1.2.2.2.2.1.take n) (y1.2.2.2.2.2.1.take n2)).length ≤ 8000 := by
      rw [bytesP_len, k1.1.2.1, k1.2.2.1, List.length_map, tk_len h1.2.1, tk_len h2.2.1]; dsimp only; omega
    have A := at_in (a := at') (n := ((bytesP h (y1.1.2.2.2.2.1.take n) (y1.2.2.2.2.2.1.take n2)).length : Int)) (by omega)
    have X := unl_ix A.1 kz.2.2.1 kz.2.2.2
    have zt : z.2.2.1.take (bytesP h (y1.1.2.2.2.2.1.take n) (y1.2.2.2.2.2.1.take n2)).length = bytesP h (y1.1.2.2.2.2.1.take n) (y1.2.2.2.2.2.1.take n2) := by
      have := kz.2.1
      rw [List.drop_zero, k2.2.2.1] at this
      exact this
    have hz := unl_byt (P := bytesP h (y1.1.2.2.2.2.1.take n) (y1.2.2.2.2.2.1.take n2)) (bytesP_byt _ _ _) zt X.1
    have hx := xor_u8 hz hby (of_decide_eq_false d2)
    have hs := unl_set (bytesP_byt h (y1.1.2.2.2.2.1.take n) (y1.2.2.2.2.2.1.take n2)) zt X.1 hx.2
    obtain ⟨q1, q2⟩ := says_lim k5.1 (by rw [List.drop_zero, List.length_take]; exact Nat.le_trans (Nat.min_le_left _ _) lp.2)
    rw [tk_len k5.2.1.2.1] at q1
    rw [tk_len k5.2.2.2.1] at q2
    exact ⟨grw_sq k6.1.1, grw_sq k6.2, h1, h2, k6.1.2.2, hr, Nat.lt_of_le_of_lt q1 (by decide), Nat.lt_of_le_of_lt q2 (by decide)⟩
  · rename_i bn bm d0 y1 k1 y2 k2 y3 k3 y4 k4 d1 d2 z kz y5 k5 b5 y6 k6
    obtain ⟨⟨f1, f2, f3⟩, ⟨g1, g2, g3⟩⟩ := unl_f h1 hr h1' hr' d0
    have lp : 28 ≤ (bytesP h (y1.1.2.2.2.2.1.take n) (y1.2.2.2.2.2.1.take n2)).length ∧ (bytesP h (y1.1.2.2.2.2.1.take n) (y1.2.2.2.2.2.1.take n2)).length ≤ 8000 := by
      rw [bytesP_len, k1.1.2.1, k1.2.2.1, List.length_map, tk_len h1.2.1, tk_len h2.2.1]; dsimp only; omega
    have A := at_in (a := at') (n := ((bytesP h (y1.1.2.2.2.2.1.take n) (y1.2.2.2.2.2.1.take n2)).length : Int)) (by omega)
    have X := unl_ix A.1 kz.2.2.1 kz.2.2.2
    have zt : z.2.2.1.take (bytesP h (y1.1.2.2.2.2.1.take n) (y1.2.2.2.2.2.1.take n2)).length = bytesP h (y1.1.2.2.2.2.1.take n) (y1.2.2.2.2.2.1.take n2) := by
      have := kz.2.1
      rw [List.drop_zero, k2.2.2.1] at this
      exact this
    have hz := unl_byt (P := bytesP h (y1.1.2.2.2.2.1.take n) (y1.2.2.2.2.2.1.take n2)) (bytesP_byt _ _ _) zt X.1
    have hx := xor_u8 hz hby (of_decide_eq_false d2)
    have hs := unl_set (bytesP_byt h (y1.1.2.2.2.2.1.take n) (y1.2.2.2.2.2.1.take n2)) zt X.1 hx.2
    refine (congrArg not (unl_no (P := bytesP h (y1.1.2.2.2.2.1.take n) (y1.2.2.2.2.2.1.take n2)) k5.1.2 ?_ k6.1.2.1 k6.2.2.1 (fun r hr => (f3 r hr).2) ?_)).trans rfl
    · rw [k1.1.2.1, k1.2.2.1]
    · rw [List.drop_zero]
      exact unl_turn zt X.1 hx.1
end Go.Vx
set_option linter.unusedVariables false
set_option maxRecDepth 100000
set_option linter.unusedSimpArgs false
namespace Go.Vx
open Go Go.Proofs Go.ChangeShapes Go.WideShapes Go.Deep Go.RowKit Go.Proofs.YtmdnpfocihfkdaaDoor

theorem c3 : Tryd.prog.cellsOf 3 = 1 := by kernel_rfl
theorem c9 : Tryd.prog.cellsOf 9 = 1 := by kernel_rfl
theorem c66 : Tryd.prog.cellsOf 66 = 2 := by kernel_rfl
theorem c68 : Tryd.prog.cellsOf 68 = 6 := by kernel_rfl
theorem c74 : Tryd.prog.cellsOf 74 = 9 := by kernel_rfl
theorem c212 : Tryd.prog.cellsOf 212 = 1 := by kernel_rfl
/-! The errors. -/
theorem star : "*" ++ "errors.errorString" = "*errors.errorString" := by decide
theorem row195 (u : TypeId) (h : Tryd.prog.typeName? 3 u = some "*errors.errorString") : u = 195 :=
  typeName_ptr_named (nm := "errors.errorString") (by rw [star]; kernel_rfl) (by kernel_rfl) (by decide) u (by rw [star]; exact h)
/-- The errors of a list lie there, no two at one place. -/
theorem gl_of {W : World} {L : List (String × DataW Unit)} {G0 : List Nat} {N : Nat} (pos : Nat → Nat) (hp : ∀ g, g < N → pos g < G0.length ∧ G0.getD (pos g) 0 = g) (hL : SentL Tryd.prog "*errors.errorString" 30 L G0) (h : laidMet Tryd.prog L W) :
    ∃ G : Gl, @Gl.lv G = N ∧ (∀ i j, i < N → j < N → @Gl.A G i = @Gl.A G j → i = j) ∧ ∀ g, g < N →
    W.cell? ⟨g, 0, none⟩ = some (.iface 195 (.pointer (some (@Gl.A G g)))) ∧ W.heap[(@Gl.A G g).block]? = some (.cells (@Gl.c G g) (@Gl.t G g) (0, 0)) := by
  obtain ⟨ps, hv, hnd, hrows⟩ := h
  obtain ⟨az, hs, _⟩ := laid_all Tryd.underlying30 row195 Tryd.underlying195 Tryd.underlying212 rfl rfl Tryd.underlying9 c212 c9 _ _ _ hL hv hnd hrows
  have hex : ∀ g, ∃ p : Array Value × TypeId, g < N → W.heap[(az.getD (pos g) default).block]? = some (.cells p.1 p.2 (0, 0)) := by
    intro g
    by_cases hg : g < N
    · obtain ⟨_, c, t, h2⟩ := hs.get (pos g) (hp g hg).1
      exact ⟨(c, t), fun _ => h2⟩
    · exact ⟨(#[], 0), fun h => absurd h hg⟩
  refine ⟨⟨fun g => az.getD (pos g) default, fun g => (Classical.choose (hex g)).1, fun g => (Classical.choose (hex g)).2, N⟩, rfl, ?_, ?_⟩
  · intro i j hi hj he
    have := hs.one (hp i hi).1 (hp j hj).1 he
    rw [← (hp i hi).2, ← (hp j hj).2, this]
  · intro g hg
    obtain ⟨h1, _⟩ := hs.get (pos g) (hp g hg).1
    rw [(hp g hg).2] at h1
    exact ⟨h1, Classical.choose_spec (hex g) hg⟩
theorem gv_is [Gl] (g : Nat) : (C0 g).gv = glV g := by unfold C0; split <;> rfl
theorem gp_is [Gl] (g : Nat) : (C0 g).gpins = glP g := by unfold C0; split <;> rfl
theorem glB_lt [Gl] {g : Nat} {n : Nat} (h3 : 3 ≤ n) (hn : Gl.lv ≤ n) (h : glB g = true) : g < n := by
  unfold glB at h
  split at h
  · rename_i hb; have : g < 3 := by simpa using hb
    omega
  · have : g < Gl.lv := by simpa using h
    omega
theorem more_of [Gl] {W : World} {n : Nat} (h3 : 3 ≤ n) (hn : Gl.lv ≤ n) (h : ∀ g, g < n → W.cell? ⟨g, 0, none⟩ = some (.iface 195 (.pointer (some (Gl.A g)))) ∧ W.heap[(Gl.A g).block]? = some (.cells (Gl.c g) (Gl.t g) (0, 0)))
    {mem : List (Ck C0)} (hnw : noWr mem = true) (hd : ∀ c ∈ mem, ∀ t l, c.cells = .rows t l → ∀ x ∈ l, (C0 t).good W x ∧ ∀ b ∈ (C0 t).blks x, b < W.heap.size) : More (wrS mem) W W mem where
  gv g v hv := by
    rw [gv_is] at hv
    unfold glV at hv
    split at hv
    · rename_i hb
      have hg := glB_lt h3 hn hb
      simp only [Option.some.injEq] at hv
      subst hv
      obtain ⟨h1, _⟩ := h g hg
      refine ⟨h1, ?_, ?_⟩
      · rcases Nat.lt_or_ge g W.heap.size with h' | h'
        · exact h'
        · simp [World.cell?, Array.getElem?_eq_none h'] at h1
      · rintro ⟨c, hc, hw, _⟩
        rw [noWr_ok hnw c hc] at hw; cases hw
    · cases hv
  gp g p hp := by
    rw [gp_is] at hp
    unfold glP at hp
    split at hp
    · rename_i hb
      have hg := glB_lt h3 hn hb
      rw [List.mem_singleton] at hp
      subst hp
      obtain ⟨_, h2⟩ := h g hg
      refine ⟨h2, heap_size_of h2, ?_⟩
      rintro ⟨c, hc, hw, _⟩
      rw [noWr_ok hnw c hc] at hw; cases hw
    · cases hp
  pin p hp := by cases hp
  nod := List.nodup_nil
  deep := deep_ro hnw hd
/-! What comes in. -/
theorem place_open {H : Type} {enc : TypeId × Value → H} {w : World} {base : Nat} {spare : Nat → Bool} {held : Bool} {fuel : Nat} {cs : List Value} {y : DataW H × List MemPlace} (h : DataW.trod enc Tryd.prog w base spare held fuel 66 cs = some y) :
    ∃ b : Pl, cs[0]? = some (.int .i64 b.1) ∧ cs[1]? = some (.int .i64 b.2) := by
  obtain ⟨y0, y1, n, _, _, h0, h1⟩ := trod_struct2 Tryd.underlying66 h
  simp only [c3] at h0 h1
  obtain ⟨n0, e0, _, _⟩ := DataW.trod_int Tryd.underlying3 h0
  obtain ⟨n1, e1, _, _⟩ := DataW.trod_int Tryd.underlying3 h1
  exact ⟨(n0, n1), one_at e0, one_at e1⟩
theorem meta_open {H : Type} {enc : TypeId × Value → H} {w : World} {base : Nat} {spare : Nat → Bool} {held : Bool} {fuel : Nat} {cs : List Value} {y : DataW H × List MemPlace} (h : DataW.trod enc Tryd.prog w base spare held fuel 68 cs = some y) :
    ∃ m : Me, cs[0]? = some (.int .i64 m.kind) ∧ cs[1]? = some (.int .i64 m.key) ∧ cs[2]? = some (.int .i64 m.seq) ∧ cs[3]? = some (.int .i64 m.stamp) ∧ cs[4]? = some (.int .i64 m.batch) ∧ cs[5]? = some (.int .i64 m.floor) := by
  obtain ⟨xs, n, _, rfl, hl, hlen, hf⟩ := DataW.trod_struct Tryd.underlying68 h
  match xs, hlen with
  | [y0, y1, y2, y3, y4, y5], _ =>
    have h0 : DataW.trod enc Tryd.prog w base spare held n 3 ((cs.drop 0).take (Tryd.prog.cellsOf 3)) = some y0 := hf 0 _ rfl
    have h1 : DataW.trod enc Tryd.prog w base spare held n 3 ((cs.drop 1).take (Tryd.prog.cellsOf 3)) = some y1 := hf 1 _ rfl
    have h2 : DataW.trod enc Tryd.prog w base spare held n 3 ((cs.drop 2).take (Tryd.prog.cellsOf 3)) = some y2 := hf 2 _ rfl
    have h3 : DataW.trod enc Tryd.prog w base spare held n 3 ((cs.drop 3).take (Tryd.prog.cellsOf 3)) = some y3 := hf 3 _ rfl
    have h4 : DataW.trod enc Tryd.prog w base spare held n 3 ((cs.drop 4).take (Tryd.prog.cellsOf 3)) = some y4 := hf 4 _ rfl
    have h5 : DataW.trod enc Tryd.prog w base spare held n 3 ((cs.drop 5).take (Tryd.prog.cellsOf 3)) = some y5 := hf 5 _ rfl
    simp only [c3] at h0 h1 h2 h3 h4 h5
    obtain ⟨n0, e0, _, _⟩ := DataW.trod_int Tryd.underlying3 h0
    obtain ⟨n1, e1, _, _⟩ := DataW.trod_int Tryd.underlying3 h1
    obtain ⟨n2, e2, _, _⟩ := DataW.trod_int Tryd.underlying3 h2
    obtain ⟨n3, e3, _, _⟩ := DataW.trod_int Tryd.underlying3 h3
    obtain ⟨n4, e4, _, _⟩ := DataW.trod_int Tryd.underlying3 h4
    obtain ⟨n5, e5, _, _⟩ := DataW.trod_int Tryd.underlying3 h5
    exact ⟨⟨n0, n1, n2, n3, n4, n5⟩, one_at e0, one_at e1, one_at e2, one_at e3, one_at e4, one_at e5⟩
theorem slot_open {H : Type} {enc : TypeId × Value → H} {w : World} {base : Nat} {spare : Nat → Bool} {held : Bool} {fuel : Nat} {cs : List Value} {y : DataW H × List MemPlace} (h : DataW.trod enc Tryd.prog w base spare held fuel 74 cs = some y) :
    ∃ b : Slot, ∀ f, f < 9 → cs[f]? = some (cellV cSlot b f) := by
  obtain ⟨y0, y1, y2, n, _, _, h0, h1, h2⟩ := Go.Deep.trod_struct3 Tryd.underlying74 h
  simp only [c3, c66, c68] at h0 h1 h2
  obtain ⟨n0, e0, _, _⟩ := DataW.trod_int Tryd.underlying3 h0
  obtain ⟨p, hp0, hp1⟩ := place_open h1
  obtain ⟨m, m0, m1, m2, m3, m4, m5⟩ := meta_open h2
  refine ⟨⟨n0, p, m⟩, fun f hf => ?_⟩
  have p0 := part_at hp0
  have p1 := part_at hp1
  have k0 := part_at m0
  have k1 := part_at m1
  have k2 := part_at m2
  have k3 := part_at m3
  have k4 := part_at m4
  have k5 := part_at m5
  rcases f with _ | _ | _ | _ | _ | _ | _ | _ | _ | f
  · exact one_at e0
  · exact p0
  · exact p1
  · exact k0
  · exact k1
  · exact k2
  · exact k3
  · exact k4
  · exact k5
  · omega
/-- A point that came in. -/
structure PtIn (W : World) (a : Option Addr) (n c : Nat) (l : List (Rw Int)) (a2 : Option Addr) (n2 c2 : Nat) (l2 : List Slot) : Prop where
  bl : IsPart (rwCodec (cInt .i64)) W a n c l
  rw : ∀ r ∈ l, RwIn (cInt .i64) W r
  sl : IsPart cSlot W a2 n2 c2 l2
theorem point_open {H : Type} {enc : TypeId × Value → H} {W : World} {base b0 : Nat} {r : Reach} {v : Value} {d : DataW H} {p : List MemPlace} (hv : Value.okWide Tryd.prog W r b0 25 v)
    (h : DataW.Trod enc Tryd.prog W base (fun _ => true) true 25 v d p) :
    ∃ (h : Hd) (a : Option Addr) (n c : Nat) (a2 : Option Addr) (n2 c2 : Nat) (l2 : List Slot) (R : List Raw), v = .agg #[.int .i64 h.1, .int .i64 h.2.1, .int .i64 h.2.2.1, .int .i64 h.2.2.2, .slice a n c, .slice a2 n2 c2] ∧ IsPart cSlot W a2 n2 c2 l2 ∧
      R.length = n ∧ IsPart cRaw W a n c R ∧ ((∀ r ∈ R, r.2.1 = 2) → ∃ l : List (Rw Int), (∀ r ∈ l, r.l.length = 2) ∧ PtIn W a n c l a2 n2 c2 l2) := by
  obtain ⟨cs, rfl, hsz⟩ := okWide_struct Tryd.underlying25 hv
  obtain ⟨fuel, hf⟩ := h
  obtain ⟨xs, m, _, hx, hl, hlen, hall⟩ := DataW.trod_struct Tryd.underlying25 hf
  have c25 : Tryd.prog.cellsOf 25 = 6 := by kernel_rfl
  have c22 : Tryd.prog.cellsOf 22 = 1 := by kernel_rfl
  have c23 : Tryd.prog.cellsOf 23 = 1 := by kernel_rfl
  rw [c25] at hsz
  obtain ⟨l⟩ := cs
  match l, hsz, xs, hlen with
  | [v0, v1, v2, v3, v4, v5], _, [y0, y1, y2, y3, y4, y5], _ =>
    have h0 : DataW.trod enc Tryd.prog W base (fun _ => true) true m 3 (([v0, v1, v2, v3, v4, v5].drop 0).take (Tryd.prog.cellsOf 3)) = some y0 := hall 0 _ rfl
    have h1 : DataW.trod enc Tryd.prog W base (fun _ => true) true m 3 (([v0, v1, v2, v3, v4, v5].drop 1).take (Tryd.prog.cellsOf 3)) = some y1 := hall 1 _ rfl
    have h2 : DataW.trod enc Tryd.prog W base (fun _ => true) true m 3 (([v0, v1, v2, v3, v4, v5].drop 2).take (Tryd.prog.cellsOf 3)) = some y2 := hall 2 _ rfl
    have h3 : DataW.trod enc Tryd.prog W base (fun _ => true) true m 3 (([v0, v1, v2, v3, v4, v5].drop 3).take (Tryd.prog.cellsOf 3)) = some y3 := hall 3 _ rfl
    have h4 : DataW.trod enc Tryd.prog W base (fun _ => true) true m 22 (([v0, v1, v2, v3, v4, v5].drop 4).take (Tryd.prog.cellsOf 22)) = some y4 := hall 4 _ rfl
    have h5 : DataW.trod enc Tryd.prog W base (fun _ => true) true m 23 (([v0, v1, v2, v3, v4, v5].drop 5).take (Tryd.prog.cellsOf 23)) = some y5 := hall 5 _ rfl
    simp only [c3, c22, c23] at h0 h1 h2 h3 h4 h5
    obtain ⟨n0, e0, _, _⟩ := DataW.trod_int Tryd.underlying3 h0
    obtain ⟨n1, e1, _, _⟩ := DataW.trod_int Tryd.underlying3 h1
    obtain ⟨n2, e2, _, _⟩ := DataW.trod_int Tryd.underlying3 h2
    obtain ⟨n3, e3, _, _⟩ := DataW.trod_int Tryd.underlying3 h3
    have e0 : [v0] = [.int .i64 n0] := e0
    have e1 : [v1] = [.int .i64 n1] := e1
    have e2 : [v2] = [.int .i64 n2] := e2
    have e3 : [v3] = [.int .i64 n3] := e3
    cases e0; cases e1; cases e2; cases e3
    have h4 : DataW.trod enc Tryd.prog W base (fun _ => true) true m 22 [v4] = some y4 := h4
    have h5 : DataW.trod enc Tryd.prog W base (fun _ => true) true m 23 [v5] = some y5 := h5
    obtain ⟨a, n, c, e4⟩ := Go.Joins.slice_form Tryd.underlying22 h4
    obtain ⟨a2, n2', c2, e5⟩ := Go.Joins.slice_form Tryd.underlying23 h5
    cases e4; cases e5
    obtain ⟨R, r1, r2, r3⟩ := rws_open (b0 := 0) Tryd.underlying22 Tryd.underlying71 Tryd.underlying3 (by kernel_rfl) c3 (fun x hx => arg_at (i := 4) (a := x) (len := n) (cap := c) Tryd.underlying25 hv (by rw [hx]; rfl)) h4
    obtain ⟨zs2, w3⟩ := rows_open2 cSlot Tryd.underlying23 c74 (fun _ _ _ h => slot_open h) (fun x hx => arg_at (i := 5) (a := x) (len := n2') (cap := c2) Tryd.underlying25 hv (by rw [hx]; rfl)) h5
    refine ⟨(n0, n1, n2, n3), a, n, c, a2, n2', c2, zs2, R, rfl, w3.part, r1, r2, fun hR => ?_⟩
    obtain ⟨zs, z1, z2, z3, z4⟩ := r3 fun r hr => by rw [hR r hr]; decide
    refine ⟨zs, fun r hr => ?_, z3, fun r hr => (z4 r hr).1, w3.part⟩
    obtain ⟨i, hi, rfl⟩ := List.getElem_of_mem hr
    have := z2 i (by omega)
    rw [List.getD_eq_getElem?_getD, List.getElem?_eq_getElem hi, List.getD_eq_getElem?_getD, List.getElem?_eq_getElem (by omega)] at this
    simp only [Option.getD_some] at this
    rw [this]
    exact hR _ (List.getElem_mem _)
/-- Bytes that came in. -/
theorem bytes_open {H : Type} {enc : TypeId × Value → H} {W : World} {base b0 : Nat} {r : Reach} {v : Value} {d : DataW H} {p : List MemPlace} (hv : Value.okWide Tryd.prog W r b0 26 v)
    (h : DataW.Trod enc Tryd.prog W base (fun _ => true) true 26 v d p) : ∃ (a : Option Addr) (n c : Nat) (l : List Int), v = .slice a n c ∧ IsRows (cInt .u8) W a n c l ∧ Bys l := by
  obtain ⟨a, n, c, rfl⟩ := okWide_slice Tryd.underlying26 hv
  obtain ⟨fuel, hf⟩ := h
  have hf : DataW.trod enc Tryd.prog W base (fun _ => true) true fuel 26 [.slice a n c] = some (d, p) := by simpa [Value.cells] using hf
  rcases open_ints Tryd.underlying26 Tryd.underlying5 (by kernel_rfl) hf with ⟨hcs, _⟩ | ⟨x, len', cap', zs, hcs, _, hl, _, hz, _, hcell, hw⟩
  · simp at hcs
    obtain ⟨rfl, rfl, rfl⟩ := hcs
    exact ⟨none, 0, 0, [], rfl, .inl ⟨rfl, rfl, rfl, rfl⟩, fun x hx => by cases hx⟩
  · simp at hcs
    obtain ⟨rfl, rfl, rfl⟩ := hcs
    simp only [if_true] at hz
    obtain ⟨hs, hb⟩ := okWide_at Tryd.underlying26 hv
    refine ⟨some x, n, c, zs, rfl, .inr ⟨x, rfl, hs, hb, hl, hz, fun i hi f hf => ?_⟩, fun n hn => ?_⟩
    · obtain rfl : f = 0 := by
        have : f < 1 := hf
        omega
      rw [show i * 1 + 0 = i by omega, hcell i (by omega)]
      rfl
    · have := hw n hn
      simp [Lit.wf, IntKind.min, IntKind.max, IntKind.signed, IntKind.bits] at this
      omega
end Go.Vx
set_option linter.unusedSectionVars false
set_option maxRecDepth 100000
set_option linter.unusedVariables false
set_option linter.unusedSimpArgs false
namespace Go.Vx
open Go Go.Proofs
variable [Gl]

theorem unlikeO_ok (h : Hd) (o : Bool) (b q : Nat) (l : List Raw) (n c : Nat) (o2 : Bool) (b2 q2 : Nat) (l2 : List Slot) (n2 c2 : Nat) (h' : Hd) (o' : Bool) (b' q' : Nat) (l' : List Raw) (n' c' : Nat) (o2' : Bool) (b2' q2' : Nat) (l2' : List Slot) (n2' c2' : Nat) (at' by' : Int)
    (h1 : n ≤ l.length) (ho : o = false → n = 0 ∧ c = 0) (hr : ∃ r ∈ l.take n, r.2.1 ≠ 2) :
    Tells (C := C0) Tryd.prog (.fn 6) [⟨b, q, 1, false, some o, .rows 1071 l⟩, ⟨b2, q2, 9, false, some o2, .rows 74 l2⟩, ⟨b', q', 1, false, some o', .rows 1071 l'⟩, ⟨b2', q2', 9, false, some o2', .rows 74 l2'⟩] [ptv h (.sl 0 0 n c) (.sl 1 0 n2 c2), ptv h' (.sl 2 0 n' c') (.sl 3 0 n2' c2'), .int .i64 at', .int .u8 by'] (.bool .t) := by
  refine loc_pc (P := Tryd.prog) (E := ⟨[], [pcFirst, pcFairO], 93, [], [], []⟩) (L := []) mix Tryd.func6 rfl (by kernel_rfl) (by kernel_rfl) rfl rfl ?_
  ((conv => (arg 1; reduce)); with_reducible repeat' (first | exact Tr.yes_h | refine Tr.and_h ?_ ?_ | refine Tr.imp_h fun _ => ?_ | refine Tr.all_h fun _ => ?_ | refine Tr.lf_h ?_))
  all_goals try (first | first | (show Region.lexB _ _ = true; kernel_rfl) | (show planned _ _ = true; kernel_rfl) | exact rfl | exact True.intro | ((try dsimp only [imp, C0, cG, cInt, cPl, cSlot, cPg, rwCodec, cRaw] at *); (try refine inR64 ?_ ?_) <;> (try simp only [List.length_set, List.length_append, List.length_take, List.length_drop]) <;> omega))
  · exact ⟨h1, ho, hr⟩
theorem unlikeO2_ok (h : Hd) (o : Bool) (b q : Nat) (l : List (Rw Int)) (n c : Nat) (o2 : Bool) (b2 q2 : Nat) (l2 : List Slot) (n2 c2 : Nat) (h' : Hd) (o' : Bool) (b' q' : Nat) (l' : List Raw) (n' c' : Nat) (o2' : Bool) (b2' q2' : Nat) (l2' : List Slot) (n2' c2' : Nat) (at' by' : Int)
    (h0 : n ≤ l.length) (h0o : o = false → n = 0 ∧ c = 0) (h1 : n' ≤ l'.length) (ho : o' = false → n' = 0 ∧ c' = 0) (hr : ∃ r ∈ l'.take n', r.2.1 ≠ 2) :
    Tells (C := C0) Tryd.prog (.fn 6) [⟨b, q, 1, false, some o, .rows 71 l⟩, ⟨b2, q2, 9, false, some o2, .rows 74 l2⟩, ⟨b', q', 1, false, some o', .rows 1071 l'⟩, ⟨b2', q2', 9, false, some o2', .rows 74 l2'⟩] [ptv h (.sl 0 0 n c) (.sl 1 0 n2 c2), ptv h' (.sl 2 0 n' c') (.sl 3 0 n2' c2'), .int .i64 at', .int .u8 by'] (.bool .t) := by
  refine loc_pc (P := Tryd.prog) (E := ⟨[], [pcFirst, pcFair, pcFairO], 93, [], [], []⟩) (L := []) mix Tryd.func6 rfl (by kernel_rfl) (by kernel_rfl) rfl rfl ?_
  ((conv => (arg 1; reduce)); with_reducible repeat' (first | exact Tr.yes_h | refine Tr.and_h ?_ ?_ | refine Tr.imp_h fun _ => ?_ | refine Tr.all_h fun _ => ?_ | refine Tr.lf_h ?_))
  all_goals try (first | first | (show Region.lexB _ _ = true; kernel_rfl) | (show planned _ _ = true; kernel_rfl) | exact rfl | exact True.intro | ((try dsimp only [imp, C0, cG, cInt, cPl, cSlot, cPg, rwCodec, cRaw] at *); (try refine inR64 ?_ ?_) <;> (try simp only [List.length_set, List.length_append, List.length_take, List.length_drop]) <;> omega))
  · exact ⟨h0, h0o⟩
  · exact ⟨h1, ho, hr⟩
end Go.Vx
