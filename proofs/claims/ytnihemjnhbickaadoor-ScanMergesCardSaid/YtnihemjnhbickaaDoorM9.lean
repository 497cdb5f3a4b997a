/-
  Round 22: ScanMerges: the walk.
  Round 22: the errors that are laid; the inputs.
  Conditions: none.
-/
import Derived.Test.YtnihemjnhbickaaDoorM4
import Derived.Test.YtnihemjnhbickaaDoorM8
import Derived.Test.YtnihemjnhbickaaDoorRows
import Derived.LaidMore
import Derived.ChangeOld
import Derived.Below
import Derived.Stop.Joined
import Derived.Lib.SmallJoins
set_option linter.unusedVariables false
set_option linter.unusedSimpArgs false
set_option linter.unusedSectionVars false
set_option maxRecDepth 100000
namespace Go.Vx
open Go Go.Proofs
variable [Gl]
def W16 (A Z : List Slot) : Inv' C0 := ⟨16, Nat × Nat, fun y => [(15, .int .i64 (y.1 : Int)), (14, .int .i64 (y.2 : Int))], fun y m => match m with
  | c0 :: c1 :: c2 :: c3 :: c4 :: c5 :: c6 :: c7 :: c8 :: c9 :: c10 :: c11 :: c12 :: c13 :: c14 :: c15 :: c16 :: c17 :: c18 :: c19 :: c20 :: c21 :: c22 :: c23 :: c24 :: c25 :: c26 :: _ => [c0, c1, c2, c3, c4, c5, c6, c7, c8, c9, c10, c11, c12, c13, c14, c15, c16, c17, c18, c19, c20, c21, c22, c23, c24, c25, c26]
  | _ => [], fun y => y.1 ≤ A.length + Z.length ∧ y.2 = min y.1 Z.length, fun y => A.length + Z.length - y.1⟩
def W31 (B : List Slot) : Inv' C0 := ⟨31, Nat, fun y => [(19, .int .i64 (y : Int))], fun y m => m, fun y => y ≤ B.length, fun y => B.length - y⟩
abbrev slT (l : List Pg) (n : Nat) : List Slot := sl8 (l.take n)
theorem gth_tk {α : Type} {A : List α} {r x : Sq α} (hS : Gth A r) (hx : Gth (r.2.2.2.1.take r.2.2.2.2.1) x) : Gth A x := by
  rw [hS.tk] at hx; exact hx
abbrev OfY := Sq Slot × Sq Int × Sq Int × Sq Int × Sq Pl
theorem fx {sl ul : List Pg} {sn un : Nat} {z1 z2 : Sq Pg} {r1 r2 m : OfY} {n1 n2 : Nm} (hl : (decide (120 < (sn : Int)) || decide (120 < (un : Int))) = false) (hz1 : Gth (sl.take sn) z1) (hr1 : OfS ⟨8, 8, 16⟩ [] (Sq.li z1) r1) (hz2 : Gth (ul.take un) z2) (hr2 : OfS ⟨8, 8, 16⟩ [] (Sq.li z2) r2)
    (hm : MgS ⟨r1.1, n1, r1.2.1, r1.2.2.1, r1.2.2.2.1, r1.2.2.2.2⟩ ⟨r2.1, n2, r2.2.1, r2.2.2.1, r2.2.2.2.1, r2.2.2.2.2⟩ m) :
    ¬ (120 : Int) < (sn : Int) ∧ ¬ (120 : Int) < (un : Int) ∧ OfS ⟨8, 8, 16⟩ [] (sl.take sn) r1 ∧ OfS ⟨8, 8, 16⟩ [] (ul.take un) r2 ∧ Gth (slT sl sn) r1.1 ∧ Gth (slT ul un) r2.1 ∧ Gth (mgZ (slT sl sn ++ slT ul un)) m.1 ∧ (slT sl sn).length ≤ 33 ∧ (slT ul un).length ≤ 33 ∧ (mgZ (slT sl sn ++ slT ul un)).length ≤ (slT sl sn).length + (slT ul un).length := by
  have hO1 : OfS ⟨8, 8, 16⟩ [] (sl.take sn) r1 := by rw [← (show (Sq.li z1 : List Pg) = sl.take sn from hz1.1)]; exact hr1
  have hO2 : OfS ⟨8, 8, 16⟩ [] (ul.take un) r2 := by rw [← (show (Sq.li z2 : List Pg) = ul.take un from hz2.1)]; exact hr2
  have hS1 : Gth (slT sl sn) r1.1 := hO1.2.1
  have hS2 : Gth (slT ul un) r2.1 := hO2.2.1
  refine ⟨of_decide_eq_false (Bool.or_eq_false_iff.1 hl).1, of_decide_eq_false (Bool.or_eq_false_iff.1 hl).2, hO1, hO2, hS1, hS2, ?_, sl8_len _, sl8_len _, ?_⟩
  · have h9 := hm.1
    change Gth (mgZ (Sq.li r1.1 ++ Sq.li r2.1)) m.1 at h9
    rw [show Sq.li r1.1 = slT sl sn from hS1.1, show Sq.li r2.1 = slT ul un from hS2.1] at h9
    exact h9
  · have := mgZ_len (slT sl sn ++ slT ul un)
    rw [List.length_append] at this
    exact this
set_option maxHeartbeats 16000000 in
theorem merges_ok (s u : Sq Pg) (hs : s.ok) (hu : u.ok) : Tells (C := C0) Tryd.prog (.fn 7) [⟨s.2.1, s.2.2.1, 9, false, some s.1, .rows 42 s.2.2.2.1⟩, ⟨u.2.1, u.2.2.1, 9, false, some u.1, .rows 42 u.2.2.2.1⟩] [.sl 0 0 s.2.2.2.2.1 s.2.2.2.2.2, .sl 1 0 u.2.2.2.2.1 u.2.2.2.2.2] (.bool .t) := by
  obtain ⟨so, sb, sq, sl, sn, sc⟩ := s
  obtain ⟨uo, ub, uq, ul, un, uc⟩ := u
  obtain ⟨hs1, hs2, hs3⟩ := hs
  obtain ⟨hu1, hu2, hu3⟩ := hu
  change sn ≤ sl.length at hs2
  change un ≤ ul.length at hu2
  refine loc_pc (P := Tryd.prog) (E := ⟨[fcMade, fcOf, fcMerge, fcSlotsc], [pcFirst, pcFind, pcRnewer, pcSameOne, pcUnion], 249, [(24, [1000017], [.p 0, .p 1, .p 2, .p 3, .p 4, .p 5, .p 6, .p 7, .p 8, .e 9, .e 10, .p 11, .p 12])], [], []⟩) (L := [W16 (slT sl sn) (mgZ (slT sl sn ++ slT ul un)), W31 (slT ul un)]) mix Tryd.func7 rfl (by kernel_rfl) (by kernel_rfl) rfl rfl ?_
  ((conv => (arg 1; reduce)); with_reducible repeat' (first | exact Tr.yes_h | refine Tr.and_h ?_ ?_ | refine Tr.imp_h fun _ => ?_ | refine Tr.all_h fun _ => ?_ | refine Tr.lf_h ?_))
  all_goals try (first | first | (show Region.lexB _ _ = true; kernel_rfl) | (show planned _ _ = true; kernel_rfl) | exact rfl | exact True.intro | (first | exact key3 | exact zeroB | exact zeroR | exact zeroS | exact ⟨key3, zeroB⟩ | exact ⟨key3, zeroR⟩ | exact ⟨key3, zeroS⟩) | ((try dsimp only [imp, C0, cG, cInt, cPl, cSlot, cPg, gwCodec] at *); (try refine inR64 ?_ ?_) <;> (try simp only [List.length_set, List.length_append, List.length_take, List.length_drop]) <;> omega))
  · rename_i hl
    have hl1 : ¬ (120 : Int) < (sn : Int) := of_decide_eq_false (Bool.or_eq_false_iff.1 hl).1
    have hl2 : ¬ (120 : Int) < (un : Int) := of_decide_eq_false (Bool.or_eq_false_iff.1 hl).2
    have ha3 : (slT sl sn).length ≤ 33 := sl8_len _
    have hb3 : (slT ul un).length ≤ 33 := sl8_len _
    exact ⟨hs2, by show sn < 1000000000; omega, hs3⟩
  · rename_i hl z1 hz1
    have hl1 : ¬ (120 : Int) < (sn : Int) := of_decide_eq_false (Bool.or_eq_false_iff.1 hl).1
    have hl2 : ¬ (120 : Int) < (un : Int) := of_decide_eq_false (Bool.or_eq_false_iff.1 hl).2
    have ha3 : (slT sl sn).length ≤ 33 := sl8_len _
    have hb3 : (slT ul un).length ≤ 33 := sl8_len _
    have hz1 : Gth (sl.take sn) z1 := hz1
    exact ⟨by decide, by decide, by decide, ⟨Nat.le_refl 0, by decide, fun _ => ⟨rfl, rfl⟩⟩, hz1.le, by have h9 := hz1.n; rw [List.length_take] at h9; show z1.2.2.2.2.1 < 1000000; omega, hz1.off⟩
  · rename_i hl z1 hz1 r1 hr1 b0
    have hl1 : ¬ (120 : Int) < (sn : Int) := of_decide_eq_false (Bool.or_eq_false_iff.1 hl).1
    have hl2 : ¬ (120 : Int) < (un : Int) := of_decide_eq_false (Bool.or_eq_false_iff.1 hl).2
    have ha3 : (slT sl sn).length ≤ 33 := sl8_len _
    have hb3 : (slT ul un).length ≤ 33 := sl8_len _
    exact ⟨hu2, by show un < 1000000000; omega, hu3⟩
  · rename_i hl z1 hz1 r1 hr1 b0 z2 hz2
    have hl1 : ¬ (120 : Int) < (sn : Int) := of_decide_eq_false (Bool.or_eq_false_iff.1 hl).1
    have hl2 : ¬ (120 : Int) < (un : Int) := of_decide_eq_false (Bool.or_eq_false_iff.1 hl).2
    have ha3 : (slT sl sn).length ≤ 33 := sl8_len _
    have hb3 : (slT ul un).length ≤ 33 := sl8_len _
    have hz2 : Gth (ul.take un) z2 := hz2
    exact ⟨by decide, by decide, by decide, ⟨Nat.le_refl 0, by decide, fun _ => ⟨rfl, rfl⟩⟩, hz2.le, by have h9 := hz2.n; rw [List.length_take] at h9; show z2.2.2.2.2.1 < 1000000; omega, hz2.off⟩
  · rename_i hl z1 hz1 r1 hr1 b0 z2 hz2 r2 hr2 b1
    have hl1 : ¬ (120 : Int) < (sn : Int) := of_decide_eq_false (Bool.or_eq_false_iff.1 hl).1
    have hl2 : ¬ (120 : Int) < (un : Int) := of_decide_eq_false (Bool.or_eq_false_iff.1 hl).2
    have ha3 : (slT sl sn).length ≤ 33 := sl8_len _
    have hb3 : (slT ul un).length ≤ 33 := sl8_len _
    have hz1 : Gth (sl.take sn) z1 := hz1
    have hO1 : OfS ⟨8, 8, 16⟩ [] (sl.take sn) r1 := by rw [← (show (Sq.li z1 : List Pg) = sl.take sn from hz1.1)]; exact hr1
    have hS1 : Gth (slT sl sn) r1.1 := hO1.2.1
    have hz2 : Gth (ul.take un) z2 := hz2
    have hO2 : OfS ⟨8, 8, 16⟩ [] (ul.take un) r2 := by rw [← (show (Sq.li z2 : List Pg) = ul.take un from hz2.1)]; exact hr2
    have hS2 : Gth (slT ul un) r2.1 := hO2.2.1
    exact ⟨⟨⟨hS1.le, by rw [hS1.n]; omega, hS1.off⟩, ⟨hO1.2.2.1.le, by rw [hO1.2.2.1.n]; exact Nat.lt_of_le_of_lt numL_len' (by decide), hO1.2.2.1.off⟩, ⟨hO1.2.2.2.1.le, by rw [hO1.2.2.2.1.n]; exact Nat.lt_of_le_of_lt numL_len' (by decide), hO1.2.2.2.1.off⟩, ⟨hO1.2.2.2.2.1.le, by rw [hO1.2.2.2.2.1.n]; exact Nat.lt_of_le_of_lt badL_len (by decide), hO1.2.2.2.2.1.off⟩, ⟨hO1.2.2.2.2.2.le, by rw [hO1.2.2.2.2.2.n]; exact orf_len (by rw [List.length_take]; omega), hO1.2.2.2.2.2.off⟩⟩, ⟨⟨hS2.le, by rw [hS2.n]; omega, hS2.off⟩, ⟨hO2.2.2.1.le, by rw [hO2.2.2.1.n]; exact Nat.lt_of_le_of_lt numL_len' (by decide), hO2.2.2.1.off⟩, ⟨hO2.2.2.2.1.le, by rw [hO2.2.2.2.1.n]; exact Nat.lt_of_le_of_lt numL_len' (by decide), hO2.2.2.2.1.off⟩, ⟨hO2.2.2.2.2.1.le, by rw [hO2.2.2.2.2.1.n]; exact Nat.lt_of_le_of_lt badL_len (by decide), hO2.2.2.2.2.1.off⟩, ⟨hO2.2.2.2.2.2.le, by rw [hO2.2.2.2.2.2.n]; exact orf_len (by rw [List.length_take]; omega), hO2.2.2.2.2.2.off⟩⟩⟩
  iterate 2 (
    focus
    rename_i hl z1 hz1 r1 hr1 b0 z2 hz2 r2 hr2 b1 m hm b2 cm
    obtain ⟨hl1, hl2, hO1, hO2, hS1, hS2, hM, ha3, hb3, hz3⟩ := fx (sl := sl) (ul := ul) (sn := sn) (un := un) (z1 := z1) (z2 := z2) (r1 := r1) (r2 := r2) (m := m) hl hz1 hr1 hz2 hr2 hm
    first
      | (exfalso; simp [SB.val] at cm; done)
      | (have h9 := hS1.n; exact ⟨hS1.le, by show r1.1.2.2.2.2.1 < 1000000000; omega, hS1.off⟩; done))
  · rename_i hl z1 hz1 r1 hr1 b0 z2 hz2 r2 hr2 b1 m hm b2 cm x hx
    obtain ⟨hl1, hl2, hO1, hO2, hS1, hS2, hM, ha3, hb3, hz3⟩ := fx (sl := sl) (ul := ul) (sn := sn) (un := un) (z1 := z1) (z2 := z2) (r1 := r1) (r2 := r2) (m := m) hl hz1 hr1 hz2 hr2 hm
    have h9 := hS2.n
    exact ⟨hS2.le, by show r2.1.2.2.2.2.1 < 1000000000; omega, hS2.off⟩
  · rename_i hl z1 hz1 r1 hr1 b0 z2 hz2 r2 hr2 b1 m hm b2 cm x hx y hy
    obtain ⟨hl1, hl2, hO1, hO2, hS1, hS2, hM, ha3, hb3, hz3⟩ := fx (sl := sl) (ul := ul) (sn := sn) (un := un) (z1 := z1) (z2 := z2) (r1 := r1) (r2 := r2) (m := m) hl hz1 hr1 hz2 hr2 hm
    have h9 := hM.n
    exact ⟨hM.le, by show m.1.2.2.2.2.1 < 1000000000; omega, hM.off⟩
  · rename_i hl z1 hz1 r1 hr1 b0 z2 hz2 r2 hr2 b1 m hm b2 cm x hx y hy z hz
    refine Stands.one (0, 0) ⟨⟨Nat.zero_le _, (Nat.zero_min _).symm⟩, ?_⟩
    ((conv => (arg 1; reduce)); with_reducible repeat' (first | exact Tr.yes_h | refine Tr.and_h ?_ ?_ | refine Tr.imp_h fun _ => ?_ | refine Tr.all_h fun _ => ?_ | refine Tr.lf_h ?_))
    all_goals (first | first | (show Region.lexB _ _ = true; kernel_rfl) | (show planned _ _ = true; kernel_rfl) | exact rfl | exact True.intro | (first | exact key3 | exact zeroB | exact zeroR | exact zeroS | exact ⟨key3, zeroB⟩ | exact ⟨key3, zeroR⟩ | exact ⟨key3, zeroS⟩) | ((try dsimp only [imp, C0, cG, cInt, cPl, cSlot, cPg, gwCodec] at *); (try refine inR64 ?_ ?_) <;> (try simp only [List.length_set, List.length_append, List.length_take, List.length_drop]) <;> omega))
  iterate 9 (
    focus
    rename_i hl z1 hz1 r1 hr1 b0 z2 hz2 r2 hr2 b1 m hm b2 cm x hx y hy z hz w hw g1 g2
    obtain ⟨hl1, hl2, hO1, hO2, hS1, hS2, hM, ha3, hb3, hz3⟩ := fx (sl := sl) (ul := ul) (sn := sn) (un := un) (z1 := z1) (z2 := z2) (r1 := r1) (r2 := r2) (m := m) hl hz1 hr1 hz2 hr2 hm
    have hx := gth_tk hS1 hx
    have hxn := hx.n
    have hy := gth_tk hS2 hy
    have hyn := hy.n
    have hz := gth_tk hM hz
    have hzn := hz.n
    obtain ⟨i, n⟩ := w
    obtain ⟨hi, hn⟩ := hw
    change i ≤ (slT sl sn).length + (mgZ (slT sl sn ++ slT ul un)).length at hi
    change n = min i (mgZ (slT sl sn ++ slT ul un)).length at hn
    have g1 : i < (slT sl sn).length ∨ n < (mgZ (slT sl sn ++ slT ul un)).length := by
      rcases Bool.or_eq_true_iff.1 g1 with h | h
      · have h : (i : Int) < ((x.2.2.2.2.1 : Nat) : Int) := of_decide_eq_true h
        rw [hxn] at h; omega
      · have h : (n : Int) < ((z.2.2.2.2.1 : Nat) : Int) := of_decide_eq_true h
        rw [hzn] at h; omega
    have g2 : (i : Int) < ((x.2.2.2.2.1 : Nat) : Int) := of_decide_eq_true g2
    rw [hxn] at g2
    have g2 : i < (slT sl sn).length := by omega
    have hxi := hx.get (d := slot0) g2
    obtain ⟨hk1, hk2, hk3⟩ := mgZ_A (A := (slT sl sn)) (B := (slT ul un)) rise_slots rise_slots g2
    first
      | (exact hx.on (by omega); done)
      | (show (i : Int) < ((x.2.2.2.2.1 : Nat) : Int); rw [hxn]; omega; done)
      | (have h9 := hx.le; show i < x.2.2.2.1.length; omega; done)
      | (exact ⟨hy.le, by show y.2.2.2.2.1 < 4611686018427387904; omega, hy.off⟩; done))
  iterate 9 (
    focus
    rename_i hl z1 hz1 r1 hr1 b0 z2 hz2 r2 hr2 b1 m hm b2 cm x hx y hy z hz w hw g1 g2 b3 g3
    obtain ⟨hl1, hl2, hO1, hO2, hS1, hS2, hM, ha3, hb3, hz3⟩ := fx (sl := sl) (ul := ul) (sn := sn) (un := un) (z1 := z1) (z2 := z2) (r1 := r1) (r2 := r2) (m := m) hl hz1 hr1 hz2 hr2 hm
    have hx := gth_tk hS1 hx
    have hxn := hx.n
    have hy := gth_tk hS2 hy
    have hyn := hy.n
    have hz := gth_tk hM hz
    have hzn := hz.n
    obtain ⟨i, n⟩ := w
    obtain ⟨hi, hn⟩ := hw
    change i ≤ (slT sl sn).length + (mgZ (slT sl sn ++ slT ul un)).length at hi
    change n = min i (mgZ (slT sl sn ++ slT ul un)).length at hn
    have g1 : i < (slT sl sn).length ∨ n < (mgZ (slT sl sn ++ slT ul un)).length := by
      rcases Bool.or_eq_true_iff.1 g1 with h | h
      · have h : (i : Int) < ((x.2.2.2.2.1 : Nat) : Int) := of_decide_eq_true h
        rw [hxn] at h; omega
      · have h : (n : Int) < ((z.2.2.2.2.1 : Nat) : Int) := of_decide_eq_true h
        rw [hzn] at h; omega
    have g2 : (i : Int) < ((x.2.2.2.2.1 : Nat) : Int) := of_decide_eq_true g2
    rw [hxn] at g2
    have g2 : i < (slT sl sn).length := by omega
    have hxi := hx.get (d := slot0) g2
    obtain ⟨hk1, hk2, hk3⟩ := mgZ_A (A := (slT sl sn)) (B := (slT ul un)) rise_slots rise_slots g2
    have hge : 0 ≤ ixF (keyIs (x.2.2.2.1.getD i slot0).key) (y.2.2.2.1.take y.2.2.2.2.1) := of_decide_eq_true g3
    rw [hxi, hy.tk] at hge
    obtain ⟨k0, hj1, hj2, hj3⟩ := ixF_hit (d := slot0) hge
    first
      | (exact hy.on (by omega); done)
      | (show 0 ≤ ixF (keyIs (x.2.2.2.1.getD i slot0).key) (y.2.2.2.1.take y.2.2.2.2.1); rw [hxi, hy.tk]; omega; done)
      | (show ixF (keyIs (x.2.2.2.1.getD i slot0).key) (y.2.2.2.1.take y.2.2.2.2.1) < ((y.2.2.2.2.1 : Nat) : Int); rw [hxi, hy.tk]; omega; done)
      | (have h9 := hy.le; show (ixF (keyIs (x.2.2.2.1.getD i slot0).key) (y.2.2.2.1.take y.2.2.2.2.1)).toNat + 0 < y.2.2.2.1.length; rw [hxi, hy.tk]; omega; done)
      | (exact hx.on (by omega); done)
      | (show (i : Int) < ((x.2.2.2.2.1 : Nat) : Int); rw [hxn]; omega; done)
      | (have h9 := hx.le; show i < x.2.2.2.1.length; omega; done))
  iterate 10 (
    focus
    rename_i hl z1 hz1 r1 hr1 b0 z2 hz2 r2 hr2 b1 m hm b2 cm x hx y hy z hz w hw g1 g2 b3 g3
    obtain ⟨hl1, hl2, hO1, hO2, hS1, hS2, hM, ha3, hb3, hz3⟩ := fx (sl := sl) (ul := ul) (sn := sn) (un := un) (z1 := z1) (z2 := z2) (r1 := r1) (r2 := r2) (m := m) hl hz1 hr1 hz2 hr2 hm
    have hx := gth_tk hS1 hx
    have hxn := hx.n
    have hy := gth_tk hS2 hy
    have hyn := hy.n
    have hz := gth_tk hM hz
    have hzn := hz.n
    obtain ⟨i, n⟩ := w
    obtain ⟨hi, hn⟩ := hw
    change i ≤ (slT sl sn).length + (mgZ (slT sl sn ++ slT ul un)).length at hi
    change n = min i (mgZ (slT sl sn ++ slT ul un)).length at hn
    have g1 : i < (slT sl sn).length ∨ n < (mgZ (slT sl sn ++ slT ul un)).length := by
      rcases Bool.or_eq_true_iff.1 g1 with h | h
      · have h : (i : Int) < ((x.2.2.2.2.1 : Nat) : Int) := of_decide_eq_true h
        rw [hxn] at h; omega
      · have h : (n : Int) < ((z.2.2.2.2.1 : Nat) : Int) := of_decide_eq_true h
        rw [hzn] at h; omega
    have g2 : (i : Int) < ((x.2.2.2.2.1 : Nat) : Int) := of_decide_eq_true g2
    rw [hxn] at g2
    have g2 : i < (slT sl sn).length := by omega
    have hxi := hx.get (d := slot0) g2
    obtain ⟨hk1, hk2, hk3⟩ := mgZ_A (A := (slT sl sn)) (B := (slT ul un)) rise_slots rise_slots g2
    have hge : 0 ≤ ixF (keyIs (x.2.2.2.1.getD i slot0).key) (y.2.2.2.1.take y.2.2.2.2.1) := of_decide_eq_true (and_l g3)
    rw [hxi, hy.tk] at hge
    obtain ⟨k0, hj1, hj2, hj3⟩ := ixF_hit (d := slot0) hge
    first
      | (exact hy.on (by omega); done)
      | (show 0 ≤ ixF (keyIs (x.2.2.2.1.getD i slot0).key) (y.2.2.2.1.take y.2.2.2.2.1); rw [hxi, hy.tk]; omega; done)
      | (show ixF (keyIs (x.2.2.2.1.getD i slot0).key) (y.2.2.2.1.take y.2.2.2.2.1) < ((y.2.2.2.2.1 : Nat) : Int); rw [hxi, hy.tk]; omega; done)
      | (have h9 := hy.le; show (ixF (keyIs (x.2.2.2.1.getD i slot0).key) (y.2.2.2.1.take y.2.2.2.2.1)).toNat + 0 < y.2.2.2.1.length; rw [hxi, hy.tk]; omega; done)
      | (exact hx.on (by omega); done)
      | (show (i : Int) < ((x.2.2.2.2.1 : Nat) : Int); rw [hxn]; omega; done)
      | (have h9 := hx.le; show i < x.2.2.2.1.length; omega; done)
      | (exact ⟨hz.le, by show z.2.2.2.2.1 < 4611686018427387904; omega, hz.off⟩; done))
  iterate 5 (
    focus
    rename_i hl z1 hz1 r1 hr1 b0 z2 hz2 r2 hr2 b1 m hm b2 cm x hx y hy z hz w hw g1 g2 b3 g3 g4
    obtain ⟨hl1, hl2, hO1, hO2, hS1, hS2, hM, ha3, hb3, hz3⟩ := fx (sl := sl) (ul := ul) (sn := sn) (un := un) (z1 := z1) (z2 := z2) (r1 := r1) (r2 := r2) (m := m) hl hz1 hr1 hz2 hr2 hm
    have hx := gth_tk hS1 hx
    have hxn := hx.n
    have hy := gth_tk hS2 hy
    have hyn := hy.n
    have hz := gth_tk hM hz
    have hzn := hz.n
    obtain ⟨i, n⟩ := w
    obtain ⟨hi, hn⟩ := hw
    change i ≤ (slT sl sn).length + (mgZ (slT sl sn ++ slT ul un)).length at hi
    change n = min i (mgZ (slT sl sn ++ slT ul un)).length at hn
    have g1 : i < (slT sl sn).length ∨ n < (mgZ (slT sl sn ++ slT ul un)).length := by
      rcases Bool.or_eq_true_iff.1 g1 with h | h
      · have h : (i : Int) < ((x.2.2.2.2.1 : Nat) : Int) := of_decide_eq_true h
        rw [hxn] at h; omega
      · have h : (n : Int) < ((z.2.2.2.2.1 : Nat) : Int) := of_decide_eq_true h
        rw [hzn] at h; omega
    have g2 : (i : Int) < ((x.2.2.2.2.1 : Nat) : Int) := of_decide_eq_true g2
    rw [hxn] at g2
    have g2 : i < (slT sl sn).length := by omega
    have hxi := hx.get (d := slot0) g2
    obtain ⟨hk1, hk2, hk3⟩ := mgZ_A (A := (slT sl sn)) (B := (slT ul un)) rise_slots rise_slots g2
    first
      | (show inR .i64 (ixF (keyIs (x.2.2.2.1.getD i slot0).key) (z.2.2.2.1.take z.2.2.2.2.1) + 1); rw [hxi, hz.tk]; exact inR64 (by omega) (by omega); done)
      | (exact hz.off; done)
      | (show 0 ≤ ixF (keyIs (x.2.2.2.1.getD i slot0).key) (z.2.2.2.1.take z.2.2.2.2.1) + 1; rw [hxi, hz.tk]; omega; done)
      | (have h8 : z.2.2.2.2.1 ≤ z.2.2.2.2.2 := hz.2.2.1; show ixF (keyIs (x.2.2.2.1.getD i slot0).key) (z.2.2.2.1.take z.2.2.2.2.1) + 1 ≤ ((z.2.2.2.2.2 : Nat) : Int); rw [hxi, hz.tk]; omega; done)
      | (show 0 ≤ ixF (keyIs (x.2.2.2.1.getD i slot0).key) (z.2.2.2.1.take z.2.2.2.2.1); rw [hxi, hz.tk]; omega; done))
  · rename_i hl z1 hz1 r1 hr1 b0 z2 hz2 r2 hr2 b1 m hm b2 cm x hx y hy z hz w hw g1 g2 b3 g3 g4
    obtain ⟨hl1, hl2, hO1, hO2, hS1, hS2, hM, ha3, hb3, hz3⟩ := fx (sl := sl) (ul := ul) (sn := sn) (un := un) (z1 := z1) (z2 := z2) (r1 := r1) (r2 := r2) (m := m) hl hz1 hr1 hz2 hr2 hm
    have hx := gth_tk hS1 hx
    have hxn := hx.n
    have hy := gth_tk hS2 hy
    have hyn := hy.n
    have hz := gth_tk hM hz
    have hzn := hz.n
    obtain ⟨i, n⟩ := w
    obtain ⟨hi, hn⟩ := hw
    change i ≤ (slT sl sn).length + (mgZ (slT sl sn ++ slT ul un)).length at hi
    change n = min i (mgZ (slT sl sn ++ slT ul un)).length at hn
    have g1 : i < (slT sl sn).length ∨ n < (mgZ (slT sl sn ++ slT ul un)).length := by
      rcases Bool.or_eq_true_iff.1 g1 with h | h
      · have h : (i : Int) < ((x.2.2.2.2.1 : Nat) : Int) := of_decide_eq_true h
        rw [hxn] at h; omega
      · have h : (n : Int) < ((z.2.2.2.2.1 : Nat) : Int) := of_decide_eq_true h
        rw [hzn] at h; omega
    have g2 : (i : Int) < ((x.2.2.2.2.1 : Nat) : Int) := of_decide_eq_true g2
    rw [hxn] at g2
    have g2 : i < (slT sl sn).length := by omega
    have hxi := hx.get (d := slot0) g2
    obtain ⟨hk1, hk2, hk3⟩ := mgZ_A (A := (slT sl sn)) (B := (slT ul un)) rise_slots rise_slots g2
    exfalso
    have g4 : ixF (keyIs (x.2.2.2.1.getD i slot0).key) (z.2.2.2.1.take z.2.2.2.2.1) < 0 := of_decide_eq_true g4
    rw [hxi, hz.tk] at g4
    omega
  · rename_i hl z1 hz1 r1 hr1 b0 z2 hz2 r2 hr2 b1 m hm b2 cm x hx y hy z hz w hw g1 g2 b3 g3 g4 b4
    obtain ⟨hl1, hl2, hO1, hO2, hS1, hS2, hM, ha3, hb3, hz3⟩ := fx (sl := sl) (ul := ul) (sn := sn) (un := un) (z1 := z1) (z2 := z2) (r1 := r1) (r2 := r2) (m := m) hl hz1 hr1 hz2 hr2 hm
    have hx := gth_tk hS1 hx
    have hxn := hx.n
    have hy := gth_tk hS2 hy
    have hyn := hy.n
    have hz := gth_tk hM hz
    have hzn := hz.n
    obtain ⟨i, n⟩ := w
    obtain ⟨hi, hn⟩ := hw
    change i ≤ (slT sl sn).length + (mgZ (slT sl sn ++ slT ul un)).length at hi
    change n = min i (mgZ (slT sl sn ++ slT ul un)).length at hn
    have g1 : i < (slT sl sn).length ∨ n < (mgZ (slT sl sn ++ slT ul un)).length := by
      rcases Bool.or_eq_true_iff.1 g1 with h | h
      · have h : (i : Int) < ((x.2.2.2.2.1 : Nat) : Int) := of_decide_eq_true h
        rw [hxn] at h; omega
      · have h : (n : Int) < ((z.2.2.2.2.1 : Nat) : Int) := of_decide_eq_true h
        rw [hzn] at h; omega
    have g2 : (i : Int) < ((x.2.2.2.2.1 : Nat) : Int) := of_decide_eq_true g2
    rw [hxn] at g2
    have g2 : i < (slT sl sn).length := by omega
    have hxi := hx.get (d := slot0) g2
    obtain ⟨hk1, hk2, hk3⟩ := mgZ_A (A := (slT sl sn)) (B := (slT ul un)) rise_slots rise_slots g2
    show 1 = (ixF (keyIs (x.2.2.2.1.getD i slot0).key) (z.2.2.2.1.take z.2.2.2.2.1) + 1).toNat - (ixF (keyIs (x.2.2.2.1.getD i slot0).key) (z.2.2.2.1.take z.2.2.2.2.1)).toNat
    rw [hxi, hz.tk]
    omega
  · rename_i hl z1 hz1 r1 hr1 b0 z2 hz2 r2 hr2 b1 m hm b2 cm x hx y hy z hz w hw g1 g2 b3 g3 g4 b4
    obtain ⟨hl1, hl2, hO1, hO2, hS1, hS2, hM, ha3, hb3, hz3⟩ := fx (sl := sl) (ul := ul) (sn := sn) (un := un) (z1 := z1) (z2 := z2) (r1 := r1) (r2 := r2) (m := m) hl hz1 hr1 hz2 hr2 hm
    have hx := gth_tk hS1 hx
    have hxn := hx.n
    have hy := gth_tk hS2 hy
    have hyn := hy.n
    have hz := gth_tk hM hz
    have hzn := hz.n
    obtain ⟨i, n⟩ := w
    obtain ⟨hi, hn⟩ := hw
    change i ≤ (slT sl sn).length + (mgZ (slT sl sn ++ slT ul un)).length at hi
    change n = min i (mgZ (slT sl sn ++ slT ul un)).length at hn
    have g1 : i < (slT sl sn).length ∨ n < (mgZ (slT sl sn ++ slT ul un)).length := by
      rcases Bool.or_eq_true_iff.1 g1 with h | h
      · have h : (i : Int) < ((x.2.2.2.2.1 : Nat) : Int) := of_decide_eq_true h
        rw [hxn] at h; omega
      · have h : (n : Int) < ((z.2.2.2.2.1 : Nat) : Int) := of_decide_eq_true h
        rw [hzn] at h; omega
    have g2 : (i : Int) < ((x.2.2.2.2.1 : Nat) : Int) := of_decide_eq_true g2
    rw [hxn] at g2
    have g2 : i < (slT sl sn).length := by omega
    have hxi := hx.get (d := slot0) g2
    obtain ⟨hk1, hk2, hk3⟩ := mgZ_A (A := (slT sl sn)) (B := (slT ul un)) rise_slots rise_slots g2
    have hge : 0 ≤ ixF (keyIs (x.2.2.2.1.getD i slot0).key) (y.2.2.2.1.take y.2.2.2.2.1) := of_decide_eq_true (and_l g3)
    rw [hxi, hy.tk] at hge
    obtain ⟨k0, hj1, hj2, hj3⟩ := ixF_hit (d := slot0) hge
    have es : srow z.2.2.2.2.2 (ixF (keyIs (x.2.2.2.1.getD i slot0).key) (z.2.2.2.1.take z.2.2.2.2.1)).toNat 0 = (ixF (keyIs ((slT sl sn).getD i slot0).key) (mgZ (slT sl sn ++ slT ul un))).toNat := by
      rw [hxi, hz.tk]
      have h8 : z.2.2.2.2.1 ≤ z.2.2.2.2.2 := hz.2.2.1
      exact srow_lt (by omega)
    refine ⟨?_, by simp, hz.on (by omega), rfl, ?_⟩
    · show srow z.2.2.2.2.2 (ixF (keyIs (x.2.2.2.1.getD i slot0).key) (z.2.2.2.1.take z.2.2.2.2.1)).toNat 0 < z.2.2.2.1.length
      rw [es]
      have := hz.le
      omega
    · show z.2.2.2.1.getD (srow z.2.2.2.2.2 (ixF (keyIs (x.2.2.2.1.getD i slot0).key) (z.2.2.2.1.take z.2.2.2.2.1)).toNat 0) slot0 = y.2.2.2.1.getD (ixF (keyIs (x.2.2.2.1.getD i slot0).key) (y.2.2.2.1.take y.2.2.2.2.1)).toNat slot0
      rw [es, hz.get hk2, hk3]
      unfold mgR
      have g3 : newer (y.2.2.2.1.getD (ixF (keyIs (x.2.2.2.1.getD i slot0).key) (y.2.2.2.1.take y.2.2.2.2.1)).toNat slot0).me (x.2.2.2.1.getD i slot0).me = true := and_r g3
      rw [hxi, hy.tk, hj2] at g3
      have g3 : newer (y.2.2.2.1.getD k0 slot0).me ((slT sl sn).getD i slot0).me = true := g3
      rw [hy.get hj1] at g3
      rw [hxi, hy.tk, hj2, if_pos ⟨Int.natCast_nonneg k0, by exact g3⟩]
      exact (hy.get hj1).symm
  iterate 10 (
    focus
    rename_i hl z1 hz1 r1 hr1 b0 z2 hz2 r2 hr2 b1 m hm b2 cm x hx y hy z hz w hw g1 g2 b3 g3 g4 b4 g5 g6
    obtain ⟨hl1, hl2, hO1, hO2, hS1, hS2, hM, ha3, hb3, hz3⟩ := fx (sl := sl) (ul := ul) (sn := sn) (un := un) (z1 := z1) (z2 := z2) (r1 := r1) (r2 := r2) (m := m) hl hz1 hr1 hz2 hr2 hm
    have hx := gth_tk hS1 hx
    have hxn := hx.n
    have hy := gth_tk hS2 hy
    have hyn := hy.n
    have hz := gth_tk hM hz
    have hzn := hz.n
    obtain ⟨i, n⟩ := w
    obtain ⟨hi, hn⟩ := hw
    change i ≤ (slT sl sn).length + (mgZ (slT sl sn ++ slT ul un)).length at hi
    change n = min i (mgZ (slT sl sn ++ slT ul un)).length at hn
    have g1 : i < (slT sl sn).length ∨ n < (mgZ (slT sl sn ++ slT ul un)).length := by
      rcases Bool.or_eq_true_iff.1 g1 with h | h
      · have h : (i : Int) < ((x.2.2.2.2.1 : Nat) : Int) := of_decide_eq_true h
        rw [hxn] at h; omega
      · have h : (n : Int) < ((z.2.2.2.2.1 : Nat) : Int) := of_decide_eq_true h
        rw [hzn] at h; omega
    have g2 : (i : Int) < ((x.2.2.2.2.1 : Nat) : Int) := of_decide_eq_true g2
    rw [hxn] at g2
    have g2 : i < (slT sl sn).length := by omega
    have hxi := hx.get (d := slot0) g2
    obtain ⟨hk1, hk2, hk3⟩ := mgZ_A (A := (slT sl sn)) (B := (slT ul un)) rise_slots rise_slots g2
    have g5 : (n : Int) < ((z.2.2.2.2.1 : Nat) : Int) := of_decide_eq_true g5
    rw [hzn] at g5
    have g5 : n < (mgZ (slT sl sn ++ slT ul un)).length := by omega
    have g6 : (0 : Int) < (n : Int) := of_decide_eq_true g6
    first
      | (exact inR64 (by show -9223372036854775808 ≤ (n : Int) - 1; omega) (by show (n : Int) - 1 ≤ 9223372036854775807; omega); done)
      | (exact hz.on (by omega); done)
      | (show (0 : Int) ≤ (n : Int) - 1; omega; done)
      | (show (n : Int) - 1 < ((z.2.2.2.2.1 : Nat) : Int); omega; done)
      | (have h9 := hz.le; show ((n : Int) - 1).toNat + 0 < z.2.2.2.1.length; omega; done)
      | (show (n : Int) < ((z.2.2.2.2.1 : Nat) : Int); rw [hzn]; omega; done)
      | (have h9 := hz.le; show n < z.2.2.2.1.length; omega; done))
  iterate 5 (
    focus
    rename_i hl z1 hz1 r1 hr1 b0 z2 hz2 r2 hr2 b1 m hm b2 cm x hx y hy z hz w hw g1 g2 b3 g3 g4 b4 g5 g6
    obtain ⟨hl1, hl2, hO1, hO2, hS1, hS2, hM, ha3, hb3, hz3⟩ := fx (sl := sl) (ul := ul) (sn := sn) (un := un) (z1 := z1) (z2 := z2) (r1 := r1) (r2 := r2) (m := m) hl hz1 hr1 hz2 hr2 hm
    have hx := gth_tk hS1 hx
    have hxn := hx.n
    have hy := gth_tk hS2 hy
    have hyn := hy.n
    have hz := gth_tk hM hz
    have hzn := hz.n
    obtain ⟨i, n⟩ := w
    obtain ⟨hi, hn⟩ := hw
    change i ≤ (slT sl sn).length + (mgZ (slT sl sn ++ slT ul un)).length at hi
    change n = min i (mgZ (slT sl sn ++ slT ul un)).length at hn
    have g1 : i < (slT sl sn).length ∨ n < (mgZ (slT sl sn ++ slT ul un)).length := by
      rcases Bool.or_eq_true_iff.1 g1 with h | h
      · have h : (i : Int) < ((x.2.2.2.2.1 : Nat) : Int) := of_decide_eq_true h
        rw [hxn] at h; omega
      · have h : (n : Int) < ((z.2.2.2.2.1 : Nat) : Int) := of_decide_eq_true h
        rw [hzn] at h; omega
    have g2 : (i : Int) < ((x.2.2.2.2.1 : Nat) : Int) := of_decide_eq_true g2
    rw [hxn] at g2
    have g2 : i < (slT sl sn).length := by omega
    have hxi := hx.get (d := slot0) g2
    obtain ⟨hk1, hk2, hk3⟩ := mgZ_A (A := (slT sl sn)) (B := (slT ul un)) rise_slots rise_slots g2
    have g5 : (n : Int) < ((z.2.2.2.2.1 : Nat) : Int) := of_decide_eq_true g5
    rw [hzn] at g5
    have g5 : n < (mgZ (slT sl sn ++ slT ul un)).length := by omega
    first
      | (exact hz.on (by omega); done)
      | (show (n : Int) < ((z.2.2.2.2.1 : Nat) : Int); rw [hzn]; omega; done)
      | (have h9 := hz.le; show n < z.2.2.2.1.length; omega; done)
      | (exact ⟨hx.le, by show x.2.2.2.2.1 < 4611686018427387904; omega, hx.off⟩; done))
  iterate 5 (
    focus
    rename_i hl z1 hz1 r1 hr1 b0 z2 hz2 r2 hr2 b1 m hm b2 cm x hx y hy z hz w hw g1 g2 b3 g3 g4 b4 g5 g6 g7
    obtain ⟨hl1, hl2, hO1, hO2, hS1, hS2, hM, ha3, hb3, hz3⟩ := fx (sl := sl) (ul := ul) (sn := sn) (un := un) (z1 := z1) (z2 := z2) (r1 := r1) (r2 := r2) (m := m) hl hz1 hr1 hz2 hr2 hm
    have hx := gth_tk hS1 hx
    have hxn := hx.n
    have hy := gth_tk hS2 hy
    have hyn := hy.n
    have hz := gth_tk hM hz
    have hzn := hz.n
    obtain ⟨i, n⟩ := w
    obtain ⟨hi, hn⟩ := hw
    change i ≤ (slT sl sn).length + (mgZ (slT sl sn ++ slT ul un)).length at hi
    change n = min i (mgZ (slT sl sn ++ slT ul un)).length at hn
    have g1 : i < (slT sl sn).length ∨ n < (mgZ (slT sl sn ++ slT ul un)).length := by
      rcases Bool.or_eq_true_iff.1 g1 with h | h
      · have h : (i : Int) < ((x.2.2.2.2.1 : Nat) : Int) := of_decide_eq_true h
        rw [hxn] at h; omega
      · have h : (n : Int) < ((z.2.2.2.2.1 : Nat) : Int) := of_decide_eq_true h
        rw [hzn] at h; omega
    have g2 : (i : Int) < ((x.2.2.2.2.1 : Nat) : Int) := of_decide_eq_true g2
    rw [hxn] at g2
    have g2 : i < (slT sl sn).length := by omega
    have hxi := hx.get (d := slot0) g2
    obtain ⟨hk1, hk2, hk3⟩ := mgZ_A (A := (slT sl sn)) (B := (slT ul un)) rise_slots rise_slots g2
    have g5 : (n : Int) < ((z.2.2.2.2.1 : Nat) : Int) := of_decide_eq_true g5
    rw [hzn] at g5
    have g5 : n < (mgZ (slT sl sn ++ slT ul un)).length := by omega
    first
      | (exact hz.on (by omega); done)
      | (show (n : Int) < ((z.2.2.2.2.1 : Nat) : Int); rw [hzn]; omega; done)
      | (have h9 := hz.le; show n < z.2.2.2.1.length; omega; done)
      | (exact ⟨hy.le, by show y.2.2.2.2.1 < 4611686018427387904; omega, hy.off⟩; done))
  · rename_i hl z1 hz1 r1 hr1 b0 z2 hz2 r2 hr2 b1 m hm b2 cm x hx y hy z hz w hw g1 g2 b3 g3 g4 b4 g5 g6
    obtain ⟨hl1, hl2, hO1, hO2, hS1, hS2, hM, ha3, hb3, hz3⟩ := fx (sl := sl) (ul := ul) (sn := sn) (un := un) (z1 := z1) (z2 := z2) (r1 := r1) (r2 := r2) (m := m) hl hz1 hr1 hz2 hr2 hm
    have hx := gth_tk hS1 hx
    have hxn := hx.n
    have hy := gth_tk hS2 hy
    have hyn := hy.n
    have hz := gth_tk hM hz
    have hzn := hz.n
    obtain ⟨i, n⟩ := w
    obtain ⟨hi, hn⟩ := hw
    change i ≤ (slT sl sn).length + (mgZ (slT sl sn ++ slT ul un)).length at hi
    change n = min i (mgZ (slT sl sn ++ slT ul un)).length at hn
    have g1 : i < (slT sl sn).length ∨ n < (mgZ (slT sl sn ++ slT ul un)).length := by
      rcases Bool.or_eq_true_iff.1 g1 with h | h
      · have h : (i : Int) < ((x.2.2.2.2.1 : Nat) : Int) := of_decide_eq_true h
        rw [hxn] at h; omega
      · have h : (n : Int) < ((z.2.2.2.2.1 : Nat) : Int) := of_decide_eq_true h
        rw [hzn] at h; omega
    have g2 : (i : Int) < ((x.2.2.2.2.1 : Nat) : Int) := of_decide_eq_true g2
    rw [hxn] at g2
    have g2 : i < (slT sl sn).length := by omega
    have hxi := hx.get (d := slot0) g2
    obtain ⟨hk1, hk2, hk3⟩ := mgZ_A (A := (slT sl sn)) (B := (slT ul un)) rise_slots rise_slots g2
    have g5 : (n : Int) < ((z.2.2.2.2.1 : Nat) : Int) := of_decide_eq_true g5
    rw [hzn] at g5
    have g5 : n < (mgZ (slT sl sn ++ slT ul un)).length := by omega
    exfalso
    rcases Bool.or_eq_true_iff.1 g6 with h | h
    · have h0 : (0 : Int) < (n : Int) := of_decide_eq_true (and_l h)
      have h9 : (z.2.2.2.1.getD n slot0).key ≤ (z.2.2.2.1.getD (((n : Int) - 1).toNat + 0) slot0).key := of_decide_eq_true (and_r h)
      have e : ((n : Int) - 1).toNat + 0 = n - 1 := by omega
      rw [e, hz.get (d := slot0) g5, hz.get (d := slot0) (by omega)] at h9
      have := mgZ_rise (by omega) g5
      omega
    · have h1 : ixF (keyIs (z.2.2.2.1.getD n slot0).key) (x.2.2.2.1.take x.2.2.2.2.1) < 0 := of_decide_eq_true (and_l h)
      have h2 : ixF (keyIs (z.2.2.2.1.getD n slot0).key) (y.2.2.2.1.take y.2.2.2.2.1) < 0 := of_decide_eq_true (and_r h)
      rw [hz.get (d := slot0) g5, hx.tk] at h1
      rw [hz.get (d := slot0) g5, hy.tk] at h2
      exact mgZ_from g5 ⟨h1, h2⟩
  iterate 2 (
    focus
    rename_i hl z1 hz1 r1 hr1 b0 z2 hz2 r2 hr2 b1 m hm b2 cm x hx y hy z hz w hw g1 g2 b3 g3 g4 b4 g5 g6
    obtain ⟨hl1, hl2, hO1, hO2, hS1, hS2, hM, ha3, hb3, hz3⟩ := fx (sl := sl) (ul := ul) (sn := sn) (un := un) (z1 := z1) (z2 := z2) (r1 := r1) (r2 := r2) (m := m) hl hz1 hr1 hz2 hr2 hm
    have hx := gth_tk hS1 hx
    have hxn := hx.n
    have hy := gth_tk hS2 hy
    have hyn := hy.n
    have hz := gth_tk hM hz
    have hzn := hz.n
    obtain ⟨i, n⟩ := w
    obtain ⟨hi, hn⟩ := hw
    change i ≤ (slT sl sn).length + (mgZ (slT sl sn ++ slT ul un)).length at hi
    change n = min i (mgZ (slT sl sn ++ slT ul un)).length at hn
    have g1 : i < (slT sl sn).length ∨ n < (mgZ (slT sl sn ++ slT ul un)).length := by
      rcases Bool.or_eq_true_iff.1 g1 with h | h
      · have h : (i : Int) < ((x.2.2.2.2.1 : Nat) : Int) := of_decide_eq_true h
        rw [hxn] at h; omega
      · have h : (n : Int) < ((z.2.2.2.2.1 : Nat) : Int) := of_decide_eq_true h
        rw [hzn] at h; omega
    have g5 : (n : Int) < ((z.2.2.2.2.1 : Nat) : Int) := of_decide_eq_true g5
    rw [hzn] at g5
    have g5 : n < (mgZ (slT sl sn ++ slT ul un)).length := by omega
    first
      | (exact inR64 (by show -9223372036854775808 ≤ (n : Int) + 1; omega) (by show (n : Int) + 1 ≤ 9223372036854775807; omega); done)
      | (exact inR64 (by show -9223372036854775808 ≤ (i : Int) + 1; omega) (by show (i : Int) + 1 ≤ 9223372036854775807; omega); done))
  · rename_i hl z1 hz1 r1 hr1 b0 z2 hz2 r2 hr2 b1 m hm b2 cm x hx y hy z hz w hw g1 g2 b3 g3 g4 b4 g5 g6
    obtain ⟨hl1, hl2, hO1, hO2, hS1, hS2, hM, ha3, hb3, hz3⟩ := fx (sl := sl) (ul := ul) (sn := sn) (un := un) (z1 := z1) (z2 := z2) (r1 := r1) (r2 := r2) (m := m) hl hz1 hr1 hz2 hr2 hm
    have hx := gth_tk hS1 hx
    have hxn := hx.n
    have hy := gth_tk hS2 hy
    have hyn := hy.n
    have hz := gth_tk hM hz
    have hzn := hz.n
    obtain ⟨i, n⟩ := w
    obtain ⟨hi, hn⟩ := hw
    change i ≤ (slT sl sn).length + (mgZ (slT sl sn ++ slT ul un)).length at hi
    change n = min i (mgZ (slT sl sn ++ slT ul un)).length at hn
    have g1 : i < (slT sl sn).length ∨ n < (mgZ (slT sl sn ++ slT ul un)).length := by
      rcases Bool.or_eq_true_iff.1 g1 with h | h
      · have h : (i : Int) < ((x.2.2.2.2.1 : Nat) : Int) := of_decide_eq_true h
        rw [hxn] at h; omega
      · have h : (n : Int) < ((z.2.2.2.2.1 : Nat) : Int) := of_decide_eq_true h
        rw [hzn] at h; omega
    have g2 : (i : Int) < ((x.2.2.2.2.1 : Nat) : Int) := of_decide_eq_true g2
    rw [hxn] at g2
    have g2 : i < (slT sl sn).length := by omega
    have hxi := hx.get (d := slot0) g2
    obtain ⟨hk1, hk2, hk3⟩ := mgZ_A (A := (slT sl sn)) (B := (slT ul un)) rise_slots rise_slots g2
    have g5 : (n : Int) < ((z.2.2.2.2.1 : Nat) : Int) := of_decide_eq_true g5
    rw [hzn] at g5
    have g5 : n < (mgZ (slT sl sn ++ slT ul un)).length := by omega
    refine Stands.one (i + 1, n + 1) ⟨⟨by show i + 1 ≤ (slT sl sn).length + (mgZ (slT sl sn ++ slT ul un)).length; omega, by show n + 1 = min (i + 1) (mgZ (slT sl sn ++ slT ul un)).length; omega⟩, by show (slT sl sn).length + (mgZ (slT sl sn ++ slT ul un)).length - (i + 1) < (slT sl sn).length + (mgZ (slT sl sn ++ slT ul un)).length - i; omega, ?_⟩
    ((conv => (arg 1; reduce)); with_reducible repeat' (first | exact Tr.yes_h | refine Tr.and_h ?_ ?_ | refine Tr.imp_h fun _ => ?_ | refine Tr.all_h fun _ => ?_ | refine Tr.lf_h ?_))
    all_goals (first | first | (show Region.lexB _ _ = true; kernel_rfl) | (show planned _ _ = true; kernel_rfl) | exact rfl | exact True.intro | (first | exact key3 | exact zeroB | exact zeroR | exact zeroS | exact ⟨key3, zeroB⟩ | exact ⟨key3, zeroR⟩ | exact ⟨key3, zeroS⟩) | ((try dsimp only [imp, C0, cG, cInt, cPl, cSlot, cPg, gwCodec] at *); (try refine inR64 ?_ ?_) <;> (try simp only [List.length_set, List.length_append, List.length_take, List.length_drop]) <;> omega))
  · rename_i hl z1 hz1 r1 hr1 b0 z2 hz2 r2 hr2 b1 m hm b2 cm x hx y hy z hz w hw g1 g2 b3 g3 g4 b4 g5
    obtain ⟨hl1, hl2, hO1, hO2, hS1, hS2, hM, ha3, hb3, hz3⟩ := fx (sl := sl) (ul := ul) (sn := sn) (un := un) (z1 := z1) (z2 := z2) (r1 := r1) (r2 := r2) (m := m) hl hz1 hr1 hz2 hr2 hm
    have hx := gth_tk hS1 hx
    have hxn := hx.n
    have hy := gth_tk hS2 hy
    have hyn := hy.n
    have hz := gth_tk hM hz
    have hzn := hz.n
    obtain ⟨i, n⟩ := w
    obtain ⟨hi, hn⟩ := hw
    change i ≤ (slT sl sn).length + (mgZ (slT sl sn ++ slT ul un)).length at hi
    change n = min i (mgZ (slT sl sn ++ slT ul un)).length at hn
    have g1 : i < (slT sl sn).length ∨ n < (mgZ (slT sl sn ++ slT ul un)).length := by
      rcases Bool.or_eq_true_iff.1 g1 with h | h
      · have h : (i : Int) < ((x.2.2.2.2.1 : Nat) : Int) := of_decide_eq_true h
        rw [hxn] at h; omega
      · have h : (n : Int) < ((z.2.2.2.2.1 : Nat) : Int) := of_decide_eq_true h
        rw [hzn] at h; omega
    exact inR64 (by show -9223372036854775808 ≤ (i : Int) + 1; omega) (by show (i : Int) + 1 ≤ 9223372036854775807; omega)
  · rename_i hl z1 hz1 r1 hr1 b0 z2 hz2 r2 hr2 b1 m hm b2 cm x hx y hy z hz w hw g1 g2 b3 g3 g4 b4 g5
    obtain ⟨hl1, hl2, hO1, hO2, hS1, hS2, hM, ha3, hb3, hz3⟩ := fx (sl := sl) (ul := ul) (sn := sn) (un := un) (z1 := z1) (z2 := z2) (r1 := r1) (r2 := r2) (m := m) hl hz1 hr1 hz2 hr2 hm
    have hx := gth_tk hS1 hx
    have hxn := hx.n
    have hy := gth_tk hS2 hy
    have hyn := hy.n
    have hz := gth_tk hM hz
    have hzn := hz.n
    obtain ⟨i, n⟩ := w
    obtain ⟨hi, hn⟩ := hw
    change i ≤ (slT sl sn).length + (mgZ (slT sl sn ++ slT ul un)).length at hi
    change n = min i (mgZ (slT sl sn ++ slT ul un)).length at hn
    have g1 : i < (slT sl sn).length ∨ n < (mgZ (slT sl sn ++ slT ul un)).length := by
      rcases Bool.or_eq_true_iff.1 g1 with h | h
      · have h : (i : Int) < ((x.2.2.2.2.1 : Nat) : Int) := of_decide_eq_true h
        rw [hxn] at h; omega
      · have h : (n : Int) < ((z.2.2.2.2.1 : Nat) : Int) := of_decide_eq_true h
        rw [hzn] at h; omega
    have g2 : (i : Int) < ((x.2.2.2.2.1 : Nat) : Int) := of_decide_eq_true g2
    rw [hxn] at g2
    have g2 : i < (slT sl sn).length := by omega
    have hxi := hx.get (d := slot0) g2
    obtain ⟨hk1, hk2, hk3⟩ := mgZ_A (A := (slT sl sn)) (B := (slT ul un)) rise_slots rise_slots g2
    have g5 : ¬ (n : Int) < ((z.2.2.2.2.1 : Nat) : Int) := of_decide_eq_false g5
    rw [hzn] at g5
    refine Stands.one (i + 1, n) ⟨⟨by show i + 1 ≤ (slT sl sn).length + (mgZ (slT sl sn ++ slT ul un)).length; omega, by show n = min (i + 1) (mgZ (slT sl sn ++ slT ul un)).length; omega⟩, by show (slT sl sn).length + (mgZ (slT sl sn ++ slT ul un)).length - (i + 1) < (slT sl sn).length + (mgZ (slT sl sn ++ slT ul un)).length - i; omega, ?_⟩
    ((conv => (arg 1; reduce)); with_reducible repeat' (first | exact Tr.yes_h | refine Tr.and_h ?_ ?_ | refine Tr.imp_h fun _ => ?_ | refine Tr.all_h fun _ => ?_ | refine Tr.lf_h ?_))
    all_goals (first | first | (show Region.lexB _ _ = true; kernel_rfl) | (show planned _ _ = true; kernel_rfl) | exact rfl | exact True.intro | (first | exact key3 | exact zeroB | exact zeroR | exact zeroS | exact ⟨key3, zeroB⟩ | exact ⟨key3, zeroR⟩ | exact ⟨key3, zeroS⟩) | ((try dsimp only [imp, C0, cG, cInt, cPl, cSlot, cPg, gwCodec] at *); (try refine inR64 ?_ ?_) <;> (try simp only [List.length_set, List.length_append, List.length_take, List.length_drop]) <;> omega))
  iterate 5 (
    focus
    rename_i hl z1 hz1 r1 hr1 b0 z2 hz2 r2 hr2 b1 m hm b2 cm x hx y hy z hz w hw g1 g2 b3 g3
    obtain ⟨hl1, hl2, hO1, hO2, hS1, hS2, hM, ha3, hb3, hz3⟩ := fx (sl := sl) (ul := ul) (sn := sn) (un := un) (z1 := z1) (z2 := z2) (r1 := r1) (r2 := r2) (m := m) hl hz1 hr1 hz2 hr2 hm
    have hx := gth_tk hS1 hx
    have hxn := hx.n
    have hy := gth_tk hS2 hy
    have hyn := hy.n
    have hz := gth_tk hM hz
    have hzn := hz.n
    obtain ⟨i, n⟩ := w
    obtain ⟨hi, hn⟩ := hw
    change i ≤ (slT sl sn).length + (mgZ (slT sl sn ++ slT ul un)).length at hi
    change n = min i (mgZ (slT sl sn ++ slT ul un)).length at hn
    have g1 : i < (slT sl sn).length ∨ n < (mgZ (slT sl sn ++ slT ul un)).length := by
      rcases Bool.or_eq_true_iff.1 g1 with h | h
      · have h : (i : Int) < ((x.2.2.2.2.1 : Nat) : Int) := of_decide_eq_true h
        rw [hxn] at h; omega
      · have h : (n : Int) < ((z.2.2.2.2.1 : Nat) : Int) := of_decide_eq_true h
        rw [hzn] at h; omega
    have g2 : (i : Int) < ((x.2.2.2.2.1 : Nat) : Int) := of_decide_eq_true g2
    rw [hxn] at g2
    have g2 : i < (slT sl sn).length := by omega
    have hxi := hx.get (d := slot0) g2
    obtain ⟨hk1, hk2, hk3⟩ := mgZ_A (A := (slT sl sn)) (B := (slT ul un)) rise_slots rise_slots g2
    first
      | (exact hx.on (by omega); done)
      | (show (i : Int) < ((x.2.2.2.2.1 : Nat) : Int); rw [hxn]; omega; done)
      | (have h9 := hx.le; show i < x.2.2.2.1.length; omega; done)
      | (exact ⟨hz.le, by show z.2.2.2.2.1 < 4611686018427387904; omega, hz.off⟩; done))
  iterate 5 (
    focus
    rename_i hl z1 hz1 r1 hr1 b0 z2 hz2 r2 hr2 b1 m hm b2 cm x hx y hy z hz w hw g1 g2 b3 g3 g4
    obtain ⟨hl1, hl2, hO1, hO2, hS1, hS2, hM, ha3, hb3, hz3⟩ := fx (sl := sl) (ul := ul) (sn := sn) (un := un) (z1 := z1) (z2 := z2) (r1 := r1) (r2 := r2) (m := m) hl hz1 hr1 hz2 hr2 hm
    have hx := gth_tk hS1 hx
    have hxn := hx.n
    have hy := gth_tk hS2 hy
    have hyn := hy.n
    have hz := gth_tk hM hz
    have hzn := hz.n
    obtain ⟨i, n⟩ := w
    obtain ⟨hi, hn⟩ := hw
    change i ≤ (slT sl sn).length + (mgZ (slT sl sn ++ slT ul un)).length at hi
    change n = min i (mgZ (slT sl sn ++ slT ul un)).length at hn
    have g1 : i < (slT sl sn).length ∨ n < (mgZ (slT sl sn ++ slT ul un)).length := by
      rcases Bool.or_eq_true_iff.1 g1 with h | h
      · have h : (i : Int) < ((x.2.2.2.2.1 : Nat) : Int) := of_decide_eq_true h
        rw [hxn] at h; omega
      · have h : (n : Int) < ((z.2.2.2.2.1 : Nat) : Int) := of_decide_eq_true h
        rw [hzn] at h; omega
    have g2 : (i : Int) < ((x.2.2.2.2.1 : Nat) : Int) := of_decide_eq_true g2
    rw [hxn] at g2
    have g2 : i < (slT sl sn).length := by omega
    have hxi := hx.get (d := slot0) g2
    obtain ⟨hk1, hk2, hk3⟩ := mgZ_A (A := (slT sl sn)) (B := (slT ul un)) rise_slots rise_slots g2
    first
      | (show inR .i64 (ixF (keyIs (x.2.2.2.1.getD i slot0).key) (z.2.2.2.1.take z.2.2.2.2.1) + 1); rw [hxi, hz.tk]; exact inR64 (by omega) (by omega); done)
      | (exact hz.off; done)
      | (show 0 ≤ ixF (keyIs (x.2.2.2.1.getD i slot0).key) (z.2.2.2.1.take z.2.2.2.2.1) + 1; rw [hxi, hz.tk]; omega; done)
      | (have h8 : z.2.2.2.2.1 ≤ z.2.2.2.2.2 := hz.2.2.1; show ixF (keyIs (x.2.2.2.1.getD i slot0).key) (z.2.2.2.1.take z.2.2.2.2.1) + 1 ≤ ((z.2.2.2.2.2 : Nat) : Int); rw [hxi, hz.tk]; omega; done)
      | (show 0 ≤ ixF (keyIs (x.2.2.2.1.getD i slot0).key) (z.2.2.2.1.take z.2.2.2.2.1); rw [hxi, hz.tk]; omega; done))
  · rename_i hl z1 hz1 r1 hr1 b0 z2 hz2 r2 hr2 b1 m hm b2 cm x hx y hy z hz w hw g1 g2 b3 g3 g4
    obtain ⟨hl1, hl2, hO1, hO2, hS1, hS2, hM, ha3, hb3, hz3⟩ := fx (sl := sl) (ul := ul) (sn := sn) (un := un) (z1 := z1) (z2 := z2) (r1 := r1) (r2 := r2) (m := m) hl hz1 hr1 hz2 hr2 hm
    have hx := gth_tk hS1 hx
    have hxn := hx.n
    have hy := gth_tk hS2 hy
    have hyn := hy.n
    have hz := gth_tk hM hz
    have hzn := hz.n
    obtain ⟨i, n⟩ := w
    obtain ⟨hi, hn⟩ := hw
    change i ≤ (slT sl sn).length + (mgZ (slT sl sn ++ slT ul un)).length at hi
    change n = min i (mgZ (slT sl sn ++ slT ul un)).length at hn
    have g1 : i < (slT sl sn).length ∨ n < (mgZ (slT sl sn ++ slT ul un)).length := by
      rcases Bool.or_eq_true_iff.1 g1 with h | h
      · have h : (i : Int) < ((x.2.2.2.2.1 : Nat) : Int) := of_decide_eq_true h
        rw [hxn] at h; omega
      · have h : (n : Int) < ((z.2.2.2.2.1 : Nat) : Int) := of_decide_eq_true h
        rw [hzn] at h; omega
    have g2 : (i : Int) < ((x.2.2.2.2.1 : Nat) : Int) := of_decide_eq_true g2
    rw [hxn] at g2
    have g2 : i < (slT sl sn).length := by omega
    have hxi := hx.get (d := slot0) g2
    obtain ⟨hk1, hk2, hk3⟩ := mgZ_A (A := (slT sl sn)) (B := (slT ul un)) rise_slots rise_slots g2
    exfalso
    have g4 : ixF (keyIs (x.2.2.2.1.getD i slot0).key) (z.2.2.2.1.take z.2.2.2.2.1) < 0 := of_decide_eq_true g4
    rw [hxi, hz.tk] at g4
    omega
  · rename_i hl z1 hz1 r1 hr1 b0 z2 hz2 r2 hr2 b1 m hm b2 cm x hx y hy z hz w hw g1 g2 b3 g3 g4 b4
    obtain ⟨hl1, hl2, hO1, hO2, hS1, hS2, hM, ha3, hb3, hz3⟩ := fx (sl := sl) (ul := ul) (sn := sn) (un := un) (z1 := z1) (z2 := z2) (r1 := r1) (r2 := r2) (m := m) hl hz1 hr1 hz2 hr2 hm
    have hx := gth_tk hS1 hx
    have hxn := hx.n
    have hy := gth_tk hS2 hy
    have hyn := hy.n
    have hz := gth_tk hM hz
    have hzn := hz.n
    obtain ⟨i, n⟩ := w
    obtain ⟨hi, hn⟩ := hw
    change i ≤ (slT sl sn).length + (mgZ (slT sl sn ++ slT ul un)).length at hi
    change n = min i (mgZ (slT sl sn ++ slT ul un)).length at hn
    have g1 : i < (slT sl sn).length ∨ n < (mgZ (slT sl sn ++ slT ul un)).length := by
      rcases Bool.or_eq_true_iff.1 g1 with h | h
      · have h : (i : Int) < ((x.2.2.2.2.1 : Nat) : Int) := of_decide_eq_true h
        rw [hxn] at h; omega
      · have h : (n : Int) < ((z.2.2.2.2.1 : Nat) : Int) := of_decide_eq_true h
        rw [hzn] at h; omega
    have g2 : (i : Int) < ((x.2.2.2.2.1 : Nat) : Int) := of_decide_eq_true g2
    rw [hxn] at g2
    have g2 : i < (slT sl sn).length := by omega
    have hxi := hx.get (d := slot0) g2
    obtain ⟨hk1, hk2, hk3⟩ := mgZ_A (A := (slT sl sn)) (B := (slT ul un)) rise_slots rise_slots g2
    show 1 = (ixF (keyIs (x.2.2.2.1.getD i slot0).key) (z.2.2.2.1.take z.2.2.2.2.1) + 1).toNat - (ixF (keyIs (x.2.2.2.1.getD i slot0).key) (z.2.2.2.1.take z.2.2.2.2.1)).toNat
    rw [hxi, hz.tk]
    omega
  · rename_i hl z1 hz1 r1 hr1 b0 z2 hz2 r2 hr2 b1 m hm b2 cm x hx y hy z hz w hw g1 g2 b3 g3 g4 b4
    obtain ⟨hl1, hl2, hO1, hO2, hS1, hS2, hM, ha3, hb3, hz3⟩ := fx (sl := sl) (ul := ul) (sn := sn) (un := un) (z1 := z1) (z2 := z2) (r1 := r1) (r2 := r2) (m := m) hl hz1 hr1 hz2 hr2 hm
    have hx := gth_tk hS1 hx
    have hxn := hx.n
    have hy := gth_tk hS2 hy
    have hyn := hy.n
    have hz := gth_tk hM hz
    have hzn := hz.n
    obtain ⟨i, n⟩ := w
    obtain ⟨hi, hn⟩ := hw
    change i ≤ (slT sl sn).length + (mgZ (slT sl sn ++ slT ul un)).length at hi
    change n = min i (mgZ (slT sl sn ++ slT ul un)).length at hn
    have g1 : i < (slT sl sn).length ∨ n < (mgZ (slT sl sn ++ slT ul un)).length := by
      rcases Bool.or_eq_true_iff.1 g1 with h | h
      · have h : (i : Int) < ((x.2.2.2.2.1 : Nat) : Int) := of_decide_eq_true h
        rw [hxn] at h; omega
      · have h : (n : Int) < ((z.2.2.2.2.1 : Nat) : Int) := of_decide_eq_true h
        rw [hzn] at h; omega
    have g2 : (i : Int) < ((x.2.2.2.2.1 : Nat) : Int) := of_decide_eq_true g2
    rw [hxn] at g2
    have g2 : i < (slT sl sn).length := by omega
    have hxi := hx.get (d := slot0) g2
    obtain ⟨hk1, hk2, hk3⟩ := mgZ_A (A := (slT sl sn)) (B := (slT ul un)) rise_slots rise_slots g2
    have es : srow z.2.2.2.2.2 (ixF (keyIs (x.2.2.2.1.getD i slot0).key) (z.2.2.2.1.take z.2.2.2.2.1)).toNat 0 = (ixF (keyIs ((slT sl sn).getD i slot0).key) (mgZ (slT sl sn ++ slT ul un))).toNat := by
      rw [hxi, hz.tk]
      have h8 : z.2.2.2.2.1 ≤ z.2.2.2.2.2 := hz.2.2.1
      exact srow_lt (by omega)
    refine ⟨?_, by simp, hz.on (by omega), rfl, ?_⟩
    · show srow z.2.2.2.2.2 (ixF (keyIs (x.2.2.2.1.getD i slot0).key) (z.2.2.2.1.take z.2.2.2.2.1)).toNat 0 < z.2.2.2.1.length
      rw [es]
      have := hz.le
      omega
    · show z.2.2.2.1.getD (srow z.2.2.2.2.2 (ixF (keyIs (x.2.2.2.1.getD i slot0).key) (z.2.2.2.1.take z.2.2.2.2.1)).toNat 0) slot0 = x.2.2.2.1.getD i slot0
      rw [es, hz.get hk2, hk3]
      unfold mgR
      rw [hxi, if_neg]
      rintro ⟨h8, h9⟩
      obtain ⟨k0, hj1, hj2, hj3⟩ := ixF_hit (d := slot0) h8
      rw [hj2] at h9
      have h9 : newer ((slT ul un).getD k0 slot0).me ((slT sl sn).getD i slot0).me = true := h9
      have g3 : (decide (0 ≤ ixF (keyIs (x.2.2.2.1.getD i slot0).key) (y.2.2.2.1.take y.2.2.2.2.1)) && newer (y.2.2.2.1.getD (ixF (keyIs (x.2.2.2.1.getD i slot0).key) (y.2.2.2.1.take y.2.2.2.2.1)).toNat slot0).me (x.2.2.2.1.getD i slot0).me) = false := g3
      rw [hxi, hy.tk, hj2, decide_eq_true (Int.natCast_nonneg k0)] at g3
      have g3 : newer (y.2.2.2.1.getD k0 slot0).me ((slT sl sn).getD i slot0).me = false := g3
      rw [hy.get hj1, h9] at g3
      cases g3
  iterate 10 (
    focus
    rename_i hl z1 hz1 r1 hr1 b0 z2 hz2 r2 hr2 b1 m hm b2 cm x hx y hy z hz w hw g1 g2 b3 g3 g4 b4 g5 g6
    obtain ⟨hl1, hl2, hO1, hO2, hS1, hS2, hM, ha3, hb3, hz3⟩ := fx (sl := sl) (ul := ul) (sn := sn) (un := un) (z1 := z1) (z2 := z2) (r1 := r1) (r2 := r2) (m := m) hl hz1 hr1 hz2 hr2 hm
    have hx := gth_tk hS1 hx
    have hxn := hx.n
    have hy := gth_tk hS2 hy
    have hyn := hy.n
    have hz := gth_tk hM hz
    have hzn := hz.n
    obtain ⟨i, n⟩ := w
    obtain ⟨hi, hn⟩ := hw
    change i ≤ (slT sl sn).length + (mgZ (slT sl sn ++ slT ul un)).length at hi
    change n = min i (mgZ (slT sl sn ++ slT ul un)).length at hn
    have g1 : i < (slT sl sn).length ∨ n < (mgZ (slT sl sn ++ slT ul un)).length := by
      rcases Bool.or_eq_true_iff.1 g1 with h | h
      · have h : (i : Int) < ((x.2.2.2.2.1 : Nat) : Int) := of_decide_eq_true h
        rw [hxn] at h; omega
      · have h : (n : Int) < ((z.2.2.2.2.1 : Nat) : Int) := of_decide_eq_true h
        rw [hzn] at h; omega
    have g2 : (i : Int) < ((x.2.2.2.2.1 : Nat) : Int) := of_decide_eq_true g2
    rw [hxn] at g2
    have g2 : i < (slT sl sn).length := by omega
    have hxi := hx.get (d := slot0) g2
    obtain ⟨hk1, hk2, hk3⟩ := mgZ_A (A := (slT sl sn)) (B := (slT ul un)) rise_slots rise_slots g2
    have g5 : (n : Int) < ((z.2.2.2.2.1 : Nat) : Int) := of_decide_eq_true g5
    rw [hzn] at g5
    have g5 : n < (mgZ (slT sl sn ++ slT ul un)).length := by omega
    have g6 : (0 : Int) < (n : Int) := of_decide_eq_true g6
    first
      | (exact inR64 (by show -9223372036854775808 ≤ (n : Int) - 1; omega) (by show (n : Int) - 1 ≤ 9223372036854775807; omega); done)
      | (exact hz.on (by omega); done)
      | (show (0 : Int) ≤ (n : Int) - 1; omega; done)
      | (show (n : Int) - 1 < ((z.2.2.2.2.1 : Nat) : Int); omega; done)
      | (have h9 := hz.le; show ((n : Int) - 1).toNat + 0 < z.2.2.2.1.length; omega; done)
      | (show (n : Int) < ((z.2.2.2.2.1 : Nat) : Int); rw [hzn]; omega; done)
      | (have h9 := hz.le; show n < z.2.2.2.1.length; omega; done))
  iterate 5 (
    focus
    rename_i hl z1 hz1 r1 hr1 b0 z2 hz2 r2 hr2 b1 m hm b2 cm x hx y hy z hz w hw g1 g2 b3 g3 g4 b4 g5 g6
    obtain ⟨hl1, hl2, hO1, hO2, hS1, hS2, hM, ha3, hb3, hz3⟩ := fx (sl := sl) (ul := ul) (sn := sn) (un := un) (z1 := z1) (z2 := z2) (r1 := r1) (r2 := r2) (m := m) hl hz1 hr1 hz2 hr2 hm
    have hx := gth_tk hS1 hx
    have hxn := hx.n
    have hy := gth_tk hS2 hy
    have hyn := hy.n
    have hz := gth_tk hM hz
    have hzn := hz.n
    obtain ⟨i, n⟩ := w
    obtain ⟨hi, hn⟩ := hw
    change i ≤ (slT sl sn).length + (mgZ (slT sl sn ++ slT ul un)).length at hi
    change n = min i (mgZ (slT sl sn ++ slT ul un)).length at hn
    have g1 : i < (slT sl sn).length ∨ n < (mgZ (slT sl sn ++ slT ul un)).length := by
      rcases Bool.or_eq_true_iff.1 g1 with h | h
      · have h : (i : Int) < ((x.2.2.2.2.1 : Nat) : Int) := of_decide_eq_true h
        rw [hxn] at h; omega
      · have h : (n : Int) < ((z.2.2.2.2.1 : Nat) : Int) := of_decide_eq_true h
        rw [hzn] at h; omega
    have g2 : (i : Int) < ((x.2.2.2.2.1 : Nat) : Int) := of_decide_eq_true g2
    rw [hxn] at g2
    have g2 : i < (slT sl sn).length := by omega
    have hxi := hx.get (d := slot0) g2
    obtain ⟨hk1, hk2, hk3⟩ := mgZ_A (A := (slT sl sn)) (B := (slT ul un)) rise_slots rise_slots g2
    have g5 : (n : Int) < ((z.2.2.2.2.1 : Nat) : Int) := of_decide_eq_true g5
    rw [hzn] at g5
    have g5 : n < (mgZ (slT sl sn ++ slT ul un)).length := by omega
    first
      | (exact hz.on (by omega); done)
      | (show (n : Int) < ((z.2.2.2.2.1 : Nat) : Int); rw [hzn]; omega; done)
      | (have h9 := hz.le; show n < z.2.2.2.1.length; omega; done)
      | (exact ⟨hx.le, by show x.2.2.2.2.1 < 4611686018427387904; omega, hx.off⟩; done))
  iterate 5 (
    focus
    rename_i hl z1 hz1 r1 hr1 b0 z2 hz2 r2 hr2 b1 m hm b2 cm x hx y hy z hz w hw g1 g2 b3 g3 g4 b4 g5 g6 g7
    obtain ⟨hl1, hl2, hO1, hO2, hS1, hS2, hM, ha3, hb3, hz3⟩ := fx (sl := sl) (ul := ul) (sn := sn) (un := un) (z1 := z1) (z2 := z2) (r1 := r1) (r2 := r2) (m := m) hl hz1 hr1 hz2 hr2 hm
    have hx := gth_tk hS1 hx
    have hxn := hx.n
    have hy := gth_tk hS2 hy
    have hyn := hy.n
    have hz := gth_tk hM hz
    have hzn := hz.n
    obtain ⟨i, n⟩ := w
    obtain ⟨hi, hn⟩ := hw
    change i ≤ (slT sl sn).length + (mgZ (slT sl sn ++ slT ul un)).length at hi
    change n = min i (mgZ (slT sl sn ++ slT ul un)).length at hn
    have g1 : i < (slT sl sn).length ∨ n < (mgZ (slT sl sn ++ slT ul un)).length := by
      rcases Bool.or_eq_true_iff.1 g1 with h | h
      · have h : (i : Int) < ((x.2.2.2.2.1 : Nat) : Int) := of_decide_eq_true h
        rw [hxn] at h; omega
      · have h : (n : Int) < ((z.2.2.2.2.1 : Nat) : Int) := of_decide_eq_true h
        rw [hzn] at h; omega
    have g2 : (i : Int) < ((x.2.2.2.2.1 : Nat) : Int) := of_decide_eq_true g2
    rw [hxn] at g2
    have g2 : i < (slT sl sn).length := by omega
    have hxi := hx.get (d := slot0) g2
    obtain ⟨hk1, hk2, hk3⟩ := mgZ_A (A := (slT sl sn)) (B := (slT ul un)) rise_slots rise_slots g2
    have g5 : (n : Int) < ((z.2.2.2.2.1 : Nat) : Int) := of_decide_eq_true g5
    rw [hzn] at g5
    have g5 : n < (mgZ (slT sl sn ++ slT ul un)).length := by omega
    first
      | (exact hz.on (by omega); done)
      | (show (n : Int) < ((z.2.2.2.2.1 : Nat) : Int); rw [hzn]; omega; done)
      | (have h9 := hz.le; show n < z.2.2.2.1.length; omega; done)
      | (exact ⟨hy.le, by show y.2.2.2.2.1 < 4611686018427387904; omega, hy.off⟩; done))
  · rename_i hl z1 hz1 r1 hr1 b0 z2 hz2 r2 hr2 b1 m hm b2 cm x hx y hy z hz w hw g1 g2 b3 g3 g4 b4 g5 g6
    obtain ⟨hl1, hl2, hO1, hO2, hS1, hS2, hM, ha3, hb3, hz3⟩ := fx (sl := sl) (ul := ul) (sn := sn) (un := un) (z1 := z1) (z2 := z2) (r1 := r1) (r2 := r2) (m := m) hl hz1 hr1 hz2 hr2 hm
    have hx := gth_tk hS1 hx
    have hxn := hx.n
    have hy := gth_tk hS2 hy
    have hyn := hy.n
    have hz := gth_tk hM hz
    have hzn := hz.n
    obtain ⟨i, n⟩ := w
    obtain ⟨hi, hn⟩ := hw
    change i ≤ (slT sl sn).length + (mgZ (slT sl sn ++ slT ul un)).length at hi
    change n = min i (mgZ (slT sl sn ++ slT ul un)).length at hn
    have g1 : i < (slT sl sn).length ∨ n < (mgZ (slT sl sn ++ slT ul un)).length := by
      rcases Bool.or_eq_true_iff.1 g1 with h | h
      · have h : (i : Int) < ((x.2.2.2.2.1 : Nat) : Int) := of_decide_eq_true h
        rw [hxn] at h; omega
      · have h : (n : Int) < ((z.2.2.2.2.1 : Nat) : Int) := of_decide_eq_true h
        rw [hzn] at h; omega
    have g2 : (i : Int) < ((x.2.2.2.2.1 : Nat) : Int) := of_decide_eq_true g2
    rw [hxn] at g2
    have g2 : i < (slT sl sn).length := by omega
    have hxi := hx.get (d := slot0) g2
    obtain ⟨hk1, hk2, hk3⟩ := mgZ_A (A := (slT sl sn)) (B := (slT ul un)) rise_slots rise_slots g2
    have g5 : (n : Int) < ((z.2.2.2.2.1 : Nat) : Int) := of_decide_eq_true g5
    rw [hzn] at g5
    have g5 : n < (mgZ (slT sl sn ++ slT ul un)).length := by omega
    exfalso
    rcases Bool.or_eq_true_iff.1 g6 with h | h
    · have h0 : (0 : Int) < (n : Int) := of_decide_eq_true (and_l h)
      have h9 : (z.2.2.2.1.getD n slot0).key ≤ (z.2.2.2.1.getD (((n : Int) - 1).toNat + 0) slot0).key := of_decide_eq_true (and_r h)
      have e : ((n : Int) - 1).toNat + 0 = n - 1 := by omega
      rw [e, hz.get (d := slot0) g5, hz.get (d := slot0) (by omega)] at h9
      have := mgZ_rise (by omega) g5
      omega
    · have h1 : ixF (keyIs (z.2.2.2.1.getD n slot0).key) (x.2.2.2.1.take x.2.2.2.2.1) < 0 := of_decide_eq_true (and_l h)
      have h2 : ixF (keyIs (z.2.2.2.1.getD n slot0).key) (y.2.2.2.1.take y.2.2.2.2.1) < 0 := of_decide_eq_true (and_r h)
      rw [hz.get (d := slot0) g5, hx.tk] at h1
      rw [hz.get (d := slot0) g5, hy.tk] at h2
      exact mgZ_from g5 ⟨h1, h2⟩
  iterate 2 (
    focus
    rename_i hl z1 hz1 r1 hr1 b0 z2 hz2 r2 hr2 b1 m hm b2 cm x hx y hy z hz w hw g1 g2 b3 g3 g4 b4 g5 g6
    obtain ⟨hl1, hl2, hO1, hO2, hS1, hS2, hM, ha3, hb3, hz3⟩ := fx (sl := sl) (ul := ul) (sn := sn) (un := un) (z1 := z1) (z2 := z2) (r1 := r1) (r2 := r2) (m := m) hl hz1 hr1 hz2 hr2 hm
    have hx := gth_tk hS1 hx
    have hxn := hx.n
    have hy := gth_tk hS2 hy
    have hyn := hy.n
    have hz := gth_tk hM hz
    have hzn := hz.n
    obtain ⟨i, n⟩ := w
    obtain ⟨hi, hn⟩ := hw
    change i ≤ (slT sl sn).length + (mgZ (slT sl sn ++ slT ul un)).length at hi
    change n = min i (mgZ (slT sl sn ++ slT ul un)).length at hn
    have g1 : i < (slT sl sn).length ∨ n < (mgZ (slT sl sn ++ slT ul un)).length := by
      rcases Bool.or_eq_true_iff.1 g1 with h | h
      · have h : (i : Int) < ((x.2.2.2.2.1 : Nat) : Int) := of_decide_eq_true h
        rw [hxn] at h; omega
      · have h : (n : Int) < ((z.2.2.2.2.1 : Nat) : Int) := of_decide_eq_true h
        rw [hzn] at h; omega
    have g5 : (n : Int) < ((z.2.2.2.2.1 : Nat) : Int) := of_decide_eq_true g5
    rw [hzn] at g5
    have g5 : n < (mgZ (slT sl sn ++ slT ul un)).length := by omega
    first
      | (exact inR64 (by show -9223372036854775808 ≤ (n : Int) + 1; omega) (by show (n : Int) + 1 ≤ 9223372036854775807; omega); done)
      | (exact inR64 (by show -9223372036854775808 ≤ (i : Int) + 1; omega) (by show (i : Int) + 1 ≤ 9223372036854775807; omega); done))
  · rename_i hl z1 hz1 r1 hr1 b0 z2 hz2 r2 hr2 b1 m hm b2 cm x hx y hy z hz w hw g1 g2 b3 g3 g4 b4 g5 g6
    obtain ⟨hl1, hl2, hO1, hO2, hS1, hS2, hM, ha3, hb3, hz3⟩ := fx (sl := sl) (ul := ul) (sn := sn) (un := un) (z1 := z1) (z2 := z2) (r1 := r1) (r2 := r2) (m := m) hl hz1 hr1 hz2 hr2 hm
    have hx := gth_tk hS1 hx
    have hxn := hx.n
    have hy := gth_tk hS2 hy
    have hyn := hy.n
    have hz := gth_tk hM hz
    have hzn := hz.n
    obtain ⟨i, n⟩ := w
    obtain ⟨hi, hn⟩ := hw
    change i ≤ (slT sl sn).length + (mgZ (slT sl sn ++ slT ul un)).length at hi
    change n = min i (mgZ (slT sl sn ++ slT ul un)).length at hn
    have g1 : i < (slT sl sn).length ∨ n < (mgZ (slT sl sn ++ slT ul un)).length := by
      rcases Bool.or_eq_true_iff.1 g1 with h | h
      · have h : (i : Int) < ((x.2.2.2.2.1 : Nat) : Int) := of_decide_eq_true h
        rw [hxn] at h; omega
      · have h : (n : Int) < ((z.2.2.2.2.1 : Nat) : Int) := of_decide_eq_true h
        rw [hzn] at h; omega
    have g2 : (i : Int) < ((x.2.2.2.2.1 : Nat) : Int) := of_decide_eq_true g2
    rw [hxn] at g2
    have g2 : i < (slT sl sn).length := by omega
    have hxi := hx.get (d := slot0) g2
    obtain ⟨hk1, hk2, hk3⟩ := mgZ_A (A := (slT sl sn)) (B := (slT ul un)) rise_slots rise_slots g2
    have g5 : (n : Int) < ((z.2.2.2.2.1 : Nat) : Int) := of_decide_eq_true g5
    rw [hzn] at g5
    have g5 : n < (mgZ (slT sl sn ++ slT ul un)).length := by omega
    refine Stands.one (i + 1, n + 1) ⟨⟨by show i + 1 ≤ (slT sl sn).length + (mgZ (slT sl sn ++ slT ul un)).length; omega, by show n + 1 = min (i + 1) (mgZ (slT sl sn ++ slT ul un)).length; omega⟩, by show (slT sl sn).length + (mgZ (slT sl sn ++ slT ul un)).length - (i + 1) < (slT sl sn).length + (mgZ (slT sl sn ++ slT ul un)).length - i; omega, ?_⟩
    ((conv => (arg 1; reduce)); with_reducible repeat' (first | exact Tr.yes_h | refine Tr.and_h ?_ ?_ | refine Tr.imp_h fun _ => ?_ | refine Tr.all_h fun _ => ?_ | refine Tr.lf_h ?_))
    all_goals (first | first | (show Region.lexB _ _ = true; kernel_rfl) | (show planned _ _ = true; kernel_rfl) | exact rfl | exact True.intro | (first | exact key3 | exact zeroB | exact zeroR | exact zeroS | exact ⟨key3, zeroB⟩ | exact ⟨key3, zeroR⟩ | exact ⟨key3, zeroS⟩) | ((try dsimp only [imp, C0, cG, cInt, cPl, cSlot, cPg, gwCodec] at *); (try refine inR64 ?_ ?_) <;> (try simp only [List.length_set, List.length_append, List.length_take, List.length_drop]) <;> omega))
  · rename_i hl z1 hz1 r1 hr1 b0 z2 hz2 r2 hr2 b1 m hm b2 cm x hx y hy z hz w hw g1 g2 b3 g3 g4 b4 g5
    obtain ⟨hl1, hl2, hO1, hO2, hS1, hS2, hM, ha3, hb3, hz3⟩ := fx (sl := sl) (ul := ul) (sn := sn) (un := un) (z1 := z1) (z2 := z2) (r1 := r1) (r2 := r2) (m := m) hl hz1 hr1 hz2 hr2 hm
    have hx := gth_tk hS1 hx
    have hxn := hx.n
    have hy := gth_tk hS2 hy
    have hyn := hy.n
    have hz := gth_tk hM hz
    have hzn := hz.n
    obtain ⟨i, n⟩ := w
    obtain ⟨hi, hn⟩ := hw
    change i ≤ (slT sl sn).length + (mgZ (slT sl sn ++ slT ul un)).length at hi
    change n = min i (mgZ (slT sl sn ++ slT ul un)).length at hn
    have g1 : i < (slT sl sn).length ∨ n < (mgZ (slT sl sn ++ slT ul un)).length := by
      rcases Bool.or_eq_true_iff.1 g1 with h | h
      · have h : (i : Int) < ((x.2.2.2.2.1 : Nat) : Int) := of_decide_eq_true h
        rw [hxn] at h; omega
      · have h : (n : Int) < ((z.2.2.2.2.1 : Nat) : Int) := of_decide_eq_true h
        rw [hzn] at h; omega
    exact inR64 (by show -9223372036854775808 ≤ (i : Int) + 1; omega) (by show (i : Int) + 1 ≤ 9223372036854775807; omega)
  · rename_i hl z1 hz1 r1 hr1 b0 z2 hz2 r2 hr2 b1 m hm b2 cm x hx y hy z hz w hw g1 g2 b3 g3 g4 b4 g5
    obtain ⟨hl1, hl2, hO1, hO2, hS1, hS2, hM, ha3, hb3, hz3⟩ := fx (sl := sl) (ul := ul) (sn := sn) (un := un) (z1 := z1) (z2 := z2) (r1 := r1) (r2 := r2) (m := m) hl hz1 hr1 hz2 hr2 hm
    have hx := gth_tk hS1 hx
    have hxn := hx.n
    have hy := gth_tk hS2 hy
    have hyn := hy.n
    have hz := gth_tk hM hz
    have hzn := hz.n
    obtain ⟨i, n⟩ := w
    obtain ⟨hi, hn⟩ := hw
    change i ≤ (slT sl sn).length + (mgZ (slT sl sn ++ slT ul un)).length at hi
    change n = min i (mgZ (slT sl sn ++ slT ul un)).length at hn
    have g1 : i < (slT sl sn).length ∨ n < (mgZ (slT sl sn ++ slT ul un)).length := by
      rcases Bool.or_eq_true_iff.1 g1 with h | h
      · have h : (i : Int) < ((x.2.2.2.2.1 : Nat) : Int) := of_decide_eq_true h
        rw [hxn] at h; omega
      · have h : (n : Int) < ((z.2.2.2.2.1 : Nat) : Int) := of_decide_eq_true h
        rw [hzn] at h; omega
    have g2 : (i : Int) < ((x.2.2.2.2.1 : Nat) : Int) := of_decide_eq_true g2
    rw [hxn] at g2
    have g2 : i < (slT sl sn).length := by omega
    have hxi := hx.get (d := slot0) g2
    obtain ⟨hk1, hk2, hk3⟩ := mgZ_A (A := (slT sl sn)) (B := (slT ul un)) rise_slots rise_slots g2
    have g5 : ¬ (n : Int) < ((z.2.2.2.2.1 : Nat) : Int) := of_decide_eq_false g5
    rw [hzn] at g5
    refine Stands.one (i + 1, n) ⟨⟨by show i + 1 ≤ (slT sl sn).length + (mgZ (slT sl sn ++ slT ul un)).length; omega, by show n = min (i + 1) (mgZ (slT sl sn ++ slT ul un)).length; omega⟩, by show (slT sl sn).length + (mgZ (slT sl sn ++ slT ul un)).length - (i + 1) < (slT sl sn).length + (mgZ (slT sl sn ++ slT ul un)).length - i; omega, ?_⟩
    ((conv => (arg 1; reduce)); with_reducible repeat' (first | exact Tr.yes_h | refine Tr.and_h ?_ ?_ | refine Tr.imp_h fun _ => ?_ | refine Tr.all_h fun _ => ?_ | refine Tr.lf_h ?_))
    all_goals (first | first | (show Region.lexB _ _ = true; kernel_rfl) | (show planned _ _ = true; kernel_rfl) | exact rfl | exact True.intro | (first | exact key3 | exact zeroB | exact zeroR | exact zeroS | exact ⟨key3, zeroB⟩ | exact ⟨key3, zeroR⟩ | exact ⟨key3, zeroS⟩) | ((try dsimp only [imp, C0, cG, cInt, cPl, cSlot, cPg, gwCodec] at *); (try refine inR64 ?_ ?_) <;> (try simp only [List.length_set, List.length_append, List.length_take, List.length_drop]) <;> omega))
  iterate 10 (
    focus
    rename_i hl z1 hz1 r1 hr1 b0 z2 hz2 r2 hr2 b1 m hm b2 cm x hx y hy z hz w hw g1 g2 g5 g6
    obtain ⟨hl1, hl2, hO1, hO2, hS1, hS2, hM, ha3, hb3, hz3⟩ := fx (sl := sl) (ul := ul) (sn := sn) (un := un) (z1 := z1) (z2 := z2) (r1 := r1) (r2 := r2) (m := m) hl hz1 hr1 hz2 hr2 hm
    have hx := gth_tk hS1 hx
    have hxn := hx.n
    have hy := gth_tk hS2 hy
    have hyn := hy.n
    have hz := gth_tk hM hz
    have hzn := hz.n
    obtain ⟨i, n⟩ := w
    obtain ⟨hi, hn⟩ := hw
    change i ≤ (slT sl sn).length + (mgZ (slT sl sn ++ slT ul un)).length at hi
    change n = min i (mgZ (slT sl sn ++ slT ul un)).length at hn
    have g1 : i < (slT sl sn).length ∨ n < (mgZ (slT sl sn ++ slT ul un)).length := by
      rcases Bool.or_eq_true_iff.1 g1 with h | h
      · have h : (i : Int) < ((x.2.2.2.2.1 : Nat) : Int) := of_decide_eq_true h
        rw [hxn] at h; omega
      · have h : (n : Int) < ((z.2.2.2.2.1 : Nat) : Int) := of_decide_eq_true h
        rw [hzn] at h; omega
    have g5 : (n : Int) < ((z.2.2.2.2.1 : Nat) : Int) := of_decide_eq_true g5
    rw [hzn] at g5
    have g5 : n < (mgZ (slT sl sn ++ slT ul un)).length := by omega
    have g6 : (0 : Int) < (n : Int) := of_decide_eq_true g6
    first
      | (exact inR64 (by show -9223372036854775808 ≤ (n : Int) - 1; omega) (by show (n : Int) - 1 ≤ 9223372036854775807; omega); done)
      | (exact hz.on (by omega); done)
      | (show (0 : Int) ≤ (n : Int) - 1; omega; done)
      | (show (n : Int) - 1 < ((z.2.2.2.2.1 : Nat) : Int); omega; done)
      | (have h9 := hz.le; show ((n : Int) - 1).toNat + 0 < z.2.2.2.1.length; omega; done)
      | (show (n : Int) < ((z.2.2.2.2.1 : Nat) : Int); rw [hzn]; omega; done)
      | (have h9 := hz.le; show n < z.2.2.2.1.length; omega; done))
  iterate 5 (
    focus
    rename_i hl z1 hz1 r1 hr1 b0 z2 hz2 r2 hr2 b1 m hm b2 cm x hx y hy z hz w hw g1 g2 g5 g6
    obtain ⟨hl1, hl2, hO1, hO2, hS1, hS2, hM, ha3, hb3, hz3⟩ := fx (sl := sl) (ul := ul) (sn := sn) (un := un) (z1 := z1) (z2 := z2) (r1 := r1) (r2 := r2) (m := m) hl hz1 hr1 hz2 hr2 hm
    have hx := gth_tk hS1 hx
    have hxn := hx.n
    have hy := gth_tk hS2 hy
    have hyn := hy.n
    have hz := gth_tk hM hz
    have hzn := hz.n
    obtain ⟨i, n⟩ := w
    obtain ⟨hi, hn⟩ := hw
    change i ≤ (slT sl sn).length + (mgZ (slT sl sn ++ slT ul un)).length at hi
    change n = min i (mgZ (slT sl sn ++ slT ul un)).length at hn
    have g1 : i < (slT sl sn).length ∨ n < (mgZ (slT sl sn ++ slT ul un)).length := by
      rcases Bool.or_eq_true_iff.1 g1 with h | h
      · have h : (i : Int) < ((x.2.2.2.2.1 : Nat) : Int) := of_decide_eq_true h
        rw [hxn] at h; omega
      · have h : (n : Int) < ((z.2.2.2.2.1 : Nat) : Int) := of_decide_eq_true h
        rw [hzn] at h; omega
    have g5 : (n : Int) < ((z.2.2.2.2.1 : Nat) : Int) := of_decide_eq_true g5
    rw [hzn] at g5
    have g5 : n < (mgZ (slT sl sn ++ slT ul un)).length := by omega
    first
      | (exact hz.on (by omega); done)
      | (show (n : Int) < ((z.2.2.2.2.1 : Nat) : Int); rw [hzn]; omega; done)
      | (have h9 := hz.le; show n < z.2.2.2.1.length; omega; done)
      | (exact ⟨hx.le, by show x.2.2.2.2.1 < 4611686018427387904; omega, hx.off⟩; done))
  iterate 5 (
    focus
    rename_i hl z1 hz1 r1 hr1 b0 z2 hz2 r2 hr2 b1 m hm b2 cm x hx y hy z hz w hw g1 g2 g5 g6 g7
    obtain ⟨hl1, hl2, hO1, hO2, hS1, hS2, hM, ha3, hb3, hz3⟩ := fx (sl := sl) (ul := ul) (sn := sn) (un := un) (z1 := z1) (z2 := z2) (r1 := r1) (r2 := r2) (m := m) hl hz1 hr1 hz2 hr2 hm
    have hx := gth_tk hS1 hx
    have hxn := hx.n
    have hy := gth_tk hS2 hy
    have hyn := hy.n
    have hz := gth_tk hM hz
    have hzn := hz.n
    obtain ⟨i, n⟩ := w
    obtain ⟨hi, hn⟩ := hw
    change i ≤ (slT sl sn).length + (mgZ (slT sl sn ++ slT ul un)).length at hi
    change n = min i (mgZ (slT sl sn ++ slT ul un)).length at hn
    have g1 : i < (slT sl sn).length ∨ n < (mgZ (slT sl sn ++ slT ul un)).length := by
      rcases Bool.or_eq_true_iff.1 g1 with h | h
      · have h : (i : Int) < ((x.2.2.2.2.1 : Nat) : Int) := of_decide_eq_true h
        rw [hxn] at h; omega
      · have h : (n : Int) < ((z.2.2.2.2.1 : Nat) : Int) := of_decide_eq_true h
        rw [hzn] at h; omega
    have g5 : (n : Int) < ((z.2.2.2.2.1 : Nat) : Int) := of_decide_eq_true g5
    rw [hzn] at g5
    have g5 : n < (mgZ (slT sl sn ++ slT ul un)).length := by omega
    first
      | (exact hz.on (by omega); done)
      | (show (n : Int) < ((z.2.2.2.2.1 : Nat) : Int); rw [hzn]; omega; done)
      | (have h9 := hz.le; show n < z.2.2.2.1.length; omega; done)
      | (exact ⟨hy.le, by show y.2.2.2.2.1 < 4611686018427387904; omega, hy.off⟩; done))
  · rename_i hl z1 hz1 r1 hr1 b0 z2 hz2 r2 hr2 b1 m hm b2 cm x hx y hy z hz w hw g1 g2 g5 g6
    obtain ⟨hl1, hl2, hO1, hO2, hS1, hS2, hM, ha3, hb3, hz3⟩ := fx (sl := sl) (ul := ul) (sn := sn) (un := un) (z1 := z1) (z2 := z2) (r1 := r1) (r2 := r2) (m := m) hl hz1 hr1 hz2 hr2 hm
    have hx := gth_tk hS1 hx
    have hxn := hx.n
    have hy := gth_tk hS2 hy
    have hyn := hy.n
    have hz := gth_tk hM hz
    have hzn := hz.n
    obtain ⟨i, n⟩ := w
    obtain ⟨hi, hn⟩ := hw
    change i ≤ (slT sl sn).length + (mgZ (slT sl sn ++ slT ul un)).length at hi
    change n = min i (mgZ (slT sl sn ++ slT ul un)).length at hn
    have g1 : i < (slT sl sn).length ∨ n < (mgZ (slT sl sn ++ slT ul un)).length := by
      rcases Bool.or_eq_true_iff.1 g1 with h | h
      · have h : (i : Int) < ((x.2.2.2.2.1 : Nat) : Int) := of_decide_eq_true h
        rw [hxn] at h; omega
      · have h : (n : Int) < ((z.2.2.2.2.1 : Nat) : Int) := of_decide_eq_true h
        rw [hzn] at h; omega
    have g5 : (n : Int) < ((z.2.2.2.2.1 : Nat) : Int) := of_decide_eq_true g5
    rw [hzn] at g5
    have g5 : n < (mgZ (slT sl sn ++ slT ul un)).length := by omega
    exfalso
    rcases Bool.or_eq_true_iff.1 g6 with h | h
    · have h0 : (0 : Int) < (n : Int) := of_decide_eq_true (and_l h)
      have h9 : (z.2.2.2.1.getD n slot0).key ≤ (z.2.2.2.1.getD (((n : Int) - 1).toNat + 0) slot0).key := of_decide_eq_true (and_r h)
      have e : ((n : Int) - 1).toNat + 0 = n - 1 := by omega
      rw [e, hz.get (d := slot0) g5, hz.get (d := slot0) (by omega)] at h9
      have := mgZ_rise (by omega) g5
      omega
    · have h1 : ixF (keyIs (z.2.2.2.1.getD n slot0).key) (x.2.2.2.1.take x.2.2.2.2.1) < 0 := of_decide_eq_true (and_l h)
      have h2 : ixF (keyIs (z.2.2.2.1.getD n slot0).key) (y.2.2.2.1.take y.2.2.2.2.1) < 0 := of_decide_eq_true (and_r h)
      rw [hz.get (d := slot0) g5, hx.tk] at h1
      rw [hz.get (d := slot0) g5, hy.tk] at h2
      exact mgZ_from g5 ⟨h1, h2⟩
  iterate 2 (
    focus
    rename_i hl z1 hz1 r1 hr1 b0 z2 hz2 r2 hr2 b1 m hm b2 cm x hx y hy z hz w hw g1 g2 g5 g6
    obtain ⟨hl1, hl2, hO1, hO2, hS1, hS2, hM, ha3, hb3, hz3⟩ := fx (sl := sl) (ul := ul) (sn := sn) (un := un) (z1 := z1) (z2 := z2) (r1 := r1) (r2 := r2) (m := m) hl hz1 hr1 hz2 hr2 hm
    have hx := gth_tk hS1 hx
    have hxn := hx.n
    have hy := gth_tk hS2 hy
    have hyn := hy.n
    have hz := gth_tk hM hz
    have hzn := hz.n
    obtain ⟨i, n⟩ := w
    obtain ⟨hi, hn⟩ := hw
    change i ≤ (slT sl sn).length + (mgZ (slT sl sn ++ slT ul un)).length at hi
    change n = min i (mgZ (slT sl sn ++ slT ul un)).length at hn
    have g1 : i < (slT sl sn).length ∨ n < (mgZ (slT sl sn ++ slT ul un)).length := by
      rcases Bool.or_eq_true_iff.1 g1 with h | h
      · have h : (i : Int) < ((x.2.2.2.2.1 : Nat) : Int) := of_decide_eq_true h
        rw [hxn] at h; omega
      · have h : (n : Int) < ((z.2.2.2.2.1 : Nat) : Int) := of_decide_eq_true h
        rw [hzn] at h; omega
    have g5 : (n : Int) < ((z.2.2.2.2.1 : Nat) : Int) := of_decide_eq_true g5
    rw [hzn] at g5
    have g5 : n < (mgZ (slT sl sn ++ slT ul un)).length := by omega
    first
      | (exact inR64 (by show -9223372036854775808 ≤ (n : Int) + 1; omega) (by show (n : Int) + 1 ≤ 9223372036854775807; omega); done)
      | (exact inR64 (by show -9223372036854775808 ≤ (i : Int) + 1; omega) (by show (i : Int) + 1 ≤ 9223372036854775807; omega); done))
  · rename_i hl z1 hz1 r1 hr1 b0 z2 hz2 r2 hr2 b1 m hm b2 cm x hx y hy z hz w hw g1 g2 g5 g6
    obtain ⟨hl1, hl2, hO1, hO2, hS1, hS2, hM, ha3, hb3, hz3⟩ := fx (sl := sl) (ul := ul) (sn := sn) (un := un) (z1 := z1) (z2 := z2) (r1 := r1) (r2 := r2) (m := m) hl hz1 hr1 hz2 hr2 hm
    have hx := gth_tk hS1 hx
    have hxn := hx.n
    have hy := gth_tk hS2 hy
    have hyn := hy.n
    have hz := gth_tk hM hz
    have hzn := hz.n
    obtain ⟨i, n⟩ := w
    obtain ⟨hi, hn⟩ := hw
    change i ≤ (slT sl sn).length + (mgZ (slT sl sn ++ slT ul un)).length at hi
    change n = min i (mgZ (slT sl sn ++ slT ul un)).length at hn
    have g1 : i < (slT sl sn).length ∨ n < (mgZ (slT sl sn ++ slT ul un)).length := by
      rcases Bool.or_eq_true_iff.1 g1 with h | h
      · have h : (i : Int) < ((x.2.2.2.2.1 : Nat) : Int) := of_decide_eq_true h
        rw [hxn] at h; omega
      · have h : (n : Int) < ((z.2.2.2.2.1 : Nat) : Int) := of_decide_eq_true h
        rw [hzn] at h; omega
    have g2 : ¬ (i : Int) < ((x.2.2.2.2.1 : Nat) : Int) := of_decide_eq_false g2
    rw [hxn] at g2
    have g5 : (n : Int) < ((z.2.2.2.2.1 : Nat) : Int) := of_decide_eq_true g5
    rw [hzn] at g5
    have g5 : n < (mgZ (slT sl sn ++ slT ul un)).length := by omega
    refine Stands.one (i + 1, n + 1) ⟨⟨by show i + 1 ≤ (slT sl sn).length + (mgZ (slT sl sn ++ slT ul un)).length; omega, by show n + 1 = min (i + 1) (mgZ (slT sl sn ++ slT ul un)).length; omega⟩, by show (slT sl sn).length + (mgZ (slT sl sn ++ slT ul un)).length - (i + 1) < (slT sl sn).length + (mgZ (slT sl sn ++ slT ul un)).length - i; omega, ?_⟩
    ((conv => (arg 1; reduce)); with_reducible repeat' (first | exact Tr.yes_h | refine Tr.and_h ?_ ?_ | refine Tr.imp_h fun _ => ?_ | refine Tr.all_h fun _ => ?_ | refine Tr.lf_h ?_))
    all_goals (first | first | (show Region.lexB _ _ = true; kernel_rfl) | (show planned _ _ = true; kernel_rfl) | exact rfl | exact True.intro | (first | exact key3 | exact zeroB | exact zeroR | exact zeroS | exact ⟨key3, zeroB⟩ | exact ⟨key3, zeroR⟩ | exact ⟨key3, zeroS⟩) | ((try dsimp only [imp, C0, cG, cInt, cPl, cSlot, cPg, gwCodec] at *); (try refine inR64 ?_ ?_) <;> (try simp only [List.length_set, List.length_append, List.length_take, List.length_drop]) <;> omega))
  · rename_i hl z1 hz1 r1 hr1 b0 z2 hz2 r2 hr2 b1 m hm b2 cm x hx y hy z hz w hw g1 g2 g5
    obtain ⟨hl1, hl2, hO1, hO2, hS1, hS2, hM, ha3, hb3, hz3⟩ := fx (sl := sl) (ul := ul) (sn := sn) (un := un) (z1 := z1) (z2 := z2) (r1 := r1) (r2 := r2) (m := m) hl hz1 hr1 hz2 hr2 hm
    have hx := gth_tk hS1 hx
    have hxn := hx.n
    have hy := gth_tk hS2 hy
    have hyn := hy.n
    have hz := gth_tk hM hz
    have hzn := hz.n
    obtain ⟨i, n⟩ := w
    obtain ⟨hi, hn⟩ := hw
    change i ≤ (slT sl sn).length + (mgZ (slT sl sn ++ slT ul un)).length at hi
    change n = min i (mgZ (slT sl sn ++ slT ul un)).length at hn
    have g1 : i < (slT sl sn).length ∨ n < (mgZ (slT sl sn ++ slT ul un)).length := by
      rcases Bool.or_eq_true_iff.1 g1 with h | h
      · have h : (i : Int) < ((x.2.2.2.2.1 : Nat) : Int) := of_decide_eq_true h
        rw [hxn] at h; omega
      · have h : (n : Int) < ((z.2.2.2.2.1 : Nat) : Int) := of_decide_eq_true h
        rw [hzn] at h; omega
    exact inR64 (by show -9223372036854775808 ≤ (i : Int) + 1; omega) (by show (i : Int) + 1 ≤ 9223372036854775807; omega)
  · rename_i hl z1 hz1 r1 hr1 b0 z2 hz2 r2 hr2 b1 m hm b2 cm x hx y hy z hz w hw g1 g2 g5
    obtain ⟨hl1, hl2, hO1, hO2, hS1, hS2, hM, ha3, hb3, hz3⟩ := fx (sl := sl) (ul := ul) (sn := sn) (un := un) (z1 := z1) (z2 := z2) (r1 := r1) (r2 := r2) (m := m) hl hz1 hr1 hz2 hr2 hm
    have hx := gth_tk hS1 hx
    have hxn := hx.n
    have hy := gth_tk hS2 hy
    have hyn := hy.n
    have hz := gth_tk hM hz
    have hzn := hz.n
    obtain ⟨i, n⟩ := w
    obtain ⟨hi, hn⟩ := hw
    change i ≤ (slT sl sn).length + (mgZ (slT sl sn ++ slT ul un)).length at hi
    change n = min i (mgZ (slT sl sn ++ slT ul un)).length at hn
    have g1 : i < (slT sl sn).length ∨ n < (mgZ (slT sl sn ++ slT ul un)).length := by
      rcases Bool.or_eq_true_iff.1 g1 with h | h
      · have h : (i : Int) < ((x.2.2.2.2.1 : Nat) : Int) := of_decide_eq_true h
        rw [hxn] at h; omega
      · have h : (n : Int) < ((z.2.2.2.2.1 : Nat) : Int) := of_decide_eq_true h
        rw [hzn] at h; omega
    have g2 : ¬ (i : Int) < ((x.2.2.2.2.1 : Nat) : Int) := of_decide_eq_false g2
    rw [hxn] at g2
    have g5 : ¬ (n : Int) < ((z.2.2.2.2.1 : Nat) : Int) := of_decide_eq_false g5
    rw [hzn] at g5
    refine Stands.one (i + 1, n) ⟨⟨by show i + 1 ≤ (slT sl sn).length + (mgZ (slT sl sn ++ slT ul un)).length; omega, by show n = min (i + 1) (mgZ (slT sl sn ++ slT ul un)).length; omega⟩, by show (slT sl sn).length + (mgZ (slT sl sn ++ slT ul un)).length - (i + 1) < (slT sl sn).length + (mgZ (slT sl sn ++ slT ul un)).length - i; omega, ?_⟩
    ((conv => (arg 1; reduce)); with_reducible repeat' (first | exact Tr.yes_h | refine Tr.and_h ?_ ?_ | refine Tr.imp_h fun _ => ?_ | refine Tr.all_h fun _ => ?_ | refine Tr.lf_h ?_))
    all_goals (first | first | (show Region.lexB _ _ = true; kernel_rfl) | (show planned _ _ = true; kernel_rfl) | exact rfl | exact True.intro | (first | exact key3 | exact zeroB | exact zeroR | exact zeroS | exact ⟨key3, zeroB⟩ | exact ⟨key3, zeroR⟩ | exact ⟨key3, zeroS⟩) | ((try dsimp only [imp, C0, cG, cInt, cPl, cSlot, cPg, gwCodec] at *); (try refine inR64 ?_ ?_) <;> (try simp only [List.length_set, List.length_append, List.length_take, List.length_drop]) <;> omega))
  · rename_i hl z1 hz1 r1 hr1 b0 z2 hz2 r2 hr2 b1 m hm b2 cm x hx y hy z hz w hw g1
    refine Stands.one (0 : Nat) ⟨Nat.zero_le _, ?_⟩
    ((conv => (arg 1; reduce)); with_reducible repeat' (first | exact Tr.yes_h | refine Tr.and_h ?_ ?_ | refine Tr.imp_h fun _ => ?_ | refine Tr.all_h fun _ => ?_ | refine Tr.lf_h ?_))
    all_goals (first | first | (show Region.lexB _ _ = true; kernel_rfl) | (show planned _ _ = true; kernel_rfl) | exact rfl | exact True.intro | (first | exact key3 | exact zeroB | exact zeroR | exact zeroS | exact ⟨key3, zeroB⟩ | exact ⟨key3, zeroR⟩ | exact ⟨key3, zeroS⟩) | ((try dsimp only [imp, C0, cG, cInt, cPl, cSlot, cPg, gwCodec] at *); (try refine inR64 ?_ ?_) <;> (try simp only [List.length_set, List.length_append, List.length_take, List.length_drop]) <;> omega))
  iterate 5 (
    focus
    rename_i hl z1 hz1 r1 hr1 b0 z2 hz2 r2 hr2 b1 m hm b2 cm x hx y hy z hz w hw g1 v hv h1
    obtain ⟨hl1, hl2, hO1, hO2, hS1, hS2, hM, ha3, hb3, hz3⟩ := fx (sl := sl) (ul := ul) (sn := sn) (un := un) (z1 := z1) (z2 := z2) (r1 := r1) (r2 := r2) (m := m) hl hz1 hr1 hz2 hr2 hm
    have hx := gth_tk hS1 hx
    have hxn := hx.n
    have hy := gth_tk hS2 hy
    have hyn := hy.n
    have hz := gth_tk hM hz
    have hzn := hz.n
    change Nat at v
    change v ≤ (slT ul un).length at hv
    have h1 : (v : Int) < ((y.2.2.2.2.1 : Nat) : Int) := of_decide_eq_true h1
    rw [hyn] at h1
    have h1 : v < (slT ul un).length := by omega
    first
      | (exact hy.on (by omega); done)
      | (show (v : Int) < ((y.2.2.2.2.1 : Nat) : Int); rw [hyn]; omega; done)
      | (have h9 := hy.le; show v < y.2.2.2.1.length; omega; done)
      | (exact ⟨hz.le, by show z.2.2.2.2.1 < 4611686018427387904; omega, hz.off⟩; done))
  · rename_i hl z1 hz1 r1 hr1 b0 z2 hz2 r2 hr2 b1 m hm b2 cm x hx y hy z hz w hw g1 v hv h1 h2
    obtain ⟨hl1, hl2, hO1, hO2, hS1, hS2, hM, ha3, hb3, hz3⟩ := fx (sl := sl) (ul := ul) (sn := sn) (un := un) (z1 := z1) (z2 := z2) (r1 := r1) (r2 := r2) (m := m) hl hz1 hr1 hz2 hr2 hm
    have hx := gth_tk hS1 hx
    have hxn := hx.n
    have hy := gth_tk hS2 hy
    have hyn := hy.n
    have hz := gth_tk hM hz
    have hzn := hz.n
    change Nat at v
    change v ≤ (slT ul un).length at hv
    have h1 : (v : Int) < ((y.2.2.2.2.1 : Nat) : Int) := of_decide_eq_true h1
    rw [hyn] at h1
    have h1 : v < (slT ul un).length := by omega
    exfalso
    have h2 : ixF (keyIs (y.2.2.2.1.getD v slot0).key) (z.2.2.2.1.take z.2.2.2.2.1) < 0 := of_decide_eq_true h2
    rw [hy.get (d := slot0) h1, hz.tk] at h2
    have := mgZ_B (A := (slT sl sn)) h1
    omega
  · rename_i hl z1 hz1 r1 hr1 b0 z2 hz2 r2 hr2 b1 m hm b2 cm x hx y hy z hz w hw g1 v hv h1 h2
    obtain ⟨hl1, hl2, hO1, hO2, hS1, hS2, hM, ha3, hb3, hz3⟩ := fx (sl := sl) (ul := ul) (sn := sn) (un := un) (z1 := z1) (z2 := z2) (r1 := r1) (r2 := r2) (m := m) hl hz1 hr1 hz2 hr2 hm
    have hx := gth_tk hS1 hx
    have hxn := hx.n
    have hy := gth_tk hS2 hy
    have hyn := hy.n
    have hz := gth_tk hM hz
    have hzn := hz.n
    change Nat at v
    change v ≤ (slT ul un).length at hv
    exact inR64 (by show -9223372036854775808 ≤ (v : Int) + 1; omega) (by show (v : Int) + 1 ≤ 9223372036854775807; omega)
  · rename_i hl z1 hz1 r1 hr1 b0 z2 hz2 r2 hr2 b1 m hm b2 cm x hx y hy z hz w hw g1 v hv h1 h2
    obtain ⟨hl1, hl2, hO1, hO2, hS1, hS2, hM, ha3, hb3, hz3⟩ := fx (sl := sl) (ul := ul) (sn := sn) (un := un) (z1 := z1) (z2 := z2) (r1 := r1) (r2 := r2) (m := m) hl hz1 hr1 hz2 hr2 hm
    have hx := gth_tk hS1 hx
    have hxn := hx.n
    have hy := gth_tk hS2 hy
    have hyn := hy.n
    have hz := gth_tk hM hz
    have hzn := hz.n
    change Nat at v
    change v ≤ (slT ul un).length at hv
    have h1 : (v : Int) < ((y.2.2.2.2.1 : Nat) : Int) := of_decide_eq_true h1
    rw [hyn] at h1
    have h1 : v < (slT ul un).length := by omega
    refine Stands.one (v + 1 : Nat) ⟨by show v + 1 ≤ (slT ul un).length; omega, by show (slT ul un).length - (v + 1) < (slT ul un).length - v; omega, ?_⟩
    ((conv => (arg 1; reduce)); with_reducible repeat' (first | exact Tr.yes_h | refine Tr.and_h ?_ ?_ | refine Tr.imp_h fun _ => ?_ | refine Tr.all_h fun _ => ?_ | refine Tr.lf_h ?_))
    all_goals (first | first | (show Region.lexB _ _ = true; kernel_rfl) | (show planned _ _ = true; kernel_rfl) | exact rfl | exact True.intro | (first | exact key3 | exact zeroB | exact zeroR | exact zeroS | exact ⟨key3, zeroB⟩ | exact ⟨key3, zeroR⟩ | exact ⟨key3, zeroS⟩) | ((try dsimp only [imp, C0, cG, cInt, cPl, cSlot, cPg, gwCodec] at *); (try refine inR64 ?_ ?_) <;> (try simp only [List.length_set, List.length_append, List.length_take, List.length_drop]) <;> omega))
  iterate 3 (
    focus
    rename_i hl z1 hz1 r1 hr1 b0 z2 hz2 r2 hr2 b1 m hm b2 cm x hx y hy z hz w hw g1 v hv h1
    have hl1 : ¬ (120 : Int) < (sn : Int) := of_decide_eq_false (Bool.or_eq_false_iff.1 hl).1
    have hl2 : ¬ (120 : Int) < (un : Int) := of_decide_eq_false (Bool.or_eq_false_iff.1 hl).2
    have ha3 : (slT sl sn).length ≤ 33 := sl8_len _
    have hb3 : (slT ul un).length ≤ 33 := sl8_len _
    have hz1 : Gth (sl.take sn) z1 := hz1
    have hO1 : OfS ⟨8, 8, 16⟩ [] (sl.take sn) r1 := by rw [← (show (Sq.li z1 : List Pg) = sl.take sn from hz1.1)]; exact hr1
    have hS1 : Gth (slT sl sn) r1.1 := hO1.2.1
    have hz2 : Gth (ul.take un) z2 := hz2
    have hO2 : OfS ⟨8, 8, 16⟩ [] (ul.take un) r2 := by rw [← (show (Sq.li z2 : List Pg) = ul.take un from hz2.1)]; exact hr2
    have hS2 : Gth (slT ul un) r2.1 := hO2.2.1
    first
      | (exact unP_of (s := m.2.1) (a := r1.2.1) (b := r2.2.1) hm.2.1 hO1.2.2.1 hO2.2.2.1 numL_len' numL_len'; done)
      | (exact unP_of (s := m.2.2.1) (a := r1.2.2.1) (b := r2.2.2.1) hm.2.2.1 hO1.2.2.2.1 hO2.2.2.2.1 numL_len' numL_len'; done)
      | (exact unP_of (s := m.2.2.2.1) (a := r1.2.2.2.1) (b := r2.2.2.2.1) hm.2.2.2.1 hO1.2.2.2.2.1 hO2.2.2.2.2.1 badL_len badL_len; done))
  · rename_i hl z1 hz1 r1 hr1 b0
    have hl1 : ¬ (120 : Int) < (sn : Int) := of_decide_eq_false (Bool.or_eq_false_iff.1 hl).1
    have hl2 : ¬ (120 : Int) < (un : Int) := of_decide_eq_false (Bool.or_eq_false_iff.1 hl).2
    have ha3 : (slT sl sn).length ≤ 33 := sl8_len _
    have hb3 : (slT ul un).length ≤ 33 := sl8_len _
    exact ⟨hu2, by show un < 1000000000; omega, hu3⟩
  · rename_i hl z1 hz1 r1 hr1 b0 z2 hz2
    have hl1 : ¬ (120 : Int) < (sn : Int) := of_decide_eq_false (Bool.or_eq_false_iff.1 hl).1
    have hl2 : ¬ (120 : Int) < (un : Int) := of_decide_eq_false (Bool.or_eq_false_iff.1 hl).2
    have ha3 : (slT sl sn).length ≤ 33 := sl8_len _
    have hb3 : (slT ul un).length ≤ 33 := sl8_len _
    have hz2 : Gth (ul.take un) z2 := hz2
    exact ⟨by decide, by decide, by decide, ⟨Nat.le_refl 0, by decide, fun _ => ⟨rfl, rfl⟩⟩, hz2.le, by have h9 := hz2.n; rw [List.length_take] at h9; show z2.2.2.2.2.1 < 1000000; omega, hz2.off⟩
end Go.Vx
set_option maxRecDepth 100000
namespace Go.Vx
open Go Go.Proofs Go.ChangeShapes Go.WideShapes Go.Deep Go.RowKit Go.Proofs.YtnihemjnhbickaaDoor
theorem c3 : Tryd.prog.cellsOf 3 = 1 := by kernel_rfl
theorem c9 : Tryd.prog.cellsOf 9 = 1 := by kernel_rfl
theorem c36 : Tryd.prog.cellsOf 36 = 2 := by kernel_rfl
theorem c38 : Tryd.prog.cellsOf 38 = 6 := by kernel_rfl
theorem c42 : Tryd.prog.cellsOf 42 = 9 := by kernel_rfl
theorem c160 : Tryd.prog.cellsOf 160 = 1 := by kernel_rfl
theorem star : "*" ++ "errors.errorString" = "*errors.errorString" := by decide
theorem row142 (u : TypeId) (h : Tryd.prog.typeName? 3 u = some "*errors.errorString") : u = 142 :=
  typeName_ptr_named (nm := "errors.errorString") (by rw [star]; kernel_rfl) (by kernel_rfl) (by decide) u (by rw [star]; exact h)
def pos2 (g : Nat) : Nat := match g with
  | 0 => 1
  | 1 => 0
  | g => g
theorem pos2_ok : ∀ g, g < 2 → pos2 g < [1, 0].length ∧ [1, 0].getD (pos2 g) 0 = g := by decide
theorem gl_of {W : World} {L : List (String × DataW Unit)} (hL : SentL Tryd.prog "*errors.errorString" 30 L [1, 0]) (h : laidMet Tryd.prog L W) :
    ∃ G : Gl, (∀ i j, i < 2 → j < 2 → @Gl.A G i = @Gl.A G j → i = j) ∧ ∀ g, g < 2 →
    W.cell? ⟨g, 0, none⟩ = some (.iface 142 (.pointer (some (@Gl.A G g)))) ∧ W.heap[(@Gl.A G g).block]? = some (.cells (@Gl.c G g) (@Gl.t G g) (0, 0)) := by
  obtain ⟨ps, hv, hnd, hrows⟩ := h
  obtain ⟨az, hs, _⟩ := laid_all Tryd.underlying30 row142 Tryd.underlying142 Tryd.underlying160 rfl rfl Tryd.underlying9 c160 c9 _ _ _ hL hv hnd hrows
  have hex : ∀ g, ∃ p : Array Value × TypeId, g < 2 → W.heap[(az.getD (pos2 g) default).block]? = some (.cells p.1 p.2 (0, 0)) := by
    intro g
    by_cases hg : g < 2
    · obtain ⟨_, c, t, h2⟩ := hs.get (pos2 g) (pos2_ok g hg).1
      exact ⟨(c, t), fun _ => h2⟩
    · exact ⟨(#[], 0), fun h => absurd h hg⟩
  refine ⟨⟨fun g => az.getD (pos2 g) default, fun g => (Classical.choose (hex g)).1, fun g => (Classical.choose (hex g)).2⟩, ?_, ?_⟩
  · intro i j hi hj he
    have := hs.one (pos2_ok i hi).1 (pos2_ok j hj).1 he
    rw [← (pos2_ok i hi).2, ← (pos2_ok j hj).2, this]
  · intro g hg
    obtain ⟨h1, _⟩ := hs.get (pos2 g) (pos2_ok g hg).1
    rw [(pos2_ok g hg).2] at h1
    exact ⟨h1, Classical.choose_spec (hex g) hg⟩
theorem gv_is [Gl] (g : Nat) : (C0 g).gv = glV g := by unfold C0; split <;> rfl
theorem gp_is [Gl] (g : Nat) : (C0 g).gpins = glP g := by unfold C0; split <;> rfl
theorem glB_lt {g : Nat} (h : glB g = true) : g < 2 := by
  unfold glB at h
  simpa using h
abbrev LaidAt [Gl] (W : World) : Prop := ∀ g, g < 2 → W.cell? ⟨g, 0, none⟩ = some (.iface 142 (.pointer (some (Gl.A g)))) ∧ W.heap[(Gl.A g).block]? = some (.cells (Gl.c g) (Gl.t g) (0, 0))
theorem more_of [Gl] {W : World} (h : LaidAt W)
    {mem : List (Ck C0)} (hnw : noWr mem = true) (hd : ∀ c ∈ mem, ∀ t x, c.cells.Has t x → (C0 t).good W x ∧ ∀ b ∈ (C0 t).blks x, b < W.heap.size) : More (wrS mem) W W mem where
  gv g v hv := by
    rw [gv_is] at hv
    unfold glV at hv
    split at hv
    · rename_i hb
      have hg := glB_lt hb
      simp only [Option.some.injEq] at hv
      subst hv
      obtain ⟨h1, _⟩ := h g hg
      refine ⟨h1, ?_, ?_⟩
      · rcases Nat.lt_or_ge g W.heap.size with h' | h'
        · exact h'
        · simp [World.cell?, Array.getElem?_eq_none h'] at h1
      · rintro ⟨c, hc, hw, _⟩
        rw [noWr_ok hnw c hc] at hw; cases hw
    · cases hv
  gp g p hp := by
    rw [gp_is] at hp
    unfold glP at hp
    split at hp
    · rename_i hb
      have hg := glB_lt hb
      rw [List.mem_singleton] at hp
      subst hp
      obtain ⟨_, h2⟩ := h g hg
      refine ⟨h2, heap_size_of h2, ?_⟩
      rintro ⟨c, hc, hw, _⟩
      rw [noWr_ok hnw c hc] at hw; cases hw
    · cases hp
  pin p hp := by cases hp
  nod := List.nodup_nil
  deep := deep_ro hnw hd
theorem place_open {H : Type} {enc : TypeId × Value → H} {w : World} {base : Nat} {spare : Nat → Bool} {held : Bool} {fuel : Nat} {cs : List Value} {y : DataW H × List MemPlace} (h : DataW.trod enc Tryd.prog w base spare held fuel 36 cs = some y) :
    ∃ b : Pl, cs[0]? = some (.int .i64 b.1) ∧ cs[1]? = some (.int .i64 b.2) := by
  obtain ⟨y0, y1, n, _, _, h0, h1⟩ := trod_struct2 Tryd.underlying36 h
  simp only [c3] at h0 h1
  obtain ⟨n0, e0, _, _⟩ := DataW.trod_int Tryd.underlying3 h0
  obtain ⟨n1, e1, _, _⟩ := DataW.trod_int Tryd.underlying3 h1
  exact ⟨(n0, n1), one_at e0, one_at e1⟩
theorem meta_open {H : Type} {enc : TypeId × Value → H} {w : World} {base : Nat} {spare : Nat → Bool} {held : Bool} {fuel : Nat} {cs : List Value} {y : DataW H × List MemPlace} (h : DataW.trod enc Tryd.prog w base spare held fuel 38 cs = some y) :
    ∃ m : Me, cs[0]? = some (.int .i64 m.kind) ∧ cs[1]? = some (.int .i64 m.key) ∧ cs[2]? = some (.int .i64 m.seq) ∧ cs[3]? = some (.int .i64 m.stamp) ∧ cs[4]? = some (.int .i64 m.batch) ∧ cs[5]? = some (.int .i64 m.floor) := by
  obtain ⟨xs, n, _, rfl, hl, hlen, hf⟩ := DataW.trod_struct Tryd.underlying38 h
  match xs, hlen with
  | [y0, y1, y2, y3, y4, y5], _ =>
    have h0 : DataW.trod enc Tryd.prog w base spare held n 3 ((cs.drop 0).take (Tryd.prog.cellsOf 3)) = some y0 := hf 0 _ rfl
    have h1 : DataW.trod enc Tryd.prog w base spare held n 3 ((cs.drop 1).take (Tryd.prog.cellsOf 3)) = some y1 := hf 1 _ rfl
    have h2 : DataW.trod enc Tryd.prog w base spare held n 3 ((cs.drop 2).take (Tryd.prog.cellsOf 3)) = some y2 := hf 2 _ rfl
    have h3 : DataW.trod enc Tryd.prog w base spare held n 3 ((cs.drop 3).take (Tryd.prog.cellsOf 3)) = some y3 := hf 3 _ rfl
    have h4 : DataW.trod enc Tryd.prog w base spare held n 3 ((cs.drop 4).take (Tryd.prog.cellsOf 3)) = some y4 := hf 4 _ rfl
    have h5 : DataW.trod enc Tryd.prog w base spare held n 3 ((cs.drop 5).take (Tryd.prog.cellsOf 3)) = some y5 := hf 5 _ rfl
    simp only [c3] at h0 h1 h2 h3 h4 h5
    obtain ⟨n0, e0, _, _⟩ := DataW.trod_int Tryd.underlying3 h0
    obtain ⟨n1, e1, _, _⟩ := DataW.trod_int Tryd.underlying3 h1
    obtain ⟨n2, e2, _, _⟩ := DataW.trod_int Tryd.underlying3 h2
    obtain ⟨n3, e3, _, _⟩ := DataW.trod_int Tryd.underlying3 h3
    obtain ⟨n4, e4, _, _⟩ := DataW.trod_int Tryd.underlying3 h4
    obtain ⟨n5, e5, _, _⟩ := DataW.trod_int Tryd.underlying3 h5
    exact ⟨⟨n0, n1, n2, n3, n4, n5⟩, one_at e0, one_at e1, one_at e2, one_at e3, one_at e4, one_at e5⟩
theorem page_open {H : Type} {enc : TypeId × Value → H} {w : World} {base : Nat} {spare : Nat → Bool} {held : Bool} {fuel : Nat} {cs : List Value} {y : DataW H × List MemPlace} (h : DataW.trod enc Tryd.prog w base spare held fuel 42 cs = some y) :
    ∃ b : Pg, ∀ f, f < 9 → cs[f]? = some (cellV cPg b f) := by
  obtain ⟨y0, y1, y2, n, _, _, h0, h1, h2⟩ := Go.Deep.trod_struct3 Tryd.underlying42 h
  simp only [c3, c36, c38] at h0 h1 h2
  obtain ⟨p, hp0, hp1⟩ := place_open h0
  obtain ⟨n0, e0, _, _⟩ := DataW.trod_int Tryd.underlying3 h1
  obtain ⟨m, m0, m1, m2, m3, m4, m5⟩ := meta_open h2
  refine ⟨⟨p, n0, m⟩, fun f hf => ?_⟩
  have p0 := part_at hp0
  have p1 := part_at hp1
  have k0 := part_at m0
  have k1 := part_at m1
  have k2 := part_at m2
  have k3 := part_at m3
  have k4 := part_at m4
  have k5 := part_at m5
  rcases f with _ | _ | _ | _ | _ | _ | _ | _ | _ | f
  · exact p0
  · exact p1
  · exact one_at e0
  · exact k0
  · exact k1
  · exact k2
  · exact k3
  · exact k4
  · exact k5
  · omega
theorem pages_open {H : Type} {enc : TypeId × Value → H} {W : World} {base b0 : Nat} {r : Reach} {v : Value} {d : DataW H} {p : List MemPlace} (hv : Value.okWide Tryd.prog W r b0 22 v)
    (h : DataW.Trod enc Tryd.prog W base (fun _ => true) true 22 v d p) : ∃ (a : Option Addr) (n c : Nat) (l : List Pg), v = .slice a n c ∧ IsPart cPg W a n c l := by
  obtain ⟨a, n, c, rfl⟩ := okWide_slice Tryd.underlying22 hv
  obtain ⟨fuel, hf⟩ := h
  have hf : DataW.trod enc Tryd.prog W base (fun _ => true) true fuel 22 [.slice a n c] = some (d, p) := by simpa [Value.cells] using hf
  obtain ⟨zs, hz⟩ := rows_open2 cPg Tryd.underlying22 c42 (fun _ _ _ h => page_open h) (fun x hx => okWide_at Tryd.underlying22 (a := x) (by rw [hx] at hv; exact hv)) hf
  exact ⟨a, n, c, zs, rfl, hz.part⟩
theorem pages_mem2 [Gl] {w : World} {a : Option Addr} {n c : Nat} {l : List Pg} {a2 : Option Addr} {n2 c2 : Nat} {l2 : List Pg} (b1 : IsPart (C0 42) w a n c l) (b2 : IsPart (C0 42) w a2 n2 c2 l2) (hG : LaidAt w) :
    MemOK (C := C0) (wrS (C := C0) [inCk 42 a l, inCk 42 a2 l2]) w w [inCk 42 a l, inCk 42 a2 l2] := by
  refine memRo rfl (fun x hx ho => ?_) (fun x hx ho => ?_) (more_of hG rfl fun x hx t y hy => ?_)
  · simp only [List.mem_cons, List.not_mem_nil, or_false] at hx
    rcases hx with rfl | rfl
    · exact b1.ok _ ho
    · exact b2.ok _ ho
  · simp only [List.mem_cons, List.not_mem_nil, or_false] at hx
    rcases hx with rfl | rfl
    · exact b1.lt ho
    · exact b2.lt ho
  · simp only [List.mem_cons, List.not_mem_nil, or_false] at hx
    rcases hx with rfl | rfl
    all_goals
      obtain ⟨e, _⟩ := Cells.Has.inv hy
      subst e
      exact ⟨trivial, fun b hb => by cases hb⟩
end Go.Vx
