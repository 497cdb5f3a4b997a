/-
  Round 22: ScanOlder: the walk.
  Round 22: the errors that are laid; the inputs.
  Round 22: pages that came in hold whole numbers of the kind int.
  Conditions: none.
-/
import Derived.Test.YtnihemjnhbickaaDoorM4
import Derived.Test.YtnihemjnhbickaaDoorM8
import Derived.Test.YtnihemjnhbickaaDoorRows
import Derived.LaidMore
import Derived.ChangeOld
import Derived.Below
import Derived.Stop.Joined
import Derived.Lib.SmallJoins
set_option linter.unusedVariables false
set_option linter.unusedSimpArgs false
set_option linter.unusedSectionVars false
set_option maxRecDepth 100000
namespace Go.Vx
open Go Go.Proofs
variable [Gl]

abbrev chR (y : Sq Pg) : Ck C0 := ⟨y.2.1, y.2.2.1, 9, true, some y.1, .rows 42 y.2.2.2.1⟩
def O10 (L : List Pg) : Inv' C0 := ⟨10, Nat × Bool × Sq Pg, fun y => [(13, .junk), (91, .junk), (132, .junk), (134, .junk), (135, .junk), (12, .int .i64 (y.1 : Int)), (11, .bool (.tm y.2.1)), (10, .sl 10 0 y.2.2.2.2.2.2.1 y.2.2.2.2.2.2.2)], fun y k => match k with
  | c0 :: c1 :: c2 :: c3 :: c4 :: c5 :: c6 :: c7 :: c8 :: c9 :: _ => [c0, c1, c2, c3, c4, c5, c6, c7, c8, c9, chR y.2.2]
  | _ => [], fun y => y.1 ≤ L.length ∧ ∃ A, Gth A y.2.2 ∧ Nwi L y.1 y.2.1 A, fun y => L.length - y.1⟩
abbrev pl30 : List Tk := [.p 0, .p 1, .p 2, .p 3, .p 4, .p 6, .p 7, .e 5, .e 8, .e 9, .p 10, .p 11, .p 12, .p 13, .p 14, .p 15, .p 16, .p 17, .p 18]
set_option maxHeartbeats 16000000 in
theorem older_ok (o : Bool) (b q : Nat) (l : List Pg) (n c : Nat) (wh : Int) (m : Me) (hn : n ≤ l.length) (ho : o = false → n = 0 ∧ c = 0) (hq : ∀ p ∈ l.take n, p.me.seq ≤ 9223372036854775807) : Tells (C := C0) Tryd.prog (.fn 4) [⟨b, q, 9, false, some o, .rows 42 l⟩] [.sl 0 0 n c, .int .i64 wh, .agg (meE m)] (.bool .t) := by
  have hL := tk_len hn
  refine loc_pc (P := Tryd.prog) (E := ⟨[fcOf, fcMade, fcSlotsc], [pcFirst, pcHead, pcAmong, pcFind, pcSameSlots], 160, [(30, [1000008, 1000017], pl30)], [], []⟩) (L := [O10 (l.take n)]) mix Tryd.func4 rfl (by kernel_rfl) (by kernel_rfl) rfl rfl ?_
  ((conv => (arg 1; reduce)); with_reducible repeat' (first | exact Tr.yes_h | refine Tr.and_h ?_ ?_ | refine Tr.imp_h fun _ => ?_ | refine Tr.all_h fun _ => ?_ | refine Tr.lf_h ?_))
  all_goals try (first | first | (show Region.lexB _ _ = true; kernel_rfl) | (show planned _ _ = true; kernel_rfl) | exact rfl | exact True.intro | (first | exact key3 | exact zeroB | exact zeroR | exact zeroS | exact ⟨key3, zeroB⟩ | exact ⟨key3, zeroR⟩ | exact ⟨key3, zeroS⟩) | ((try dsimp only [imp, C0, cG, cInt, cPl, cSlot, cPg, gwCodec] at *); (try refine inR64 ?_ ?_) <;> (try simp only [List.length_set, List.length_append, List.length_take, List.length_drop]) <;> omega))
  · rename_i u0 hl
    have hl : ¬ (120 : Int) < (n : Int) := of_decide_eq_false hl
    exact ⟨hn, by show n < 1000000000; omega, ho⟩
  · rename_i u0 hl z hz
    have hl : ¬ (120 : Int) < (n : Int) := of_decide_eq_false hl
    have hz : Gth (l.take n) z := hz
    have ez : (Sq.li z : List Pg) = (l.take n) := hz.1
    exact ⟨by decide, by decide, by decide, ⟨Nat.le_refl 0, by decide, fun _ => ⟨rfl, rfl⟩⟩, hz.le, by have := hz.n; show z.2.2.2.2.1 < 1000000; omega, hz.off⟩
  · rename_i u0 hl z hz r hr u1
    refine Stands.one (0, false, false, 0, 0, [], 0, 0) ⟨⟨Nat.zero_le _, [], Gth.nil, .inl ⟨rfl, rfl⟩⟩, ?_⟩
    ((conv => (arg 1; reduce)); with_reducible repeat' (first | exact Tr.yes_h | refine Tr.and_h ?_ ?_ | refine Tr.imp_h fun _ => ?_ | refine Tr.all_h fun _ => ?_ | refine Tr.lf_h ?_))
    all_goals (first | first | (show Region.lexB _ _ = true; kernel_rfl) | (show planned _ _ = true; kernel_rfl) | exact rfl | exact True.intro | (first | exact key3 | exact zeroB | exact zeroR | exact zeroS | exact ⟨key3, zeroB⟩ | exact ⟨key3, zeroR⟩ | exact ⟨key3, zeroS⟩) | ((try dsimp only [imp, C0, cG, cInt, cPl, cSlot, cPg, gwCodec] at *); (try refine inR64 ?_ ?_) <;> (try simp only [List.length_set, List.length_append, List.length_take, List.length_drop]) <;> omega))
  · rename_i u0 hl z hz r hr u1 y hy h1
    exact on_of ho (by have h := of_decide_eq_true h1; omega)
  · rename_i u0 hl z hz r hr u1 y hy h1
    exact of_decide_eq_true h1
  · rename_i u0 hl z hz r hr u1 y hy h1
    exact on_of ho (by have h := of_decide_eq_true h1; omega)
  · rename_i u0 hl z hz r hr u1 y hy h1
    have h := of_decide_eq_true h1
    show y.1 < l.length
    omega
  · rename_i u0 hl z hz r hr u1 y hy h1 u2 c1
    have hl : ¬ (120 : Int) < (n : Int) := of_decide_eq_false hl
    exact ⟨hn, by show n < 4611686018427387904; omega, ho⟩
  · rename_i u0 hl z hz r hr u1 y hy h1 u2 c1
    have hl : ¬ (120 : Int) < (n : Int) := of_decide_eq_false hl
    have hz : Gth (l.take n) z := hz
    have ez : (Sq.li z : List Pg) = (l.take n) := hz.1
    have hO : OfS ⟨8, 8, 16⟩ [] (l.take n) r := by rw [← ez]; exact hr
    have hB : Gth (badL 8 (gridL 8 (l.take n))) r.2.2.2.1 := hO.2.2.2.2.1
    exact ⟨hB.le, Nat.lt_of_le_of_lt (Nat.le_trans (Nat.le_of_eq hB.n) badL_len) (by decide), hB.off⟩
  · rename_i u0 hl z hz r hr u1 y hy h1 u2 c1
    have hl : ¬ (120 : Int) < (n : Int) := of_decide_eq_false hl
    have hz : Gth (l.take n) z := hz
    have ez : (Sq.li z : List Pg) = (l.take n) := hz.1
    have hO : OfS ⟨8, 8, 16⟩ [] (l.take n) r := by rw [← ez]; exact hr
    have hS : Gth (sl8 (l.take n)) r.1 := hO.2.1
    have hSn := hS.n
    have hSl : (sl8 (l.take n)).length ≤ 536871100 := Nat.le_trans sloL_len (keyL_len g8_ok)
    exact ⟨hS.le, by show r.1.2.2.2.2.1 < 1000000000; omega, hS.off⟩
  · rename_i u0 hl z hz r hr u1 y hy h1 u2 c1 s hs
    have hl : ¬ (120 : Int) < (n : Int) := of_decide_eq_false hl
    have hz : Gth (l.take n) z := hz
    have ez : (Sq.li z : List Pg) = (l.take n) := hz.1
    have hO : OfS ⟨8, 8, 16⟩ [] (l.take n) r := by rw [← ez]; exact hr
    have hS : Gth (sl8 (l.take n)) r.1 := hO.2.1
    have hSn := hS.n
    have hSl : (sl8 (l.take n)).length ≤ 536871100 := Nat.le_trans sloL_len (keyL_len g8_ok)
    have hs : Gth (sl8 (l.take n)) s := by
      have hs : Gth (r.1.2.2.2.1.take r.1.2.2.2.2.1) s := hs
      rw [hS.tk] at hs
      exact hs
    have hsn := hs.n
    exact ⟨hs.le, by show s.2.2.2.2.1 < 4611686018427387904; omega, hs.off⟩
  · rename_i u0 hl z hz r hr u1 y hy h1 u2 c1 s hs c2 c3
    have hz : Gth (l.take n) z := hz
    have ez : (Sq.li z : List Pg) = (l.take n) := hz.1
    have h9 : decide (1073741824 ≤ (nmOf 8 (gridL 8 (Sq.li z))).f) = false := c3
    have h8 : 0 ≤ (nmOf 8 (gridL 8 (Sq.li z))).f := floor_pos
    have h9 := of_decide_eq_false h9
    exact inR64 (by show -9223372036854775808 ≤ (nmOf 8 (gridL 8 (Sq.li z))).f + 1; omega) (by show (nmOf 8 (gridL 8 (Sq.li z))).f + 1 ≤ 9223372036854775807; omega)
  · rename_i u0 hl z hz r hr u1 y hy h1 u2 c1 s hs c2 c3 u3
    have hl : ¬ (120 : Int) < (n : Int) := of_decide_eq_false hl
    obtain ⟨i, dn, xo, xb, xq, xl, xn, xc⟩ := y
    obtain ⟨hi, A, hA, hN⟩ := hy
    change i ≤ (l.take n).length at hi
    change Gth A (xo, xb, xq, xl, xn, xc) at hA
    change Nwi (l.take n) i dn A at hN
    have hAr := hA.room
    have hAl := hN.len
    have h1 : (i : Int) < (n : Int) := of_decide_eq_true h1
    have by42 : Tryd.prog.types[42].bytes = 72 := by kernel_rfl
    rw [by42]
    exact ⟨hAr.1, by show 0 + xc ≤ xl.length; omega, by simp, by show (xn + 1) * 72 ≤ _; omega⟩
  · rename_i u0 hl z hz r hr u1 y hy h1 u2 c1 s hs c2 c3 u3
    obtain ⟨i, dn, xo, xb, xq, xl, xn, xc⟩ := y
    obtain ⟨hi, A, hA, hN⟩ := hy
    change i ≤ (l.take n).length at hi
    change Gth A (xo, xb, xq, xl, xn, xc) at hA
    change Nwi (l.take n) i dn A at hN
    have hAr := hA.room
    have hAl := hN.len
    exact hAr.2.2.2
  · rename_i u0 hl z hz r hr u1 y hy h1 u2 c1 s hs c2 c3 u3 b9 q9 sp cp e1 e2
    have hl : ¬ (120 : Int) < (n : Int) := of_decide_eq_false hl
    obtain ⟨i, dn, xo, xb, xq, xl, xn, xc⟩ := y
    obtain ⟨hi, A, hA, hN⟩ := hy
    change i ≤ (l.take n).length at hi
    change Gth A (xo, xb, xq, xl, xn, xc) at hA
    change Nwi (l.take n) i dn A at hN
    have hAr := hA.room
    have hAl := hN.len
    have h1 : (i : Int) < (n : Int) := of_decide_eq_true h1
    exact inR64 (by show -9223372036854775808 ≤ (i : Int) + 1; omega) (by show (i : Int) + 1 ≤ 9223372036854775807; omega)
  · rename_i u0 hl z hz r hr u1 y hy h1 u2 c1 s hs c2 c3 u3 b9 q9 sp cp e1 e2
    have hl : ¬ (120 : Int) < (n : Int) := of_decide_eq_false hl
    have hz : Gth (l.take n) z := hz
    have ez : (Sq.li z : List Pg) = (l.take n) := hz.1
    have hO : OfS ⟨8, 8, 16⟩ [] (l.take n) r := by rw [← ez]; exact hr
    have hB : Gth (badL 8 (gridL 8 (l.take n))) r.2.2.2.1 := hO.2.2.2.2.1
    have hK := and_le m.key 15 (by decide)
    change 0 ≤ (ibit .and .i64 m.key 15) ∧ (ibit .and .i64 m.key 15) ≤ 15 at hK
    obtain ⟨i, dn, xo, xb, xq, xl, xn, xc⟩ := y
    obtain ⟨hi, A, hA, hN⟩ := hy
    change i ≤ (l.take n).length at hi
    change Gth A (xo, xb, xq, xl, xn, xc) at hA
    change Nwi (l.take n) i dn A at hN
    have hAr := hA.room
    have hAl := hN.len
    have h1 : (i : Int) < (n : Int) := of_decide_eq_true h1
    have hil : i < (l.take n).length := by omega
    have hg : (l.take n).getD i pg0 = l.getD i pg0 := tk_get (by omega)
    have c1 : (!dn && decide ((l.getD i pg0).cl = 2) && decide (0 < (l.getD i pg0).pl.2) && headB (l.take n) (l.getD i pg0).pl.1 && !anyF (eqI (l.getD i pg0).pl.1) (r.2.2.2.1.2.2.2.1.take r.2.2.2.1.2.2.2.2.1) && decide (ibit .and .i64 wh 31 ≤ (i : Int))) = true := c1
    rw [hB.tk, ← hg] at c1
    have d1 : dn = false := not_t (and_l (and_l (and_l (and_l (and_l c1)))))
    have d2 := of_decide_eq_true (and_r (and_l (and_l (and_l (and_l c1)))))
    have d3 := of_decide_eq_true (and_r (and_l (and_l (and_l c1))))
    have d4 := and_r (and_l (and_l c1))
    have d5 := not_t (and_r (and_l c1))
    subst d1
    have ef : (nmOf 8 (gridL 8 (Sq.li z))).f + 1 = fl8 (l.take n) + 1 := by rw [ez]
    refine Stands.one (i + 1, true, true, b9, q9, xl.take xn ++ [⟨(l.getD i pg0).pl, 1, ⟨2, (ibit .and .i64 m.key 15), (nmOf 8 (gridL 8 (Sq.li z))).s, (nmOf 8 (gridL 8 (Sq.li z))).t, (nmOf 8 (gridL 8 (Sq.li z))).f + 1, 0⟩⟩] ++ sp, xn + 1, cp) ⟨⟨by show i + 1 ≤ (l.take n).length; omega, A ++ [⟨(l.getD i pg0).pl, 1, ⟨2, (ibit .and .i64 m.key 15), (nmOf 8 (gridL 8 (Sq.li z))).s, (nmOf 8 (gridL 8 (Sq.li z))).t, (nmOf 8 (gridL 8 (Sq.li z))).f + 1, 0⟩⟩], hA.snoc e1 e2, hN.new hil ⟨d2, by rw [hg], d3, d4, d5, rfl, rfl, rfl, hK, .inl ef⟩⟩, by show (l.take n).length - (i + 1) < (l.take n).length - i; omega, ?_⟩
    ((conv => (arg 1; reduce)); with_reducible repeat' (first | exact Tr.yes_h | refine Tr.and_h ?_ ?_ | refine Tr.imp_h fun _ => ?_ | refine Tr.all_h fun _ => ?_ | refine Tr.lf_h ?_))
    all_goals (first | first | (show Region.lexB _ _ = true; kernel_rfl) | (show planned _ _ = true; kernel_rfl) | exact rfl | exact True.intro | (first | exact key3 | exact zeroB | exact zeroR | exact zeroS | exact ⟨key3, zeroB⟩ | exact ⟨key3, zeroR⟩ | exact ⟨key3, zeroS⟩) | ((try dsimp only [imp, C0, cG, cInt, cPl, cSlot, cPg, gwCodec] at *); (try refine inR64 ?_ ?_) <;> (try simp only [List.length_set, List.length_append, List.length_take, List.length_drop]) <;> omega))
  · rename_i u0 hl z hz r hr u1 y hy h1 u2 c1 s hs c2
    have hl : ¬ (120 : Int) < (n : Int) := of_decide_eq_false hl
    have hz : Gth (l.take n) z := hz
    have ez : (Sq.li z : List Pg) = (l.take n) := hz.1
    have hO : OfS ⟨8, 8, 16⟩ [] (l.take n) r := by rw [← ez]; exact hr
    have hS : Gth (sl8 (l.take n)) r.1 := hO.2.1
    have hSn := hS.n
    have hSl : (sl8 (l.take n)).length ≤ 536871100 := Nat.le_trans sloL_len (keyL_len g8_ok)
    have hs : Gth (sl8 (l.take n)) s := by
      have hs : Gth (r.1.2.2.2.1.take r.1.2.2.2.2.1) s := hs
      rw [hS.tk] at hs
      exact hs
    have hsn := hs.n
    have c2 : (decide ((ixF (keyIs (ibit .and .i64 m.key 15)) (s.2.2.2.1.take s.2.2.2.2.1)) < 0) || decide (ibit .and .i64 m.seq 1 = 0)) = false := c2
    rw [hs.tk] at c2
    have hge : 0 ≤ ixF (keyIs (ibit .and .i64 m.key 15)) (sl8 (l.take n)) := by have := of_decide_eq_false (Bool.or_eq_false_iff.1 c2).1; omega
    obtain ⟨k0, hk1, hk2, hk3⟩ := ixF_hit (d := slot0) hge
    exact hS.on (by omega)
  · rename_i u0 hl z hz r hr u1 y hy h1 u2 c1 s hs c2
    have hl : ¬ (120 : Int) < (n : Int) := of_decide_eq_false hl
    have hz : Gth (l.take n) z := hz
    have ez : (Sq.li z : List Pg) = (l.take n) := hz.1
    have hO : OfS ⟨8, 8, 16⟩ [] (l.take n) r := by rw [← ez]; exact hr
    have hS : Gth (sl8 (l.take n)) r.1 := hO.2.1
    have hSn := hS.n
    have hSl : (sl8 (l.take n)).length ≤ 536871100 := Nat.le_trans sloL_len (keyL_len g8_ok)
    have hs : Gth (sl8 (l.take n)) s := by
      have hs : Gth (r.1.2.2.2.1.take r.1.2.2.2.2.1) s := hs
      rw [hS.tk] at hs
      exact hs
    have hsn := hs.n
    have c2 : (decide ((ixF (keyIs (ibit .and .i64 m.key 15)) (s.2.2.2.1.take s.2.2.2.2.1)) < 0) || decide (ibit .and .i64 m.seq 1 = 0)) = false := c2
    rw [hs.tk] at c2
    have hge : 0 ≤ ixF (keyIs (ibit .and .i64 m.key 15)) (sl8 (l.take n)) := by have := of_decide_eq_false (Bool.or_eq_false_iff.1 c2).1; omega
    obtain ⟨k0, hk1, hk2, hk3⟩ := ixF_hit (d := slot0) hge
    show 0 ≤ (ixF (keyIs (ibit .and .i64 m.key 15)) (s.2.2.2.1.take s.2.2.2.2.1))
    rw [hs.tk]
    exact hge
  · rename_i u0 hl z hz r hr u1 y hy h1 u2 c1 s hs c2
    have hl : ¬ (120 : Int) < (n : Int) := of_decide_eq_false hl
    have hz : Gth (l.take n) z := hz
    have ez : (Sq.li z : List Pg) = (l.take n) := hz.1
    have hO : OfS ⟨8, 8, 16⟩ [] (l.take n) r := by rw [← ez]; exact hr
    have hS : Gth (sl8 (l.take n)) r.1 := hO.2.1
    have hSn := hS.n
    have hSl : (sl8 (l.take n)).length ≤ 536871100 := Nat.le_trans sloL_len (keyL_len g8_ok)
    have hs : Gth (sl8 (l.take n)) s := by
      have hs : Gth (r.1.2.2.2.1.take r.1.2.2.2.2.1) s := hs
      rw [hS.tk] at hs
      exact hs
    have hsn := hs.n
    have c2 : (decide ((ixF (keyIs (ibit .and .i64 m.key 15)) (s.2.2.2.1.take s.2.2.2.2.1)) < 0) || decide (ibit .and .i64 m.seq 1 = 0)) = false := c2
    rw [hs.tk] at c2
    have hge : 0 ≤ ixF (keyIs (ibit .and .i64 m.key 15)) (sl8 (l.take n)) := by have := of_decide_eq_false (Bool.or_eq_false_iff.1 c2).1; omega
    obtain ⟨k0, hk1, hk2, hk3⟩ := ixF_hit (d := slot0) hge
    show (ixF (keyIs (ibit .and .i64 m.key 15)) (s.2.2.2.1.take s.2.2.2.2.1)) < ((r.1.2.2.2.2.1 : Nat) : Int)
    rw [hs.tk]
    omega
  · rename_i u0 hl z hz r hr u1 y hy h1 u2 c1 s hs c2
    have hl : ¬ (120 : Int) < (n : Int) := of_decide_eq_false hl
    have hz : Gth (l.take n) z := hz
    have ez : (Sq.li z : List Pg) = (l.take n) := hz.1
    have hO : OfS ⟨8, 8, 16⟩ [] (l.take n) r := by rw [← ez]; exact hr
    have hS : Gth (sl8 (l.take n)) r.1 := hO.2.1
    have hSn := hS.n
    have hSl : (sl8 (l.take n)).length ≤ 536871100 := Nat.le_trans sloL_len (keyL_len g8_ok)
    have hs : Gth (sl8 (l.take n)) s := by
      have hs : Gth (r.1.2.2.2.1.take r.1.2.2.2.2.1) s := hs
      rw [hS.tk] at hs
      exact hs
    have hsn := hs.n
    have c2 : (decide ((ixF (keyIs (ibit .and .i64 m.key 15)) (s.2.2.2.1.take s.2.2.2.2.1)) < 0) || decide (ibit .and .i64 m.seq 1 = 0)) = false := c2
    rw [hs.tk] at c2
    have hge : 0 ≤ ixF (keyIs (ibit .and .i64 m.key 15)) (sl8 (l.take n)) := by have := of_decide_eq_false (Bool.or_eq_false_iff.1 c2).1; omega
    obtain ⟨k0, hk1, hk2, hk3⟩ := ixF_hit (d := slot0) hge
    exact hS.on (by omega)
  · rename_i u0 hl z hz r hr u1 y hy h1 u2 c1 s hs c2
    have hl : ¬ (120 : Int) < (n : Int) := of_decide_eq_false hl
    have hz : Gth (l.take n) z := hz
    have ez : (Sq.li z : List Pg) = (l.take n) := hz.1
    have hO : OfS ⟨8, 8, 16⟩ [] (l.take n) r := by rw [← ez]; exact hr
    have hS : Gth (sl8 (l.take n)) r.1 := hO.2.1
    have hSn := hS.n
    have hSl : (sl8 (l.take n)).length ≤ 536871100 := Nat.le_trans sloL_len (keyL_len g8_ok)
    have hs : Gth (sl8 (l.take n)) s := by
      have hs : Gth (r.1.2.2.2.1.take r.1.2.2.2.2.1) s := hs
      rw [hS.tk] at hs
      exact hs
    have hsn := hs.n
    have c2 : (decide ((ixF (keyIs (ibit .and .i64 m.key 15)) (s.2.2.2.1.take s.2.2.2.2.1)) < 0) || decide (ibit .and .i64 m.seq 1 = 0)) = false := c2
    rw [hs.tk] at c2
    have hge : 0 ≤ ixF (keyIs (ibit .and .i64 m.key 15)) (sl8 (l.take n)) := by have := of_decide_eq_false (Bool.or_eq_false_iff.1 c2).1; omega
    obtain ⟨k0, hk1, hk2, hk3⟩ := ixF_hit (d := slot0) hge
    have := hS.le
    show (ixF (keyIs (ibit .and .i64 m.key 15)) (s.2.2.2.1.take s.2.2.2.2.1)).toNat + 0 < r.1.2.2.2.1.length
    rw [hs.tk]
    omega
  · rename_i u0 hl z hz r hr u1 y hy h1 u2 c1 s hs c2 c3
    have hl : ¬ (120 : Int) < (n : Int) := of_decide_eq_false hl
    have hz : Gth (l.take n) z := hz
    have ez : (Sq.li z : List Pg) = (l.take n) := hz.1
    have hO : OfS ⟨8, 8, 16⟩ [] (l.take n) r := by rw [← ez]; exact hr
    have hS : Gth (sl8 (l.take n)) r.1 := hO.2.1
    have hSn := hS.n
    have hSl : (sl8 (l.take n)).length ≤ 536871100 := Nat.le_trans sloL_len (keyL_len g8_ok)
    have hs : Gth (sl8 (l.take n)) s := by
      have hs : Gth (r.1.2.2.2.1.take r.1.2.2.2.2.1) s := hs
      rw [hS.tk] at hs
      exact hs
    have hsn := hs.n
    have c2 : (decide ((ixF (keyIs (ibit .and .i64 m.key 15)) (s.2.2.2.1.take s.2.2.2.2.1)) < 0) || decide (ibit .and .i64 m.seq 1 = 0)) = false := c2
    rw [hs.tk] at c2
    have hge : 0 ≤ ixF (keyIs (ibit .and .i64 m.key 15)) (sl8 (l.take n)) := by have := of_decide_eq_false (Bool.or_eq_false_iff.1 c2).1; omega
    obtain ⟨k0, hk1, hk2, hk3⟩ := ixF_hit (d := slot0) hge
    exact hS.on (by omega)
  · rename_i u0 hl z hz r hr u1 y hy h1 u2 c1 s hs c2 c3
    have hl : ¬ (120 : Int) < (n : Int) := of_decide_eq_false hl
    have hz : Gth (l.take n) z := hz
    have ez : (Sq.li z : List Pg) = (l.take n) := hz.1
    have hO : OfS ⟨8, 8, 16⟩ [] (l.take n) r := by rw [← ez]; exact hr
    have hS : Gth (sl8 (l.take n)) r.1 := hO.2.1
    have hSn := hS.n
    have hSl : (sl8 (l.take n)).length ≤ 536871100 := Nat.le_trans sloL_len (keyL_len g8_ok)
    have hs : Gth (sl8 (l.take n)) s := by
      have hs : Gth (r.1.2.2.2.1.take r.1.2.2.2.2.1) s := hs
      rw [hS.tk] at hs
      exact hs
    have hsn := hs.n
    have c2 : (decide ((ixF (keyIs (ibit .and .i64 m.key 15)) (s.2.2.2.1.take s.2.2.2.2.1)) < 0) || decide (ibit .and .i64 m.seq 1 = 0)) = false := c2
    rw [hs.tk] at c2
    have hge : 0 ≤ ixF (keyIs (ibit .and .i64 m.key 15)) (sl8 (l.take n)) := by have := of_decide_eq_false (Bool.or_eq_false_iff.1 c2).1; omega
    obtain ⟨k0, hk1, hk2, hk3⟩ := ixF_hit (d := slot0) hge
    show 0 ≤ (ixF (keyIs (ibit .and .i64 m.key 15)) (s.2.2.2.1.take s.2.2.2.2.1))
    rw [hs.tk]
    exact hge
  · rename_i u0 hl z hz r hr u1 y hy h1 u2 c1 s hs c2 c3
    have hl : ¬ (120 : Int) < (n : Int) := of_decide_eq_false hl
    have hz : Gth (l.take n) z := hz
    have ez : (Sq.li z : List Pg) = (l.take n) := hz.1
    have hO : OfS ⟨8, 8, 16⟩ [] (l.take n) r := by rw [← ez]; exact hr
    have hS : Gth (sl8 (l.take n)) r.1 := hO.2.1
    have hSn := hS.n
    have hSl : (sl8 (l.take n)).length ≤ 536871100 := Nat.le_trans sloL_len (keyL_len g8_ok)
    have hs : Gth (sl8 (l.take n)) s := by
      have hs : Gth (r.1.2.2.2.1.take r.1.2.2.2.2.1) s := hs
      rw [hS.tk] at hs
      exact hs
    have hsn := hs.n
    have c2 : (decide ((ixF (keyIs (ibit .and .i64 m.key 15)) (s.2.2.2.1.take s.2.2.2.2.1)) < 0) || decide (ibit .and .i64 m.seq 1 = 0)) = false := c2
    rw [hs.tk] at c2
    have hge : 0 ≤ ixF (keyIs (ibit .and .i64 m.key 15)) (sl8 (l.take n)) := by have := of_decide_eq_false (Bool.or_eq_false_iff.1 c2).1; omega
    obtain ⟨k0, hk1, hk2, hk3⟩ := ixF_hit (d := slot0) hge
    show (ixF (keyIs (ibit .and .i64 m.key 15)) (s.2.2.2.1.take s.2.2.2.2.1)) < ((r.1.2.2.2.2.1 : Nat) : Int)
    rw [hs.tk]
    omega
  · rename_i u0 hl z hz r hr u1 y hy h1 u2 c1 s hs c2 c3
    have hl : ¬ (120 : Int) < (n : Int) := of_decide_eq_false hl
    have hz : Gth (l.take n) z := hz
    have ez : (Sq.li z : List Pg) = (l.take n) := hz.1
    have hO : OfS ⟨8, 8, 16⟩ [] (l.take n) r := by rw [← ez]; exact hr
    have hS : Gth (sl8 (l.take n)) r.1 := hO.2.1
    have hSn := hS.n
    have hSl : (sl8 (l.take n)).length ≤ 536871100 := Nat.le_trans sloL_len (keyL_len g8_ok)
    have hs : Gth (sl8 (l.take n)) s := by
      have hs : Gth (r.1.2.2.2.1.take r.1.2.2.2.2.1) s := hs
      rw [hS.tk] at hs
      exact hs
    have hsn := hs.n
    have c2 : (decide ((ixF (keyIs (ibit .and .i64 m.key 15)) (s.2.2.2.1.take s.2.2.2.2.1)) < 0) || decide (ibit .and .i64 m.seq 1 = 0)) = false := c2
    rw [hs.tk] at c2
    have hge : 0 ≤ ixF (keyIs (ibit .and .i64 m.key 15)) (sl8 (l.take n)) := by have := of_decide_eq_false (Bool.or_eq_false_iff.1 c2).1; omega
    obtain ⟨k0, hk1, hk2, hk3⟩ := ixF_hit (d := slot0) hge
    exact hS.on (by omega)
  · rename_i u0 hl z hz r hr u1 y hy h1 u2 c1 s hs c2 c3
    have hl : ¬ (120 : Int) < (n : Int) := of_decide_eq_false hl
    have hz : Gth (l.take n) z := hz
    have ez : (Sq.li z : List Pg) = (l.take n) := hz.1
    have hO : OfS ⟨8, 8, 16⟩ [] (l.take n) r := by rw [← ez]; exact hr
    have hS : Gth (sl8 (l.take n)) r.1 := hO.2.1
    have hSn := hS.n
    have hSl : (sl8 (l.take n)).length ≤ 536871100 := Nat.le_trans sloL_len (keyL_len g8_ok)
    have hs : Gth (sl8 (l.take n)) s := by
      have hs : Gth (r.1.2.2.2.1.take r.1.2.2.2.2.1) s := hs
      rw [hS.tk] at hs
      exact hs
    have hsn := hs.n
    have c2 : (decide ((ixF (keyIs (ibit .and .i64 m.key 15)) (s.2.2.2.1.take s.2.2.2.2.1)) < 0) || decide (ibit .and .i64 m.seq 1 = 0)) = false := c2
    rw [hs.tk] at c2
    have hge : 0 ≤ ixF (keyIs (ibit .and .i64 m.key 15)) (sl8 (l.take n)) := by have := of_decide_eq_false (Bool.or_eq_false_iff.1 c2).1; omega
    obtain ⟨k0, hk1, hk2, hk3⟩ := ixF_hit (d := slot0) hge
    have := hS.le
    show (ixF (keyIs (ibit .and .i64 m.key 15)) (s.2.2.2.1.take s.2.2.2.2.1)).toNat + 0 < r.1.2.2.2.1.length
    rw [hs.tk]
    omega
  · rename_i u0 hl z hz r hr u1 y hy h1 u2 c1 s hs c2 c3
    have hl : ¬ (120 : Int) < (n : Int) := of_decide_eq_false hl
    have hz : Gth (l.take n) z := hz
    have ez : (Sq.li z : List Pg) = (l.take n) := hz.1
    have hO : OfS ⟨8, 8, 16⟩ [] (l.take n) r := by rw [← ez]; exact hr
    have hok : Okl 8 8 (l.take n) := okl_iff.1 hO.1
    have hS : Gth (sl8 (l.take n)) r.1 := hO.2.1
    have hSn := hS.n
    have hSl : (sl8 (l.take n)).length ≤ 536871100 := Nat.le_trans sloL_len (keyL_len g8_ok)
    have hs : Gth (sl8 (l.take n)) s := by
      have hs : Gth (r.1.2.2.2.1.take r.1.2.2.2.2.1) s := hs
      rw [hS.tk] at hs
      exact hs
    have hsn := hs.n
    have c2 : (decide ((ixF (keyIs (ibit .and .i64 m.key 15)) (s.2.2.2.1.take s.2.2.2.2.1)) < 0) || decide (ibit .and .i64 m.seq 1 = 0)) = false := c2
    rw [hs.tk] at c2
    have hge : 0 ≤ ixF (keyIs (ibit .and .i64 m.key 15)) (sl8 (l.take n)) := by have := of_decide_eq_false (Bool.or_eq_false_iff.1 c2).1; omega
    obtain ⟨k0, hk1, hk2, hk3⟩ := ixF_hit (d := slot0) hge
    have h9 : decide (0 < (r.1.2.2.2.1.getD ((ixF (keyIs (ibit .and .i64 m.key 15)) (s.2.2.2.1.take s.2.2.2.2.1)).toNat + 0) slot0).me.seq) = true := c3
    have h9 := of_decide_eq_true h9
    have e9 : (r.1.2.2.2.1.getD ((ixF (keyIs (ibit .and .i64 m.key 15)) (s.2.2.2.1.take s.2.2.2.2.1)).toNat + 0) slot0).me.seq = ((sl8 (l.take n)).getD k0 slot0).me.seq := by rw [hs.tk, hk2]; exact congrArg (fun x : Slot => x.me.seq) (hS.get hk1)
    obtain ⟨p, hp⟩ := pgOf (g := g8) hok (getD_mem (d := slot0) hk1)
    have h7 := hq p hp.mem
    have h7 : ((sl8 (l.take n)).getD k0 slot0).me.seq ≤ 9223372036854775807 := by
      have e : ((sl8 (l.take n)).getD k0 slot0).me = p.me := hp.me.symm
      rw [e]; exact h7
    have h6 : (r.1.2.2.2.1.getD ((ixF (keyIs (ibit .and .i64 m.key 15)) (s.2.2.2.1.take s.2.2.2.2.1)).toNat + 0) slot0).me.seq ≤ 9223372036854775807 := by rw [e9]; exact h7
    exact inR64 (n := (r.1.2.2.2.1.getD ((ixF (keyIs (ibit .and .i64 m.key 15)) (s.2.2.2.1.take s.2.2.2.2.1)).toNat + 0) slot0).me.seq - 1) (Int.le_trans (by decide) (Int.sub_nonneg_of_le h9)) (Int.le_trans (Int.sub_le_self _ (by decide)) h6)
  · rename_i u0 hl z hz r hr u1 y hy h1 u2 c1 s hs c2 c3 u3
    have hl : ¬ (120 : Int) < (n : Int) := of_decide_eq_false hl
    obtain ⟨i, dn, xo, xb, xq, xl, xn, xc⟩ := y
    obtain ⟨hi, A, hA, hN⟩ := hy
    change i ≤ (l.take n).length at hi
    change Gth A (xo, xb, xq, xl, xn, xc) at hA
    change Nwi (l.take n) i dn A at hN
    have hAr := hA.room
    have hAl := hN.len
    have h1 : (i : Int) < (n : Int) := of_decide_eq_true h1
    have by42 : Tryd.prog.types[42].bytes = 72 := by kernel_rfl
    rw [by42]
    exact ⟨hAr.1, by show 0 + xc ≤ xl.length; omega, by simp, by show (xn + 1) * 72 ≤ _; omega⟩
  · rename_i u0 hl z hz r hr u1 y hy h1 u2 c1 s hs c2 c3 u3
    obtain ⟨i, dn, xo, xb, xq, xl, xn, xc⟩ := y
    obtain ⟨hi, A, hA, hN⟩ := hy
    change i ≤ (l.take n).length at hi
    change Gth A (xo, xb, xq, xl, xn, xc) at hA
    change Nwi (l.take n) i dn A at hN
    have hAr := hA.room
    have hAl := hN.len
    exact hAr.2.2.2
  · rename_i u0 hl z hz r hr u1 y hy h1 u2 c1 s hs c2 c3 u3 b9 q9 sp cp e1 e2
    have hl : ¬ (120 : Int) < (n : Int) := of_decide_eq_false hl
    obtain ⟨i, dn, xo, xb, xq, xl, xn, xc⟩ := y
    obtain ⟨hi, A, hA, hN⟩ := hy
    change i ≤ (l.take n).length at hi
    change Gth A (xo, xb, xq, xl, xn, xc) at hA
    change Nwi (l.take n) i dn A at hN
    have hAr := hA.room
    have hAl := hN.len
    have h1 : (i : Int) < (n : Int) := of_decide_eq_true h1
    exact inR64 (by show -9223372036854775808 ≤ (i : Int) + 1; omega) (by show (i : Int) + 1 ≤ 9223372036854775807; omega)
  · rename_i u0 hl z hz r hr u1 y hy h1 u2 c1 s hs c2 c3 u3 b9 q9 sp cp e1 e2
    have hl : ¬ (120 : Int) < (n : Int) := of_decide_eq_false hl
    have hz : Gth (l.take n) z := hz
    have ez : (Sq.li z : List Pg) = (l.take n) := hz.1
    have hO : OfS ⟨8, 8, 16⟩ [] (l.take n) r := by rw [← ez]; exact hr
    have hB : Gth (badL 8 (gridL 8 (l.take n))) r.2.2.2.1 := hO.2.2.2.2.1
    have hS : Gth (sl8 (l.take n)) r.1 := hO.2.1
    have hSn := hS.n
    have hSl : (sl8 (l.take n)).length ≤ 536871100 := Nat.le_trans sloL_len (keyL_len g8_ok)
    have hs : Gth (sl8 (l.take n)) s := by
      have hs : Gth (r.1.2.2.2.1.take r.1.2.2.2.2.1) s := hs
      rw [hS.tk] at hs
      exact hs
    have hsn := hs.n
    have hK := and_le m.key 15 (by decide)
    change 0 ≤ (ibit .and .i64 m.key 15) ∧ (ibit .and .i64 m.key 15) ≤ 15 at hK
    have c2 : (decide ((ixF (keyIs (ibit .and .i64 m.key 15)) (s.2.2.2.1.take s.2.2.2.2.1)) < 0) || decide (ibit .and .i64 m.seq 1 = 0)) = false := c2
    rw [hs.tk] at c2
    have hge : 0 ≤ ixF (keyIs (ibit .and .i64 m.key 15)) (sl8 (l.take n)) := by have := of_decide_eq_false (Bool.or_eq_false_iff.1 c2).1; omega
    obtain ⟨k0, hk1, hk2, hk3⟩ := ixF_hit (d := slot0) hge
    obtain ⟨i, dn, xo, xb, xq, xl, xn, xc⟩ := y
    obtain ⟨hi, A, hA, hN⟩ := hy
    change i ≤ (l.take n).length at hi
    change Gth A (xo, xb, xq, xl, xn, xc) at hA
    change Nwi (l.take n) i dn A at hN
    have hAr := hA.room
    have hAl := hN.len
    have h1 : (i : Int) < (n : Int) := of_decide_eq_true h1
    have hil : i < (l.take n).length := by omega
    have hg : (l.take n).getD i pg0 = l.getD i pg0 := tk_get (by omega)
    have c1 : (!dn && decide ((l.getD i pg0).cl = 2) && decide (0 < (l.getD i pg0).pl.2) && headB (l.take n) (l.getD i pg0).pl.1 && !anyF (eqI (l.getD i pg0).pl.1) (r.2.2.2.1.2.2.2.1.take r.2.2.2.1.2.2.2.2.1) && decide (ibit .and .i64 wh 31 ≤ (i : Int))) = true := c1
    rw [hB.tk, ← hg] at c1
    have d1 : dn = false := not_t (and_l (and_l (and_l (and_l (and_l c1)))))
    have d2 := of_decide_eq_true (and_r (and_l (and_l (and_l (and_l c1)))))
    have d3 := of_decide_eq_true (and_r (and_l (and_l (and_l c1))))
    have d4 := and_r (and_l (and_l c1))
    have d5 := not_t (and_r (and_l c1))
    subst d1
    have e9 : (r.1.2.2.2.1.getD ((ixF (keyIs (ibit .and .i64 m.key 15)) (s.2.2.2.1.take s.2.2.2.2.1)).toNat + 0) slot0).me.seq = ((sl8 (l.take n)).getD k0 slot0).me.seq := by rw [hs.tk, hk2]; exact congrArg (fun x : Slot => x.me.seq) (hS.get hk1)
    have h9 : ∃ t ∈ sl8 (l.take n), t.key = (ibit .and .i64 m.key 15) ∧ (r.1.2.2.2.1.getD ((ixF (keyIs (ibit .and .i64 m.key 15)) (s.2.2.2.1.take s.2.2.2.2.1)).toNat + 0) slot0).me.seq - 1 = t.me.seq - 1 := ⟨_, getD_mem (d := slot0) hk1, of_decide_eq_true hk3, by rw [e9]⟩
    refine Stands.one (i + 1, true, true, b9, q9, xl.take xn ++ [⟨(l.getD i pg0).pl, 1, ⟨2, (ibit .and .i64 m.key 15), (r.1.2.2.2.1.getD ((ixF (keyIs (ibit .and .i64 m.key 15)) (s.2.2.2.1.take s.2.2.2.2.1)).toNat + 0) slot0).me.seq - 1, (nmOf 8 (gridL 8 (Sq.li z))).t, 0, 0⟩⟩] ++ sp, xn + 1, cp) ⟨⟨by show i + 1 ≤ (l.take n).length; omega, A ++ [⟨(l.getD i pg0).pl, 1, ⟨2, (ibit .and .i64 m.key 15), (r.1.2.2.2.1.getD ((ixF (keyIs (ibit .and .i64 m.key 15)) (s.2.2.2.1.take s.2.2.2.2.1)).toNat + 0) slot0).me.seq - 1, (nmOf 8 (gridL 8 (Sq.li z))).t, 0, 0⟩⟩], hA.snoc e1 e2, hN.new hil ⟨d2, by rw [hg], d3, d4, d5, rfl, rfl, rfl, hK, .inr h9⟩⟩, by show (l.take n).length - (i + 1) < (l.take n).length - i; omega, ?_⟩
    ((conv => (arg 1; reduce)); with_reducible repeat' (first | exact Tr.yes_h | refine Tr.and_h ?_ ?_ | refine Tr.imp_h fun _ => ?_ | refine Tr.all_h fun _ => ?_ | refine Tr.lf_h ?_))
    all_goals (first | first | (show Region.lexB _ _ = true; kernel_rfl) | (show planned _ _ = true; kernel_rfl) | exact rfl | exact True.intro | (first | exact key3 | exact zeroB | exact zeroR | exact zeroS | exact ⟨key3, zeroB⟩ | exact ⟨key3, zeroR⟩ | exact ⟨key3, zeroS⟩) | ((try dsimp only [imp, C0, cG, cInt, cPl, cSlot, cPg, gwCodec] at *); (try refine inR64 ?_ ?_) <;> (try simp only [List.length_set, List.length_append, List.length_take, List.length_drop]) <;> omega))
  · rename_i u0 hl z hz r hr u1 y hy h1 u2 c1 u3
    have hl : ¬ (120 : Int) < (n : Int) := of_decide_eq_false hl
    obtain ⟨i, dn, xo, xb, xq, xl, xn, xc⟩ := y
    obtain ⟨hi, A, hA, hN⟩ := hy
    change i ≤ (l.take n).length at hi
    change Gth A (xo, xb, xq, xl, xn, xc) at hA
    change Nwi (l.take n) i dn A at hN
    have hAr := hA.room
    have hAl := hN.len
    have h1 : (i : Int) < (n : Int) := of_decide_eq_true h1
    have by42 : Tryd.prog.types[42].bytes = 72 := by kernel_rfl
    rw [by42]
    exact ⟨hAr.1, by show 0 + xc ≤ xl.length; omega, by simp, by show (xn + 1) * 72 ≤ _; omega⟩
  · rename_i u0 hl z hz r hr u1 y hy h1 u2 c1 u3
    obtain ⟨i, dn, xo, xb, xq, xl, xn, xc⟩ := y
    obtain ⟨hi, A, hA, hN⟩ := hy
    change i ≤ (l.take n).length at hi
    change Gth A (xo, xb, xq, xl, xn, xc) at hA
    change Nwi (l.take n) i dn A at hN
    have hAr := hA.room
    have hAl := hN.len
    exact hAr.2.2.2
  · rename_i u0 hl z hz r hr u1 y hy h1 u2 c1 u3 b9 q9 sp cp e1 e2
    have hl : ¬ (120 : Int) < (n : Int) := of_decide_eq_false hl
    obtain ⟨i, dn, xo, xb, xq, xl, xn, xc⟩ := y
    obtain ⟨hi, A, hA, hN⟩ := hy
    change i ≤ (l.take n).length at hi
    change Gth A (xo, xb, xq, xl, xn, xc) at hA
    change Nwi (l.take n) i dn A at hN
    have hAr := hA.room
    have hAl := hN.len
    have h1 : (i : Int) < (n : Int) := of_decide_eq_true h1
    exact inR64 (by show -9223372036854775808 ≤ (i : Int) + 1; omega) (by show (i : Int) + 1 ≤ 9223372036854775807; omega)
  · rename_i u0 hl z hz r hr u1 y hy h1 u2 c1 u3 b9 q9 sp cp e1 e2
    have hl : ¬ (120 : Int) < (n : Int) := of_decide_eq_false hl
    obtain ⟨i, dn, xo, xb, xq, xl, xn, xc⟩ := y
    obtain ⟨hi, A, hA, hN⟩ := hy
    change i ≤ (l.take n).length at hi
    change Gth A (xo, xb, xq, xl, xn, xc) at hA
    change Nwi (l.take n) i dn A at hN
    have hAr := hA.room
    have hAl := hN.len
    have h1 : (i : Int) < (n : Int) := of_decide_eq_true h1
    have hil : i < (l.take n).length := by omega
    have hg : (l.take n).getD i pg0 = l.getD i pg0 := tk_get (by omega)
    refine Stands.one (i + 1, dn, true, b9, q9, xl.take xn ++ [l.getD i pg0] ++ sp, xn + 1, cp) ⟨⟨by show i + 1 ≤ (l.take n).length; omega, A ++ [l.getD i pg0], hA.snoc e1 e2, by rw [← hg]; exact hN.keep hil⟩, by show (l.take n).length - (i + 1) < (l.take n).length - i; omega, ?_⟩
    ((conv => (arg 1; reduce)); with_reducible repeat' (first | exact Tr.yes_h | refine Tr.and_h ?_ ?_ | refine Tr.imp_h fun _ => ?_ | refine Tr.all_h fun _ => ?_ | refine Tr.lf_h ?_))
    all_goals (first | first | (show Region.lexB _ _ = true; kernel_rfl) | (show planned _ _ = true; kernel_rfl) | exact rfl | exact True.intro | (first | exact key3 | exact zeroB | exact zeroR | exact zeroS | exact ⟨key3, zeroB⟩ | exact ⟨key3, zeroR⟩ | exact ⟨key3, zeroS⟩) | ((try dsimp only [imp, C0, cG, cInt, cPl, cSlot, cPg, gwCodec] at *); (try refine inR64 ?_ ?_) <;> (try simp only [List.length_set, List.length_append, List.length_take, List.length_drop]) <;> omega))
  · rename_i u0 hl z hz r hr u1 y hy h1
    have hl : ¬ (120 : Int) < (n : Int) := of_decide_eq_false hl
    obtain ⟨i, dn, xo, xb, xq, xl, xn, xc⟩ := y
    obtain ⟨hi, A, hA, hN⟩ := hy
    change i ≤ (l.take n).length at hi
    change Gth A (xo, xb, xq, xl, xn, xc) at hA
    change Nwi (l.take n) i dn A at hN
    have hAr := hA.room
    have hAl := hN.len
    exact ⟨hA.le, by show xn < 1000000000; omega, hAr.2.2.2⟩
  · rename_i u0 hl z hz r hr u1 y hy h1 z2 hz2
    have hl : ¬ (120 : Int) < (n : Int) := of_decide_eq_false hl
    obtain ⟨i, dn, xo, xb, xq, xl, xn, xc⟩ := y
    obtain ⟨hi, A, hA, hN⟩ := hy
    change i ≤ (l.take n).length at hi
    change Gth A (xo, xb, xq, xl, xn, xc) at hA
    change Nwi (l.take n) i dn A at hN
    have hAr := hA.room
    have hAl := hN.len
    have hz2 : Gth A z2 := by
      have hz2 : Gth (xl.take xn) z2 := hz2
      have e : xl.take xn = A := hA.1
      rw [e] at hz2
      exact hz2
    have ez2 : (Sq.li z2 : List Pg) = A := hz2.1
    have hz2n := hz2.n
    exact ⟨by decide, by decide, by decide, ⟨Nat.le_refl 0, by decide, fun _ => ⟨rfl, rfl⟩⟩, hz2.le, by have := hz2.n; show z2.2.2.2.2.1 < 1000000; omega, hz2.off⟩
  · rename_i u0 hl z hz r hr u1 y hy h1 z2 hz2 r2 hr2 u2
    have hl : ¬ (120 : Int) < (n : Int) := of_decide_eq_false hl
    have hz : Gth (l.take n) z := hz
    have ez : (Sq.li z : List Pg) = (l.take n) := hz.1
    have hO : OfS ⟨8, 8, 16⟩ [] (l.take n) r := by rw [← ez]; exact hr
    have hS : Gth (sl8 (l.take n)) r.1 := hO.2.1
    have hSn := hS.n
    have hSl : (sl8 (l.take n)).length ≤ 536871100 := Nat.le_trans sloL_len (keyL_len g8_ok)
    exact ⟨hS.le, by show r.1.2.2.2.2.1 < 1000000000; omega, hS.off⟩
  · rename_i u0 hl z hz r hr u1 y hy h1 z2 hz2 r2 hr2 u2 s1 hs1
    have hl : ¬ (120 : Int) < (n : Int) := of_decide_eq_false hl
    have hz : Gth (l.take n) z := hz
    have ez : (Sq.li z : List Pg) = (l.take n) := hz.1
    have hO : OfS ⟨8, 8, 16⟩ [] (l.take n) r := by rw [← ez]; exact hr
    have hok : Okl 8 8 (l.take n) := okl_iff.1 hO.1
    obtain ⟨i, dn, xo, xb, xq, xl, xn, xc⟩ := y
    obtain ⟨hi, A, hA, hN⟩ := hy
    change i ≤ (l.take n).length at hi
    change Gth A (xo, xb, xq, xl, xn, xc) at hA
    change Nwi (l.take n) i dn A at hN
    have hAr := hA.room
    have hAl := hN.len
    have h1 : ¬ (i : Int) < (n : Int) := of_decide_eq_false h1
    have hW : Nw (l.take n) A := hN.all (by omega)
    have hz2 : Gth A z2 := by
      have hz2 : Gth (xl.take xn) z2 := hz2
      have e : xl.take xn = A := hA.1
      rw [e] at hz2
      exact hz2
    have ez2 : (Sq.li z2 : List Pg) = A := hz2.1
    have hz2n := hz2.n
    obtain ⟨w1, w2, w3⟩ := hW.same hok
    have hS : Gth (sl8 (l.take n)) r.1 := hO.2.1
    have hSn := hS.n
    have hSl : (sl8 (l.take n)).length ≤ 536871100 := Nat.le_trans sloL_len (keyL_len g8_ok)
    have hO2 : OfS ⟨8, 8, 16⟩ [] A r2 := by rw [← ez2]; exact hr2
    have hS2 : Gth (sl8 (l.take n)) r2.1 := by rw [← w3]; exact hO2.2.1
    have hSn2 := hS2.n
    exact ⟨hS2.le, by show r2.1.2.2.2.2.1 < 1000000000; omega, hS2.off⟩
  · rename_i u0 hl z hz r hr u1 y hy h1 z2 hz2 r2 hr2 u2 s1 hs1 s2 hs2
    have hl : ¬ (120 : Int) < (n : Int) := of_decide_eq_false hl
    have hz : Gth (l.take n) z := hz
    have ez : (Sq.li z : List Pg) = (l.take n) := hz.1
    have hO : OfS ⟨8, 8, 16⟩ [] (l.take n) r := by rw [← ez]; exact hr
    have hok : Okl 8 8 (l.take n) := okl_iff.1 hO.1
    obtain ⟨i, dn, xo, xb, xq, xl, xn, xc⟩ := y
    obtain ⟨hi, A, hA, hN⟩ := hy
    change i ≤ (l.take n).length at hi
    change Gth A (xo, xb, xq, xl, xn, xc) at hA
    change Nwi (l.take n) i dn A at hN
    have hAr := hA.room
    have hAl := hN.len
    have h1 : ¬ (i : Int) < (n : Int) := of_decide_eq_false h1
    have hW : Nw (l.take n) A := hN.all (by omega)
    have hz2 : Gth A z2 := by
      have hz2 : Gth (xl.take xn) z2 := hz2
      have e : xl.take xn = A := hA.1
      rw [e] at hz2
      exact hz2
    have ez2 : (Sq.li z2 : List Pg) = A := hz2.1
    have hz2n := hz2.n
    obtain ⟨w1, w2, w3⟩ := hW.same hok
    have hS : Gth (sl8 (l.take n)) r.1 := hO.2.1
    have hSn := hS.n
    have hSl : (sl8 (l.take n)).length ≤ 536871100 := Nat.le_trans sloL_len (keyL_len g8_ok)
    have hO2 : OfS ⟨8, 8, 16⟩ [] A r2 := by rw [← ez2]; exact hr2
    have hS2 : Gth (sl8 (l.take n)) r2.1 := by rw [← w3]; exact hO2.2.1
    have hSn2 := hS2.n
    have hs1 : Gth (sl8 (l.take n)) s1 := by
      have hs1 : Gth (r.1.2.2.2.1.take r.1.2.2.2.2.1) s1 := hs1
      rw [hS.tk] at hs1
      exact hs1
    have hsn1 := hs1.n
    have hs2 : Gth (sl8 (l.take n)) s2 := by
      have hs2 : Gth (r2.1.2.2.2.1.take r2.1.2.2.2.2.1) s2 := hs2
      rw [hS2.tk] at hs2
      exact hs2
    have hsn2 := hs2.n
    exact ⟨hs1.le, hs2.le, by show s1.2.2.2.2.1 < 140737488355000; omega, hs1.off, hs2.off⟩
  · rename_i u0 hl z hz r hr u1 y hy h1 z2 hz2 r2 hr2 u2 s1 hs1 s2 hs2
    have hl : ¬ (120 : Int) < (n : Int) := of_decide_eq_false hl
    have hz : Gth (l.take n) z := hz
    have ez : (Sq.li z : List Pg) = (l.take n) := hz.1
    have hO : OfS ⟨8, 8, 16⟩ [] (l.take n) r := by rw [← ez]; exact hr
    have hok : Okl 8 8 (l.take n) := okl_iff.1 hO.1
    obtain ⟨i, dn, xo, xb, xq, xl, xn, xc⟩ := y
    obtain ⟨hi, A, hA, hN⟩ := hy
    change i ≤ (l.take n).length at hi
    change Gth A (xo, xb, xq, xl, xn, xc) at hA
    change Nwi (l.take n) i dn A at hN
    have hAr := hA.room
    have hAl := hN.len
    have h1 : ¬ (i : Int) < (n : Int) := of_decide_eq_false h1
    have hW : Nw (l.take n) A := hN.all (by omega)
    have hz2 : Gth A z2 := by
      have hz2 : Gth (xl.take xn) z2 := hz2
      have e : xl.take xn = A := hA.1
      rw [e] at hz2
      exact hz2
    have ez2 : (Sq.li z2 : List Pg) = A := hz2.1
    have hz2n := hz2.n
    obtain ⟨w1, w2, w3⟩ := hW.same hok
    have hS : Gth (sl8 (l.take n)) r.1 := hO.2.1
    have hSn := hS.n
    have hSl : (sl8 (l.take n)).length ≤ 536871100 := Nat.le_trans sloL_len (keyL_len g8_ok)
    have hO2 : OfS ⟨8, 8, 16⟩ [] A r2 := by rw [← ez2]; exact hr2
    have hS2 : Gth (sl8 (l.take n)) r2.1 := by rw [← w3]; exact hO2.2.1
    have hSn2 := hS2.n
    have hs1 : Gth (sl8 (l.take n)) s1 := by
      have hs1 : Gth (r.1.2.2.2.1.take r.1.2.2.2.2.1) s1 := hs1
      rw [hS.tk] at hs1
      exact hs1
    have hsn1 := hs1.n
    have hs2 : Gth (sl8 (l.take n)) s2 := by
      have hs2 : Gth (r2.1.2.2.2.1.take r2.1.2.2.2.2.1) s2 := hs2
      rw [hS2.tk] at hs2
      exact hs2
    have hsn2 := hs2.n
    show (lEq (s1.2.2.2.1.take s1.2.2.2.2.1) (s2.2.2.2.1.take s2.2.2.2.2.1) && decide ((nmOf 8 (gridL 8 (Sq.li z))).f = (nmOf 8 (gridL 8 (Sq.li z2))).f)) = true
    rw [hs1.tk, hs2.tk, lEq_yes rfl, ez, ez2]
    exact decide_eq_true w2.symm
  · rename_i u0 hl z hz r hr u1 y hy h1 z2 hz2 r2 r2h u2
    have hl : ¬ (120 : Int) < (n : Int) := of_decide_eq_false hl
    have hz : Gth (l.take n) z := hz
    have ez : (Sq.li z : List Pg) = (l.take n) := hz.1
    have hO : OfS ⟨8, 8, 16⟩ [] (l.take n) r := by rw [← ez]; exact hr
    have hok : Okl 8 8 (l.take n) := okl_iff.1 hO.1
    obtain ⟨i, dn, xo, xb, xq, xl, xn, xc⟩ := y
    obtain ⟨hi, A, hA, hN⟩ := hy
    change i ≤ (l.take n).length at hi
    change Gth A (xo, xb, xq, xl, xn, xc) at hA
    change Nwi (l.take n) i dn A at hN
    have hAr := hA.room
    have hAl := hN.len
    have h1 : ¬ (i : Int) < (n : Int) := of_decide_eq_false h1
    have hW : Nw (l.take n) A := hN.all (by omega)
    have hz2 : Gth A z2 := by
      have hz2 : Gth (xl.take xn) z2 := hz2
      have e : xl.take xn = A := hA.1
      rw [e] at hz2
      exact hz2
    have ez2 : (Sq.li z2 : List Pg) = A := hz2.1
    have hz2n := hz2.n
    obtain ⟨w1, w2, w3⟩ := hW.same hok
    exfalso
    obtain ⟨k, hk, hkb⟩ := r2h
    have hk : k < (Sq.li z2 : List Pg).length := hk
    have hkb : pgBad 8 8 [] (Sq.li z2) k = true := hkb
    rw [ez2] at hk hkb
    have := okl_iff.2 w1 k hk
    rw [this] at hkb
    cases hkb
end Go.Vx
set_option maxRecDepth 100000
namespace Go.Vx
open Go Go.Proofs Go.ChangeShapes Go.WideShapes Go.Deep Go.RowKit Go.Proofs.YtnihemjnhbickaaDoor

theorem c3 : Tryd.prog.cellsOf 3 = 1 := by kernel_rfl
theorem c9 : Tryd.prog.cellsOf 9 = 1 := by kernel_rfl
theorem c36 : Tryd.prog.cellsOf 36 = 2 := by kernel_rfl
theorem c38 : Tryd.prog.cellsOf 38 = 6 := by kernel_rfl
theorem c42 : Tryd.prog.cellsOf 42 = 9 := by kernel_rfl
theorem c160 : Tryd.prog.cellsOf 160 = 1 := by kernel_rfl
/-! The errors. -/
theorem star : "*" ++ "errors.errorString" = "*errors.errorString" := by decide
theorem row142 (u : TypeId) (h : Tryd.prog.typeName? 3 u = some "*errors.errorString") : u = 142 :=
  typeName_ptr_named (nm := "errors.errorString") (by rw [star]; kernel_rfl) (by kernel_rfl) (by decide) u (by rw [star]; exact h)
def pos2 (g : Nat) : Nat := match g with
  | 0 => 1
  | 1 => 0
  | g => g
theorem pos2_ok : ∀ g, g < 2 → pos2 g < [1, 0].length ∧ [1, 0].getD (pos2 g) 0 = g := by decide
/-- The errors of a list lie there, no two at one place. -/
theorem gl_of {W : World} {L : List (String × DataW Unit)} (hL : SentL Tryd.prog "*errors.errorString" 30 L [1, 0]) (h : laidMet Tryd.prog L W) :
    ∃ G : Gl, (∀ i j, i < 2 → j < 2 → @Gl.A G i = @Gl.A G j → i = j) ∧ ∀ g, g < 2 →
    W.cell? ⟨g, 0, none⟩ = some (.iface 142 (.pointer (some (@Gl.A G g)))) ∧ W.heap[(@Gl.A G g).block]? = some (.cells (@Gl.c G g) (@Gl.t G g) (0, 0)) := by
  obtain ⟨ps, hv, hnd, hrows⟩ := h
  obtain ⟨az, hs, _⟩ := laid_all Tryd.underlying30 row142 Tryd.underlying142 Tryd.underlying160 rfl rfl Tryd.underlying9 c160 c9 _ _ _ hL hv hnd hrows
  have hex : ∀ g, ∃ p : Array Value × TypeId, g < 2 → W.heap[(az.getD (pos2 g) default).block]? = some (.cells p.1 p.2 (0, 0)) := by
    intro g
    by_cases hg : g < 2
    · obtain ⟨_, c, t, h2⟩ := hs.get (pos2 g) (pos2_ok g hg).1
      exact ⟨(c, t), fun _ => h2⟩
    · exact ⟨(#[], 0), fun h => absurd h hg⟩
  refine ⟨⟨fun g => az.getD (pos2 g) default, fun g => (Classical.choose (hex g)).1, fun g => (Classical.choose (hex g)).2⟩, ?_, ?_⟩
  · intro i j hi hj he
    have := hs.one (pos2_ok i hi).1 (pos2_ok j hj).1 he
    rw [← (pos2_ok i hi).2, ← (pos2_ok j hj).2, this]
  · intro g hg
    obtain ⟨h1, _⟩ := hs.get (pos2 g) (pos2_ok g hg).1
    rw [(pos2_ok g hg).2] at h1
    exact ⟨h1, Classical.choose_spec (hex g) hg⟩
theorem gv_is [Gl] (g : Nat) : (C0 g).gv = glV g := by unfold C0; split <;> rfl
theorem gp_is [Gl] (g : Nat) : (C0 g).gpins = glP g := by unfold C0; split <;> rfl
theorem glB_lt {g : Nat} (h : glB g = true) : g < 2 := by
  unfold glB at h
  simpa using h
abbrev LaidAt [Gl] (W : World) : Prop := ∀ g, g < 2 → W.cell? ⟨g, 0, none⟩ = some (.iface 142 (.pointer (some (Gl.A g)))) ∧ W.heap[(Gl.A g).block]? = some (.cells (Gl.c g) (Gl.t g) (0, 0))
theorem more_of [Gl] {W : World} (h : LaidAt W)
    {mem : List (Ck C0)} (hnw : noWr mem = true) (hd : ∀ c ∈ mem, ∀ t x, c.cells.Has t x → (C0 t).good W x ∧ ∀ b ∈ (C0 t).blks x, b < W.heap.size) : More (wrS mem) W W mem where
  gv g v hv := by
    rw [gv_is] at hv
    unfold glV at hv
    split at hv
    · rename_i hb
      have hg := glB_lt hb
      simp only [Option.some.injEq] at hv
      subst hv
      obtain ⟨h1, _⟩ := h g hg
      refine ⟨h1, ?_, ?_⟩
      · rcases Nat.lt_or_ge g W.heap.size with h' | h'
        · exact h'
        · simp [World.cell?, Array.getElem?_eq_none h'] at h1
      · rintro ⟨c, hc, hw, _⟩
        rw [noWr_ok hnw c hc] at hw; cases hw
    · cases hv
  gp g p hp := by
    rw [gp_is] at hp
    unfold glP at hp
    split at hp
    · rename_i hb
      have hg := glB_lt hb
      rw [List.mem_singleton] at hp
      subst hp
      obtain ⟨_, h2⟩ := h g hg
      refine ⟨h2, heap_size_of h2, ?_⟩
      rintro ⟨c, hc, hw, _⟩
      rw [noWr_ok hnw c hc] at hw; cases hw
    · cases hp
  pin p hp := by cases hp
  nod := List.nodup_nil
  deep := deep_ro hnw hd
/-! What comes in. -/
theorem place_open {H : Type} {enc : TypeId × Value → H} {w : World} {base : Nat} {spare : Nat → Bool} {held : Bool} {fuel : Nat} {cs : List Value} {y : DataW H × List MemPlace} (h : DataW.trod enc Tryd.prog w base spare held fuel 36 cs = some y) :
    ∃ b : Pl, cs[0]? = some (.int .i64 b.1) ∧ cs[1]? = some (.int .i64 b.2) := by
  obtain ⟨y0, y1, n, _, _, h0, h1⟩ := trod_struct2 Tryd.underlying36 h
  simp only [c3] at h0 h1
  obtain ⟨n0, e0, _, _⟩ := DataW.trod_int Tryd.underlying3 h0
  obtain ⟨n1, e1, _, _⟩ := DataW.trod_int Tryd.underlying3 h1
  exact ⟨(n0, n1), one_at e0, one_at e1⟩
theorem meta_open {H : Type} {enc : TypeId × Value → H} {w : World} {base : Nat} {spare : Nat → Bool} {held : Bool} {fuel : Nat} {cs : List Value} {y : DataW H × List MemPlace} (h : DataW.trod enc Tryd.prog w base spare held fuel 38 cs = some y) :
    ∃ m : Me, cs[0]? = some (.int .i64 m.kind) ∧ cs[1]? = some (.int .i64 m.key) ∧ cs[2]? = some (.int .i64 m.seq) ∧ cs[3]? = some (.int .i64 m.stamp) ∧ cs[4]? = some (.int .i64 m.batch) ∧ cs[5]? = some (.int .i64 m.floor) := by
  obtain ⟨xs, n, _, rfl, hl, hlen, hf⟩ := DataW.trod_struct Tryd.underlying38 h
  match xs, hlen with
  | [y0, y1, y2, y3, y4, y5], _ =>
    have h0 : DataW.trod enc Tryd.prog w base spare held n 3 ((cs.drop 0).take (Tryd.prog.cellsOf 3)) = some y0 := hf 0 _ rfl
    have h1 : DataW.trod enc Tryd.prog w base spare held n 3 ((cs.drop 1).take (Tryd.prog.cellsOf 3)) = some y1 := hf 1 _ rfl
    have h2 : DataW.trod enc Tryd.prog w base spare held n 3 ((cs.drop 2).take (Tryd.prog.cellsOf 3)) = some y2 := hf 2 _ rfl
    have h3 : DataW.trod enc Tryd.prog w base spare held n 3 ((cs.drop 3).take (Tryd.prog.cellsOf 3)) = some y3 := hf 3 _ rfl
    have h4 : DataW.trod enc Tryd.prog w base spare held n 3 ((cs.drop 4).take (Tryd.prog.cellsOf 3)) = some y4 := hf 4 _ rfl
    have h5 : DataW.trod enc Tryd.prog w base spare held n 3 ((cs.drop 5).take (Tryd.prog.cellsOf 3)) = some y5 := hf 5 _ rfl
    simp only [c3] at h0 h1 h2 h3 h4 h5
    obtain ⟨n0, e0, _, _⟩ := DataW.trod_int Tryd.underlying3 h0
    obtain ⟨n1, e1, _, _⟩ := DataW.trod_int Tryd.underlying3 h1
    obtain ⟨n2, e2, _, _⟩ := DataW.trod_int Tryd.underlying3 h2
    obtain ⟨n3, e3, _, _⟩ := DataW.trod_int Tryd.underlying3 h3
    obtain ⟨n4, e4, _, _⟩ := DataW.trod_int Tryd.underlying3 h4
    obtain ⟨n5, e5, _, _⟩ := DataW.trod_int Tryd.underlying3 h5
    exact ⟨⟨n0, n1, n2, n3, n4, n5⟩, one_at e0, one_at e1, one_at e2, one_at e3, one_at e4, one_at e5⟩
theorem page_open {H : Type} {enc : TypeId × Value → H} {w : World} {base : Nat} {spare : Nat → Bool} {held : Bool} {fuel : Nat} {cs : List Value} {y : DataW H × List MemPlace} (h : DataW.trod enc Tryd.prog w base spare held fuel 42 cs = some y) :
    ∃ b : Pg, ∀ f, f < 9 → cs[f]? = some (cellV cPg b f) := by
  obtain ⟨y0, y1, y2, n, _, _, h0, h1, h2⟩ := Go.Deep.trod_struct3 Tryd.underlying42 h
  simp only [c3, c36, c38] at h0 h1 h2
  obtain ⟨p, hp0, hp1⟩ := place_open h0
  obtain ⟨n0, e0, _, _⟩ := DataW.trod_int Tryd.underlying3 h1
  obtain ⟨m, m0, m1, m2, m3, m4, m5⟩ := meta_open h2
  refine ⟨⟨p, n0, m⟩, fun f hf => ?_⟩
  have p0 := part_at hp0
  have p1 := part_at hp1
  have k0 := part_at m0
  have k1 := part_at m1
  have k2 := part_at m2
  have k3 := part_at m3
  have k4 := part_at m4
  have k5 := part_at m5
  rcases f with _ | _ | _ | _ | _ | _ | _ | _ | _ | f
  · exact p0
  · exact p1
  · exact one_at e0
  · exact k0
  · exact k1
  · exact k2
  · exact k3
  · exact k4
  · exact k5
  · omega
/-- Pages that came in. -/
theorem pages_open {H : Type} {enc : TypeId × Value → H} {W : World} {base b0 : Nat} {r : Reach} {v : Value} {d : DataW H} {p : List MemPlace} (hv : Value.okWide Tryd.prog W r b0 22 v)
    (h : DataW.Trod enc Tryd.prog W base (fun _ => true) true 22 v d p) : ∃ (a : Option Addr) (n c : Nat) (l : List Pg), v = .slice a n c ∧ IsPart cPg W a n c l := by
  obtain ⟨a, n, c, rfl⟩ := okWide_slice Tryd.underlying22 hv
  obtain ⟨fuel, hf⟩ := h
  have hf : DataW.trod enc Tryd.prog W base (fun _ => true) true fuel 22 [.slice a n c] = some (d, p) := by simpa [Value.cells] using hf
  obtain ⟨zs, hz⟩ := rows_open2 cPg Tryd.underlying22 c42 (fun _ _ _ h => page_open h) (fun x hx => okWide_at Tryd.underlying22 (a := x) (by rw [hx] at hv; exact hv)) hf
  exact ⟨a, n, c, zs, rfl, hz.part⟩
/-- A record that came in. -/
theorem record_open {H : Type} {enc : TypeId × Value → H} {W : World} {base b0 : Nat} {r : Reach} {v : Value} {d : DataW H} {p : List MemPlace} (hv : Value.okWide Tryd.prog W r b0 38 v)
    (h : DataW.Trod enc Tryd.prog W base (fun _ => true) true 38 v d p) : ∃ m : Me, v = .agg #[.int .i64 m.kind, .int .i64 m.key, .int .i64 m.seq, .int .i64 m.stamp, .int .i64 m.batch, .int .i64 m.floor] := by
  obtain ⟨cs, rfl, hsz⟩ := okWide_struct Tryd.underlying38 hv
  obtain ⟨fuel, hf⟩ := h
  rw [c38] at hsz
  obtain ⟨l⟩ := cs
  match l, hsz with
  | [v0, v1, v2, v3, v4, v5], _ =>
    have hf : DataW.trod enc Tryd.prog W base (fun _ => true) true fuel 38 [v0, v1, v2, v3, v4, v5] = some (d, p) := hf
    obtain ⟨m, h0, h1, h2, h3, h4, h5⟩ := meta_open hf
    cases h0; cases h1; cases h2; cases h3; cases h4; cases h5
    exact ⟨m, rfl⟩
theorem pages_mem [Gl] {w : World} {a : Option Addr} {n c : Nat} {l : List Pg} (b1 : IsPart (C0 42) w a n c l) (hG : LaidAt w) : MemOK (C := C0) (wrS (C := C0) [inCk 42 a l]) w w [inCk 42 a l] := by
  refine memRo rfl (fun x hx ho => ?_) (fun x hx ho => ?_) (more_of hG rfl fun x hx t y hy => ?_)
  · rw [List.mem_singleton.1 hx] at ho ⊢
    exact b1.ok _ ho
  · rw [List.mem_singleton.1 hx] at ho ⊢
    exact b1.lt ho
  · rw [List.mem_singleton.1 hx] at hy
    obtain ⟨e, _⟩ := Cells.Has.inv hy
    subst e
    exact ⟨trivial, fun b hb => by cases hb⟩
/-- Two lists of pages that came in. -/
theorem pages_mem2 [Gl] {w : World} {a : Option Addr} {n c : Nat} {l : List Pg} {a2 : Option Addr} {n2 c2 : Nat} {l2 : List Pg} (b1 : IsPart (C0 42) w a n c l) (b2 : IsPart (C0 42) w a2 n2 c2 l2) (hG : LaidAt w) :
    MemOK (C := C0) (wrS (C := C0) [inCk 42 a l, inCk 42 a2 l2]) w w [inCk 42 a l, inCk 42 a2 l2] := by
  refine memRo rfl (fun x hx ho => ?_) (fun x hx ho => ?_) (more_of hG rfl fun x hx t y hy => ?_)
  · simp only [List.mem_cons, List.not_mem_nil, or_false] at hx
    rcases hx with rfl | rfl
    · exact b1.ok _ ho
    · exact b2.ok _ ho
  · simp only [List.mem_cons, List.not_mem_nil, or_false] at hx
    rcases hx with rfl | rfl
    · exact b1.lt ho
    · exact b2.lt ho
  · simp only [List.mem_cons, List.not_mem_nil, or_false] at hx
    rcases hx with rfl | rfl
    all_goals
      obtain ⟨e, _⟩ := Cells.Has.inv hy
      subst e
      exact ⟨trivial, fun b hb => by cases hb⟩
end Go.Vx
set_option maxRecDepth 100000
namespace Go.Vx
open Go Go.Proofs Go.ChangeShapes Go.WideShapes Go.Deep Go.RowKit Go.Proofs.YtnihemjnhbickaaDoor

abbrev I64 (n : Int) : Prop := -9223372036854775808 ≤ n ∧ n ≤ 9223372036854775807
theorem i64_of {n : Int} (h : (Lit.int .i64 n).wf = true) : I64 n := by
  simp [Lit.wf, IntKind.min, IntKind.max, IntKind.signed, IntKind.bits] at h
  exact h
structure MeIn (m : Me) : Prop where
  kind : I64 m.kind
  key : I64 m.key
  seq : I64 m.seq
  stamp : I64 m.stamp
  batch : I64 m.batch
  floor : I64 m.floor
structure PgIn (p : Pg) : Prop where
  off : I64 p.pl.1
  len : I64 p.pl.2
  size : I64 p.cl
  me : MeIn p.me
/-- A slice of things that have no slices of their own, and what is known of each. -/
theorem rows_open3 {P : Program} {H : Type} {enc : TypeId × Value → H} {W : World} {base : Nat} {a : Option Addr} {len cap : Nat} {fuel : Nat} {y : DataW H × List MemPlace} {ts te : TypeId} (c : Codec) {Q : c.α → Prop} (hu : P.underlying ts = some (.slice te)) (hsz : P.cellsOf te = c.sz)
    (hop : ∀ (fuel : Nat) (cs : List Value) (y : DataW H × List MemPlace), DataW.trod enc P W base (fun _ => true) true fuel te cs = some y → ∃ b : c.α, (∀ f, f < c.sz → cs[f]? = some (cellV c b f)) ∧ Q b)
    (hv : ∀ x, a = some x → x.spot = none ∧ x.block < W.heap.size) (hf : DataW.trod enc P W base (fun _ => true) true fuel ts [.slice a len cap] = some y) : ∃ zs, IsRows c W a len cap zs ∧ ∀ b ∈ zs, Q b := by
  rcases open_slice hu hf with ⟨hcs, _⟩ | ⟨x, l, c', m, n, D, Pl, hcs, _, hl, hm, hmc, _, hall⟩
  · simp at hcs
    obtain ⟨rfl, rfl, rfl⟩ := hcs
    exact ⟨[], .inl ⟨rfl, rfl, rfl, rfl⟩, fun _ h => by cases h⟩
  · simp at hcs
    obtain ⟨rfl, rfl, rfl⟩ := hcs
    simp at hmc
    subst hmc
    obtain ⟨hs, hb⟩ := hv _ rfl
    have hex : ∀ i, i < m → ∃ b : c.α, (∀ f, f < c.sz → W.cell? (x.add (i * c.sz + f)) = some (cellV c b f)) ∧ Q b := fun i hi => by
      obtain ⟨cs', h1, h2⟩ := hall i hi
      rw [hsz] at h1
      obtain ⟨b, hb, hQ⟩ := hop _ _ _ h2
      obtain ⟨_, _, h3⟩ := World.cells?_some h1
      exact ⟨b, fun f hf => by rw [← add_add, h3 f hf, hb f hf], hQ⟩
    haveI : Inhabited c.α := ⟨c.dflt⟩
    obtain ⟨g, hg⟩ := choose_lt hex
    refine ⟨(List.range m).map g, .inr ⟨x, rfl, hs, hb, hl, by simp, fun i hi f hf => ?_⟩, fun b hb => ?_⟩
    · rw [(hg i hi).1 f hf]
      congr 2
      simp [List.getD_eq_getElem?_getD, hi]
    · obtain ⟨i, hi, rfl⟩ := List.mem_map.1 hb
      exact (hg i (List.mem_range.1 hi)).2
theorem place_in {H : Type} {enc : TypeId × Value → H} {w : World} {base : Nat} {spare : Nat → Bool} {held : Bool} {fuel : Nat} {cs : List Value} {y : DataW H × List MemPlace} (h : DataW.trod enc Tryd.prog w base spare held fuel 36 cs = some y) :
    ∃ b : Pl, (cs[0]? = some (.int .i64 b.1) ∧ cs[1]? = some (.int .i64 b.2)) ∧ I64 b.1 ∧ I64 b.2 := by
  obtain ⟨y0, y1, n, _, _, h0, h1⟩ := trod_struct2 Tryd.underlying36 h
  simp only [c3] at h0 h1
  obtain ⟨n0, e0, _, w0⟩ := DataW.trod_int Tryd.underlying3 h0
  obtain ⟨n1, e1, _, w1⟩ := DataW.trod_int Tryd.underlying3 h1
  exact ⟨(n0, n1), ⟨one_at e0, one_at e1⟩, i64_of w0, i64_of w1⟩
theorem meta_in {H : Type} {enc : TypeId × Value → H} {w : World} {base : Nat} {spare : Nat → Bool} {held : Bool} {fuel : Nat} {cs : List Value} {y : DataW H × List MemPlace} (h : DataW.trod enc Tryd.prog w base spare held fuel 38 cs = some y) :
    ∃ m : Me, (cs[0]? = some (.int .i64 m.kind) ∧ cs[1]? = some (.int .i64 m.key) ∧ cs[2]? = some (.int .i64 m.seq) ∧ cs[3]? = some (.int .i64 m.stamp) ∧ cs[4]? = some (.int .i64 m.batch) ∧ cs[5]? = some (.int .i64 m.floor)) ∧ MeIn m := by
  obtain ⟨xs, n, _, rfl, hl, hlen, hf⟩ := DataW.trod_struct Tryd.underlying38 h
  match xs, hlen with
  | [y0, y1, y2, y3, y4, y5], _ =>
    have h0 : DataW.trod enc Tryd.prog w base spare held n 3 ((cs.drop 0).take (Tryd.prog.cellsOf 3)) = some y0 := hf 0 _ rfl
    have h1 : DataW.trod enc Tryd.prog w base spare held n 3 ((cs.drop 1).take (Tryd.prog.cellsOf 3)) = some y1 := hf 1 _ rfl
    have h2 : DataW.trod enc Tryd.prog w base spare held n 3 ((cs.drop 2).take (Tryd.prog.cellsOf 3)) = some y2 := hf 2 _ rfl
    have h3 : DataW.trod enc Tryd.prog w base spare held n 3 ((cs.drop 3).take (Tryd.prog.cellsOf 3)) = some y3 := hf 3 _ rfl
    have h4 : DataW.trod enc Tryd.prog w base spare held n 3 ((cs.drop 4).take (Tryd.prog.cellsOf 3)) = some y4 := hf 4 _ rfl
    have h5 : DataW.trod enc Tryd.prog w base spare held n 3 ((cs.drop 5).take (Tryd.prog.cellsOf 3)) = some y5 := hf 5 _ rfl
    simp only [c3] at h0 h1 h2 h3 h4 h5
    obtain ⟨n0, e0, _, w0⟩ := DataW.trod_int Tryd.underlying3 h0
    obtain ⟨n1, e1, _, w1⟩ := DataW.trod_int Tryd.underlying3 h1
    obtain ⟨n2, e2, _, w2⟩ := DataW.trod_int Tryd.underlying3 h2
    obtain ⟨n3, e3, _, w3⟩ := DataW.trod_int Tryd.underlying3 h3
    obtain ⟨n4, e4, _, w4⟩ := DataW.trod_int Tryd.underlying3 h4
    obtain ⟨n5, e5, _, w5⟩ := DataW.trod_int Tryd.underlying3 h5
    exact ⟨⟨n0, n1, n2, n3, n4, n5⟩, ⟨one_at e0, one_at e1, one_at e2, one_at e3, one_at e4, one_at e5⟩, i64_of w0, i64_of w1, i64_of w2, i64_of w3, i64_of w4, i64_of w5⟩
theorem page_in {H : Type} {enc : TypeId × Value → H} {w : World} {base : Nat} {spare : Nat → Bool} {held : Bool} {fuel : Nat} {cs : List Value} {y : DataW H × List MemPlace} (h : DataW.trod enc Tryd.prog w base spare held fuel 42 cs = some y) :
    ∃ b : Pg, (∀ f, f < 9 → cs[f]? = some (cellV cPg b f)) ∧ PgIn b := by
  obtain ⟨y0, y1, y2, n, _, _, h0, h1, h2⟩ := Go.Deep.trod_struct3 Tryd.underlying42 h
  simp only [c3, c36, c38] at h0 h1 h2
  obtain ⟨p, ⟨hp0, hp1⟩, wp0, wp1⟩ := place_in h0
  obtain ⟨n0, e0, _, w0⟩ := DataW.trod_int Tryd.underlying3 h1
  obtain ⟨m, ⟨m0, m1, m2, m3, m4, m5⟩, wm⟩ := meta_in h2
  refine ⟨⟨p, n0, m⟩, fun f hf => ?_, wp0, wp1, i64_of w0, wm⟩
  have p0 := part_at hp0
  have p1 := part_at hp1
  have k0 := part_at m0
  have k1 := part_at m1
  have k2 := part_at m2
  have k3 := part_at m3
  have k4 := part_at m4
  have k5 := part_at m5
  rcases f with _ | _ | _ | _ | _ | _ | _ | _ | _ | f
  · exact p0
  · exact p1
  · exact one_at e0
  · exact k0
  · exact k1
  · exact k2
  · exact k3
  · exact k4
  · exact k5
  · omega
/-- Pages that came in. -/
theorem pages_in {H : Type} {enc : TypeId × Value → H} {W : World} {base b0 : Nat} {r : Reach} {v : Value} {d : DataW H} {p : List MemPlace} (hv : Value.okWide Tryd.prog W r b0 22 v)
    (h : DataW.Trod enc Tryd.prog W base (fun _ => true) true 22 v d p) : ∃ (a : Option Addr) (n c : Nat) (l : List Pg), v = .slice a n c ∧ IsPart cPg W a n c l ∧ ∀ b ∈ l, PgIn b := by
  obtain ⟨a, n, c, rfl⟩ := okWide_slice Tryd.underlying22 hv
  obtain ⟨fuel, hf⟩ := h
  have hf : DataW.trod enc Tryd.prog W base (fun _ => true) true fuel 22 [.slice a n c] = some (d, p) := by simpa [Value.cells] using hf
  obtain ⟨zs, hz, hQ⟩ := rows_open3 cPg (Q := PgIn) Tryd.underlying22 c42 (fun _ _ _ h => page_in h) (fun x hx => okWide_at Tryd.underlying22 (a := x) (by rw [hx] at hv; exact hv)) hf
  exact ⟨a, n, c, zs, rfl, hz.part, hQ⟩
/-- A record that came in. -/
theorem record_in {H : Type} {enc : TypeId × Value → H} {W : World} {base b0 : Nat} {r : Reach} {v : Value} {d : DataW H} {p : List MemPlace} (hv : Value.okWide Tryd.prog W r b0 38 v)
    (h : DataW.Trod enc Tryd.prog W base (fun _ => true) true 38 v d p) : ∃ m : Me, v = .agg #[.int .i64 m.kind, .int .i64 m.key, .int .i64 m.seq, .int .i64 m.stamp, .int .i64 m.batch, .int .i64 m.floor] ∧ MeIn m := by
  obtain ⟨cs, rfl, hsz⟩ := okWide_struct Tryd.underlying38 hv
  obtain ⟨fuel, hf⟩ := h
  rw [c38] at hsz
  obtain ⟨l⟩ := cs
  match l, hsz with
  | [v0, v1, v2, v3, v4, v5], _ =>
    have hf : DataW.trod enc Tryd.prog W base (fun _ => true) true fuel 38 [v0, v1, v2, v3, v4, v5] = some (d, p) := hf
    obtain ⟨m, ⟨h0, h1, h2, h3, h4, h5⟩, wm⟩ := meta_in hf
    cases h0; cases h1; cases h2; cases h3; cases h4; cases h5
    exact ⟨m, rfl, wm⟩
end Go.Vx
