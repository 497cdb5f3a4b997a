/-
  Round 22: ScanHeads: the walk.
  Round 22: the errors that are laid; the inputs.
  Conditions: none.
-/
import Derived.Test.YtnihemjnhbickaaDoorM4
import Derived.Test.YtnihemjnhbickaaDoorM8
import Derived.Test.YtnihemjnhbickaaDoorRows
import Derived.LaidMore
import Derived.ChangeOld
import Derived.Below
import Derived.Stop.Joined
import Derived.Lib.SmallJoins
set_option linter.unusedVariables false
set_option linter.unusedSimpArgs false
set_option linter.unusedSectionVars false
set_option maxRecDepth 100000
namespace Go.Vx
open Go Go.Proofs
variable [Gl]

abbrev chR (y : Sq Pg) : Ck C0 := ⟨y.2.1, y.2.2.1, 9, true, some y.1, .rows 42 y.2.2.2.1⟩
def H7 (b : Int) (m : Me) (L : List Pg) : Inv' C0 := ⟨7, Nat × Sq Pg, fun y => [(10, .junk), (62, .junk), (64, .junk), (65, .junk), (9, .int .i64 (y.1 : Int)), (8, .sl 2 0 y.2.2.2.2.2.1 y.2.2.2.2.2.2)], fun y k => match k with
  | c0 :: c1 :: _ => [c0, c1, chR y.2]
  | _ => [], fun y => y.1 ≤ L.length ∧ Gth ((L.take y.1).map (updP b m)) y.2 ∧ ∀ j, j < y.1 → fstP b (L.getD j pg0) = true → ¬ (m.kind = 1 ∧ m.key = b), fun y => L.length - y.1⟩
def H20 (b : Int) (X : List Pg) : Inv' C0 := ⟨20, Nat × Sq Pg, fun y => [(88, .junk), (93, .junk), (94, .junk), (14, .int .i64 (y.1 : Int)), (13, .sl 11 0 y.2.2.2.2.2.1 y.2.2.2.2.2.2)], fun y k => match k with
  | c0 :: c1 :: c2 :: c3 :: c4 :: c5 :: c6 :: c7 :: c8 :: c9 :: c10 :: _ => [c0, c1, c2, c3, c4, c5, c6, c7, c8, c9, c10, chR y.2]
  | _ => [],
  fun y => y.1 ≤ X.length ∧ Gth ((X.take y.1).filter fun p => decide (p.pl.1 ≠ b)) y.2, fun y => X.length - y.1⟩
def H27 (b : Int) (S : List Slot) : Inv' C0 := ⟨27, Nat, fun y => [(18, .int .i64 (y : Int))], fun _ k => k, fun y => y ≤ S.length, fun y => S.length - y⟩
set_option maxHeartbeats 16000000 in
theorem heads_ok (o : Bool) (b q : Nat) (l : List Pg) (n c : Nat) (bk : Int) (m : Me) (hn : n ≤ l.length) (ho : o = false → n = 0 ∧ c = 0) : Tells (C := C0) Tryd.prog (.fn 6) [⟨b, q, 9, false, some o, .rows 42 l⟩] [.sl 0 0 n c, .int .i64 bk, .agg (meE m)] (.bool .t) := by
  have hb7 := and_le bk 7 (by decide)
  change 0 ≤ ibit .and .i64 bk 7 ∧ ibit .and .i64 bk 7 ≤ 7 at hb7
  have hL := tk_len hn
  have hBB : (((ibit .and .i64 bk 7).toNat : Nat) : Int) = (ibit .and .i64 bk 7) := Int.toNat_of_nonneg hb7.1
  have hB8 : (ibit .and .i64 bk 7).toNat < 8 := by omega
  refine loc_pc (P := Tryd.prog) (E := ⟨[fcOf, fcMade, fcSlotsc], [pcFirst, pcSameInts], 143, [], [], []⟩) (L := [H7 (ibit .and .i64 bk 7) m (l.take n), H20 (ibit .and .i64 bk 7) ((l.take n).map (updP (ibit .and .i64 bk 7) m)), H27 (ibit .and .i64 bk 7) (sloS ⟨8, 8, 16⟩ 8 (gridL 8 ((l.take n).map (updP (ibit .and .i64 bk 7) m))))]) mix Tryd.func6 rfl (by kernel_rfl) (by kernel_rfl) rfl rfl ?_
  ((conv => (arg 1; reduce)); with_reducible repeat' (first | exact Tr.yes_h | refine Tr.and_h ?_ ?_ | refine Tr.imp_h fun _ => ?_ | refine Tr.all_h fun _ => ?_ | refine Tr.lf_h ?_))
  all_goals try (first | first | (show Region.lexB _ _ = true; kernel_rfl) | (show planned _ _ = true; kernel_rfl) | exact rfl | exact True.intro | (first | exact key3 | exact zeroB | exact zeroR | exact zeroS | exact ⟨key3, zeroB⟩ | exact ⟨key3, zeroR⟩ | exact ⟨key3, zeroS⟩) | ((try dsimp only [imp, C0, cG, cInt, cPl, cSlot, cPg, gwCodec] at *); (try refine inR64 ?_ ?_) <;> (try simp only [List.length_set, List.length_append, List.length_take, List.length_drop]) <;> omega))
  · refine Stands.one (0, (false, 0, 0, [], 0, 0)) ⟨⟨Nat.zero_le _, Gth.nil, fun j hj => absurd hj (Nat.not_lt_zero j)⟩, ?_⟩
    ((conv => (arg 1; reduce)); with_reducible repeat' (first | exact Tr.yes_h | refine Tr.and_h ?_ ?_ | refine Tr.imp_h fun _ => ?_ | refine Tr.all_h fun _ => ?_ | refine Tr.lf_h ?_))
    all_goals (first | first | (show Region.lexB _ _ = true; kernel_rfl) | (show planned _ _ = true; kernel_rfl) | exact rfl | exact True.intro | (first | exact key3 | exact zeroB | exact zeroR | exact zeroS | exact ⟨key3, zeroB⟩ | exact ⟨key3, zeroR⟩ | exact ⟨key3, zeroS⟩) | ((try dsimp only [imp, C0, cG, cInt, cPl, cSlot, cPg, gwCodec] at *); (try refine inR64 ?_ ?_) <;> (try simp only [List.length_set, List.length_append, List.length_take, List.length_drop]) <;> omega))
  · rename_i u0 hl y hy h1
    obtain ⟨i, yo, yb, yq, yl, yn, yc⟩ := y
    have hl : ¬ (120 : Int) < (n : Int) := of_decide_eq_false hl
    have hy : i ≤ (l.take n).length ∧ Gth (((l.take n).take i).map (updP (ibit .and .i64 bk 7) m)) (yo, yb, yq, yl, yn, yc) ∧ ∀ j, j < i → fstP (ibit .and .i64 bk 7) ((l.take n).getD j pg0) = true → ¬ (m.kind = 1 ∧ m.key = (ibit .and .i64 bk 7)) := hy
    have hR := hy.2.1.room
    have h1 : (i : Int) < (n : Int) := of_decide_eq_true h1
    have hil : i < (l.take n).length := by rw [hL]; omega
    have hnn : yn = i := by
      rw [hR.2.2.1, List.length_map, List.length_take]; omega
    exact on_of ho (by omega)
  · rename_i u0 hl y hy h1
    obtain ⟨i, yo, yb, yq, yl, yn, yc⟩ := y
    have hl : ¬ (120 : Int) < (n : Int) := of_decide_eq_false hl
    have hy : i ≤ (l.take n).length ∧ Gth (((l.take n).take i).map (updP (ibit .and .i64 bk 7) m)) (yo, yb, yq, yl, yn, yc) ∧ ∀ j, j < i → fstP (ibit .and .i64 bk 7) ((l.take n).getD j pg0) = true → ¬ (m.kind = 1 ∧ m.key = (ibit .and .i64 bk 7)) := hy
    have hR := hy.2.1.room
    have h1 : (i : Int) < (n : Int) := of_decide_eq_true h1
    have hil : i < (l.take n).length := by rw [hL]; omega
    have hnn : yn = i := by
      rw [hR.2.2.1, List.length_map, List.length_take]; omega
    exact h1
  · rename_i u0 hl y hy h1
    obtain ⟨i, yo, yb, yq, yl, yn, yc⟩ := y
    have hl : ¬ (120 : Int) < (n : Int) := of_decide_eq_false hl
    have hy : i ≤ (l.take n).length ∧ Gth (((l.take n).take i).map (updP (ibit .and .i64 bk 7) m)) (yo, yb, yq, yl, yn, yc) ∧ ∀ j, j < i → fstP (ibit .and .i64 bk 7) ((l.take n).getD j pg0) = true → ¬ (m.kind = 1 ∧ m.key = (ibit .and .i64 bk 7)) := hy
    have hR := hy.2.1.room
    have h1 : (i : Int) < (n : Int) := of_decide_eq_true h1
    have hil : i < (l.take n).length := by rw [hL]; omega
    have hnn : yn = i := by
      rw [hR.2.2.1, List.length_map, List.length_take]; omega
    exact on_of ho (by omega)
  · rename_i u0 hl y hy h1
    obtain ⟨i, yo, yb, yq, yl, yn, yc⟩ := y
    have hl : ¬ (120 : Int) < (n : Int) := of_decide_eq_false hl
    have hy : i ≤ (l.take n).length ∧ Gth (((l.take n).take i).map (updP (ibit .and .i64 bk 7) m)) (yo, yb, yq, yl, yn, yc) ∧ ∀ j, j < i → fstP (ibit .and .i64 bk 7) ((l.take n).getD j pg0) = true → ¬ (m.kind = 1 ∧ m.key = (ibit .and .i64 bk 7)) := hy
    have hR := hy.2.1.room
    have h1 : (i : Int) < (n : Int) := of_decide_eq_true h1
    have hil : i < (l.take n).length := by rw [hL]; omega
    have hnn : yn = i := by
      rw [hR.2.2.1, List.length_map, List.length_take]; omega
    show i < l.length
    omega
  · rename_i u0 hl y hy h1 u1 hf hno u2
    obtain ⟨i, yo, yb, yq, yl, yn, yc⟩ := y
    have hl : ¬ (120 : Int) < (n : Int) := of_decide_eq_false hl
    have hy : i ≤ (l.take n).length ∧ Gth (((l.take n).take i).map (updP (ibit .and .i64 bk 7) m)) (yo, yb, yq, yl, yn, yc) ∧ ∀ j, j < i → fstP (ibit .and .i64 bk 7) ((l.take n).getD j pg0) = true → ¬ (m.kind = 1 ∧ m.key = (ibit .and .i64 bk 7)) := hy
    have hR := hy.2.1.room
    have h1 : (i : Int) < (n : Int) := of_decide_eq_true h1
    have hil : i < (l.take n).length := by rw [hL]; omega
    have hnn : yn = i := by
      rw [hR.2.2.1, List.length_map, List.length_take]; omega
    have by42 : Tryd.prog.types[42].bytes = 72 := by kernel_rfl
    rw [by42]
    exact ⟨hR.1, by show 0 + yc ≤ yl.length; omega, by simp, by show (yn + 1) * 72 ≤ _; omega⟩
  · rename_i u0 hl y hy h1 u1 hf hno u2
    obtain ⟨i, yo, yb, yq, yl, yn, yc⟩ := y
    have hl : ¬ (120 : Int) < (n : Int) := of_decide_eq_false hl
    have hy : i ≤ (l.take n).length ∧ Gth (((l.take n).take i).map (updP (ibit .and .i64 bk 7) m)) (yo, yb, yq, yl, yn, yc) ∧ ∀ j, j < i → fstP (ibit .and .i64 bk 7) ((l.take n).getD j pg0) = true → ¬ (m.kind = 1 ∧ m.key = (ibit .and .i64 bk 7)) := hy
    have hR := hy.2.1.room
    have h1 : (i : Int) < (n : Int) := of_decide_eq_true h1
    have hil : i < (l.take n).length := by rw [hL]; omega
    have hnn : yn = i := by
      rw [hR.2.2.1, List.length_map, List.length_take]; omega
    exact hR.2.2.2
  · rename_i u0 hl y hy h1 u1 hf hno u2 b9 q9 sp cp e1 e2
    obtain ⟨i, yo, yb, yq, yl, yn, yc⟩ := y
    have hl : ¬ (120 : Int) < (n : Int) := of_decide_eq_false hl
    have hy : i ≤ (l.take n).length ∧ Gth (((l.take n).take i).map (updP (ibit .and .i64 bk 7) m)) (yo, yb, yq, yl, yn, yc) ∧ ∀ j, j < i → fstP (ibit .and .i64 bk 7) ((l.take n).getD j pg0) = true → ¬ (m.kind = 1 ∧ m.key = (ibit .and .i64 bk 7)) := hy
    have hR := hy.2.1.room
    have h1 : (i : Int) < (n : Int) := of_decide_eq_true h1
    have hil : i < (l.take n).length := by rw [hL]; omega
    have hnn : yn = i := by
      rw [hR.2.2.1, List.length_map, List.length_take]; omega
    exact inR64 (by show -9223372036854775808 ≤ (i : Int) + 1; omega) (by show (i : Int) + 1 ≤ 9223372036854775807; omega)
  · rename_i u0 hl y hy h1 u1 hf hno u2 b9 q9 sp cp e1 e2
    obtain ⟨i, yo, yb, yq, yl, yn, yc⟩ := y
    have hl : ¬ (120 : Int) < (n : Int) := of_decide_eq_false hl
    have hy : i ≤ (l.take n).length ∧ Gth (((l.take n).take i).map (updP (ibit .and .i64 bk 7) m)) (yo, yb, yq, yl, yn, yc) ∧ ∀ j, j < i → fstP (ibit .and .i64 bk 7) ((l.take n).getD j pg0) = true → ¬ (m.kind = 1 ∧ m.key = (ibit .and .i64 bk 7)) := hy
    have hR := hy.2.1.room
    have h1 : (i : Int) < (n : Int) := of_decide_eq_true h1
    have hil : i < (l.take n).length := by rw [hL]; omega
    have hnn : yn = i := by
      rw [hR.2.2.1, List.length_map, List.length_take]; omega
    have hg : (l.take n).getD i pg0 = l.getD i pg0 := tk_get (by omega)
    have hu : updP (ibit .and .i64 bk 7) m ((l.take n).getD i pg0) = { l.getD i pg0 with me := m } := by
      have hf : fstP (ibit .and .i64 bk 7) (l.getD i pg0) = true := hf
      unfold updP
      rw [hg, if_pos hf]
    refine Stands.one (i + 1, (true, b9, q9, yl.take yn ++ [{ l.getD i pg0 with me := m }] ++ sp, yn + 1, cp)) ⟨⟨by show i + 1 ≤ (l.take n).length; omega, ?_, ?_⟩, by show (l.take n).length - (i + 1) < (l.take n).length - i; omega, ?_⟩
    · show Gth (((l.take n).take (i + 1)).map (updP (ibit .and .i64 bk 7) m)) _
      rw [take_snoc (d := pg0) hil, List.map_append, List.map_cons, List.map_nil, hu]
      exact hy.2.1.snoc e1 e2
    · intro j hj
      by_cases e : j = i
      · rw [e]
        intro hfi
        have hno : (decide (m.kind = 1) && decide (m.key = (ibit .and .i64 bk 7))) = false := hno
        rintro ⟨g1, g2⟩
        rw [decide_eq_true g1, decide_eq_true g2] at hno
        cases hno
      · exact hy.2.2 j (by omega)
    ((conv => (arg 1; reduce)); with_reducible repeat' (first | exact Tr.yes_h | refine Tr.and_h ?_ ?_ | refine Tr.imp_h fun _ => ?_ | refine Tr.all_h fun _ => ?_ | refine Tr.lf_h ?_))
    all_goals (first | first | (show Region.lexB _ _ = true; kernel_rfl) | (show planned _ _ = true; kernel_rfl) | exact rfl | exact True.intro | (first | exact key3 | exact zeroB | exact zeroR | exact zeroS | exact ⟨key3, zeroB⟩ | exact ⟨key3, zeroR⟩ | exact ⟨key3, zeroS⟩) | ((try dsimp only [imp, C0, cG, cInt, cPl, cSlot, cPg, gwCodec] at *); (try refine inR64 ?_ ?_) <;> (try simp only [List.length_set, List.length_append, List.length_take, List.length_drop]) <;> omega))
  · rename_i u0 hl y hy h1 u1 hf u2
    obtain ⟨i, yo, yb, yq, yl, yn, yc⟩ := y
    have hl : ¬ (120 : Int) < (n : Int) := of_decide_eq_false hl
    have hy : i ≤ (l.take n).length ∧ Gth (((l.take n).take i).map (updP (ibit .and .i64 bk 7) m)) (yo, yb, yq, yl, yn, yc) ∧ ∀ j, j < i → fstP (ibit .and .i64 bk 7) ((l.take n).getD j pg0) = true → ¬ (m.kind = 1 ∧ m.key = (ibit .and .i64 bk 7)) := hy
    have hR := hy.2.1.room
    have h1 : (i : Int) < (n : Int) := of_decide_eq_true h1
    have hil : i < (l.take n).length := by rw [hL]; omega
    have hnn : yn = i := by
      rw [hR.2.2.1, List.length_map, List.length_take]; omega
    have by42 : Tryd.prog.types[42].bytes = 72 := by kernel_rfl
    rw [by42]
    exact ⟨hR.1, by show 0 + yc ≤ yl.length; omega, by simp, by show (yn + 1) * 72 ≤ _; omega⟩
  · rename_i u0 hl y hy h1 u1 hf u2
    obtain ⟨i, yo, yb, yq, yl, yn, yc⟩ := y
    have hl : ¬ (120 : Int) < (n : Int) := of_decide_eq_false hl
    have hy : i ≤ (l.take n).length ∧ Gth (((l.take n).take i).map (updP (ibit .and .i64 bk 7) m)) (yo, yb, yq, yl, yn, yc) ∧ ∀ j, j < i → fstP (ibit .and .i64 bk 7) ((l.take n).getD j pg0) = true → ¬ (m.kind = 1 ∧ m.key = (ibit .and .i64 bk 7)) := hy
    have hR := hy.2.1.room
    have h1 : (i : Int) < (n : Int) := of_decide_eq_true h1
    have hil : i < (l.take n).length := by rw [hL]; omega
    have hnn : yn = i := by
      rw [hR.2.2.1, List.length_map, List.length_take]; omega
    exact hR.2.2.2
  · rename_i u0 hl y hy h1 u1 hf u2 b9 q9 sp cp e1 e2
    obtain ⟨i, yo, yb, yq, yl, yn, yc⟩ := y
    have hl : ¬ (120 : Int) < (n : Int) := of_decide_eq_false hl
    have hy : i ≤ (l.take n).length ∧ Gth (((l.take n).take i).map (updP (ibit .and .i64 bk 7) m)) (yo, yb, yq, yl, yn, yc) ∧ ∀ j, j < i → fstP (ibit .and .i64 bk 7) ((l.take n).getD j pg0) = true → ¬ (m.kind = 1 ∧ m.key = (ibit .and .i64 bk 7)) := hy
    have hR := hy.2.1.room
    have h1 : (i : Int) < (n : Int) := of_decide_eq_true h1
    have hil : i < (l.take n).length := by rw [hL]; omega
    have hnn : yn = i := by
      rw [hR.2.2.1, List.length_map, List.length_take]; omega
    exact inR64 (by show -9223372036854775808 ≤ (i : Int) + 1; omega) (by show (i : Int) + 1 ≤ 9223372036854775807; omega)
  · rename_i u0 hl y hy h1 u1 hf u2 b9 q9 sp cp e1 e2
    obtain ⟨i, yo, yb, yq, yl, yn, yc⟩ := y
    have hl : ¬ (120 : Int) < (n : Int) := of_decide_eq_false hl
    have hy : i ≤ (l.take n).length ∧ Gth (((l.take n).take i).map (updP (ibit .and .i64 bk 7) m)) (yo, yb, yq, yl, yn, yc) ∧ ∀ j, j < i → fstP (ibit .and .i64 bk 7) ((l.take n).getD j pg0) = true → ¬ (m.kind = 1 ∧ m.key = (ibit .and .i64 bk 7)) := hy
    have hR := hy.2.1.room
    have h1 : (i : Int) < (n : Int) := of_decide_eq_true h1
    have hil : i < (l.take n).length := by rw [hL]; omega
    have hnn : yn = i := by
      rw [hR.2.2.1, List.length_map, List.length_take]; omega
    have hg : (l.take n).getD i pg0 = l.getD i pg0 := tk_get (by omega)
    have hu : updP (ibit .and .i64 bk 7) m ((l.take n).getD i pg0) = l.getD i pg0 := by
      have hf : fstP (ibit .and .i64 bk 7) (l.getD i pg0) = false := hf
      unfold updP
      rw [hg, if_neg (by rw [hf]; exact Bool.false_ne_true)]
    refine Stands.one (i + 1, (true, b9, q9, yl.take yn ++ [l.getD i pg0] ++ sp, yn + 1, cp)) ⟨⟨by show i + 1 ≤ (l.take n).length; omega, ?_, ?_⟩, by show (l.take n).length - (i + 1) < (l.take n).length - i; omega, ?_⟩
    · show Gth (((l.take n).take (i + 1)).map (updP (ibit .and .i64 bk 7) m)) _
      rw [take_snoc (d := pg0) hil, List.map_append, List.map_cons, List.map_nil, hu]
      exact hy.2.1.snoc e1 e2
    · intro j hj
      by_cases e : j = i
      · rw [e]
        intro hfi
        have hf : fstP (ibit .and .i64 bk 7) (l.getD i pg0) = false := hf
        rw [hg, hf] at hfi
        cases hfi
      · exact hy.2.2 j (by omega)
    ((conv => (arg 1; reduce)); with_reducible repeat' (first | exact Tr.yes_h | refine Tr.and_h ?_ ?_ | refine Tr.imp_h fun _ => ?_ | refine Tr.all_h fun _ => ?_ | refine Tr.lf_h ?_))
    all_goals (first | first | (show Region.lexB _ _ = true; kernel_rfl) | (show planned _ _ = true; kernel_rfl) | exact rfl | exact True.intro | (first | exact key3 | exact zeroB | exact zeroR | exact zeroS | exact ⟨key3, zeroB⟩ | exact ⟨key3, zeroR⟩ | exact ⟨key3, zeroS⟩) | ((try dsimp only [imp, C0, cG, cInt, cPl, cSlot, cPg, gwCodec] at *); (try refine inR64 ?_ ?_) <;> (try simp only [List.length_set, List.length_append, List.length_take, List.length_drop]) <;> omega))
  · rename_i u0 hl y hy h1
    obtain ⟨i, yo, yb, yq, yl, yn, yc⟩ := y
    have hl : ¬ (120 : Int) < (n : Int) := of_decide_eq_false hl
    have hy : i ≤ (l.take n).length ∧ Gth (((l.take n).take i).map (updP (ibit .and .i64 bk 7) m)) (yo, yb, yq, yl, yn, yc) ∧ ∀ j, j < i → fstP (ibit .and .i64 bk 7) ((l.take n).getD j pg0) = true → ¬ (m.kind = 1 ∧ m.key = (ibit .and .i64 bk 7)) := hy
    have hR := hy.2.1.room
    have h1 : ¬ (i : Int) < (n : Int) := of_decide_eq_false h1
    have ei : i = (l.take n).length := by have := hy.1; rw [hL] at this ⊢; omega
    have hX : Gth ((l.take n).map (updP (ibit .and .i64 bk 7) m)) (yo, yb, yq, yl, yn, yc) := by
      have := hy.2.1
      rw [ei, List.take_of_length_le (Nat.le_refl _)] at this
      exact this
    have hXl : (((l.take n).map (updP (ibit .and .i64 bk 7) m))).length = n := by rw [List.length_map, hL]
    have hyn : yn = n := hX.n.trans hXl
    have hno : ¬ HdAt ((l.take n).map (updP (ibit .and .i64 bk 7) m)) (ibit .and .i64 bk 7) := heads_no fun j hj => hy.2.2 j (by omega)
    exact ⟨hX.le, by show yn < 1000000000; omega, hR.2.2.2⟩
  · rename_i u0 hl y hy h1 z hz
    obtain ⟨i, yo, yb, yq, yl, yn, yc⟩ := y
    have hl : ¬ (120 : Int) < (n : Int) := of_decide_eq_false hl
    have hy : i ≤ (l.take n).length ∧ Gth (((l.take n).take i).map (updP (ibit .and .i64 bk 7) m)) (yo, yb, yq, yl, yn, yc) ∧ ∀ j, j < i → fstP (ibit .and .i64 bk 7) ((l.take n).getD j pg0) = true → ¬ (m.kind = 1 ∧ m.key = (ibit .and .i64 bk 7)) := hy
    have hR := hy.2.1.room
    have h1 : ¬ (i : Int) < (n : Int) := of_decide_eq_false h1
    have ei : i = (l.take n).length := by have := hy.1; rw [hL] at this ⊢; omega
    have hX : Gth ((l.take n).map (updP (ibit .and .i64 bk 7) m)) (yo, yb, yq, yl, yn, yc) := by
      have := hy.2.1
      rw [ei, List.take_of_length_le (Nat.le_refl _)] at this
      exact this
    have hXl : (((l.take n).map (updP (ibit .and .i64 bk 7) m))).length = n := by rw [List.length_map, hL]
    have hyn : yn = n := hX.n.trans hXl
    have hno : ¬ HdAt ((l.take n).map (updP (ibit .and .i64 bk 7) m)) (ibit .and .i64 bk 7) := heads_no fun j hj => hy.2.2 j (by omega)
    have hz : Gth ((l.take n).map (updP (ibit .and .i64 bk 7) m)) z := by
      have hz : Gth (yl.take yn) z := hz
      have e : yl.take yn = ((l.take n).map (updP (ibit .and .i64 bk 7) m)) := hX.1
      rw [e] at hz
      exact hz
    exact ⟨by decide, by decide, by decide, ⟨Nat.le_refl 0, by decide, fun _ => ⟨rfl, rfl⟩⟩, hz.le, by have := hz.n; show z.2.2.2.2.1 < 1000000; omega, hz.off⟩
  · rename_i u0 hl y hy h1 z hz r hr u3
    obtain ⟨i, yo, yb, yq, yl, yn, yc⟩ := y
    have hl : ¬ (120 : Int) < (n : Int) := of_decide_eq_false hl
    have hy : i ≤ (l.take n).length ∧ Gth (((l.take n).take i).map (updP (ibit .and .i64 bk 7) m)) (yo, yb, yq, yl, yn, yc) ∧ ∀ j, j < i → fstP (ibit .and .i64 bk 7) ((l.take n).getD j pg0) = true → ¬ (m.kind = 1 ∧ m.key = (ibit .and .i64 bk 7)) := hy
    have hR := hy.2.1.room
    have h1 : ¬ (i : Int) < (n : Int) := of_decide_eq_false h1
    have ei : i = (l.take n).length := by have := hy.1; rw [hL] at this ⊢; omega
    have hX : Gth ((l.take n).map (updP (ibit .and .i64 bk 7) m)) (yo, yb, yq, yl, yn, yc) := by
      have := hy.2.1
      rw [ei, List.take_of_length_le (Nat.le_refl _)] at this
      exact this
    have hXl : (((l.take n).map (updP (ibit .and .i64 bk 7) m))).length = n := by rw [List.length_map, hL]
    have hyn : yn = n := hX.n.trans hXl
    have hno : ¬ HdAt ((l.take n).map (updP (ibit .and .i64 bk 7) m)) (ibit .and .i64 bk 7) := heads_no fun j hj => hy.2.2 j (by omega)
    have hz : Gth ((l.take n).map (updP (ibit .and .i64 bk 7) m)) z := by
      have hz : Gth (yl.take yn) z := hz
      have e : yl.take yn = ((l.take n).map (updP (ibit .and .i64 bk 7) m)) := hX.1
      rw [e] at hz
      exact hz
    have ez : (Sq.li z : List Pg) = ((l.take n).map (updP (ibit .and .i64 bk 7) m)) := hz.1
    have hO : OfS ⟨8, 8, 16⟩ [] ((l.take n).map (updP (ibit .and .i64 bk 7) m)) r := by rw [← ez]; exact hr
    have hok : Okl 8 8 ((l.take n).map (updP (ibit .and .i64 bk 7) m)) := okl_iff.1 hO.1
    have D : Drops (ibit .and .i64 bk 7).toNat ((l.take n).map (updP (ibit .and .i64 bk 7) m)) (((l.take n).map (updP (ibit .and .i64 bk 7) m)).filter fun p => decide (p.pl.1 ≠ (ibit .and .i64 bk 7))) := by
      have := drops_of hB8 hok (by rw [hBB]; exact hno)
      rw [hBB] at this
      exact this
    have hS : Gth (sloS ⟨8, 8, 16⟩ 8 (gridL 8 ((l.take n).map (updP (ibit .and .i64 bk 7) m)))) r.1 := hO.2.1
    have hSl : ((sloS ⟨8, 8, 16⟩ 8 (gridL 8 ((l.take n).map (updP (ibit .and .i64 bk 7) m))))).length ≤ 536871100 := Nat.le_trans sloL_len (keyL_len ⟨by decide, by decide, by decide⟩)
    have hSn := hS.n
    refine Stands.one (0, (false, 0, 0, [], 0, 0)) ⟨⟨Nat.zero_le _, by show Gth ((((l.take n).map (updP (ibit .and .i64 bk 7) m)).take 0).filter _) _; rw [List.take_zero]; exact Gth.nil⟩, ?_⟩
    ((conv => (arg 1; reduce)); with_reducible repeat' (first | exact Tr.yes_h | refine Tr.and_h ?_ ?_ | refine Tr.imp_h fun _ => ?_ | refine Tr.all_h fun _ => ?_ | refine Tr.lf_h ?_))
    all_goals (first | first | (show Region.lexB _ _ = true; kernel_rfl) | (show planned _ _ = true; kernel_rfl) | exact rfl | exact True.intro | (first | exact key3 | exact zeroB | exact zeroR | exact zeroS | exact ⟨key3, zeroB⟩ | exact ⟨key3, zeroR⟩ | exact ⟨key3, zeroS⟩) | ((try dsimp only [imp, C0, cG, cInt, cPl, cSlot, cPg, gwCodec] at *); (try refine inR64 ?_ ?_) <;> (try simp only [List.length_set, List.length_append, List.length_take, List.length_drop]) <;> omega))
  · rename_i u0 hl y hy h1 z hz r hr u3 w hw h2
    obtain ⟨i, yo, yb, yq, yl, yn, yc⟩ := y
    have hl : ¬ (120 : Int) < (n : Int) := of_decide_eq_false hl
    have hy : i ≤ (l.take n).length ∧ Gth (((l.take n).take i).map (updP (ibit .and .i64 bk 7) m)) (yo, yb, yq, yl, yn, yc) ∧ ∀ j, j < i → fstP (ibit .and .i64 bk 7) ((l.take n).getD j pg0) = true → ¬ (m.kind = 1 ∧ m.key = (ibit .and .i64 bk 7)) := hy
    have hR := hy.2.1.room
    have h1 : ¬ (i : Int) < (n : Int) := of_decide_eq_false h1
    have ei : i = (l.take n).length := by have := hy.1; rw [hL] at this ⊢; omega
    have hX : Gth ((l.take n).map (updP (ibit .and .i64 bk 7) m)) (yo, yb, yq, yl, yn, yc) := by
      have := hy.2.1
      rw [ei, List.take_of_length_le (Nat.le_refl _)] at this
      exact this
    have hXl : (((l.take n).map (updP (ibit .and .i64 bk 7) m))).length = n := by rw [List.length_map, hL]
    have hyn : yn = n := hX.n.trans hXl
    have hno : ¬ HdAt ((l.take n).map (updP (ibit .and .i64 bk 7) m)) (ibit .and .i64 bk 7) := heads_no fun j hj => hy.2.2 j (by omega)
    have hz : Gth ((l.take n).map (updP (ibit .and .i64 bk 7) m)) z := by
      have hz : Gth (yl.take yn) z := hz
      have e : yl.take yn = ((l.take n).map (updP (ibit .and .i64 bk 7) m)) := hX.1
      rw [e] at hz
      exact hz
    have ez : (Sq.li z : List Pg) = ((l.take n).map (updP (ibit .and .i64 bk 7) m)) := hz.1
    have hO : OfS ⟨8, 8, 16⟩ [] ((l.take n).map (updP (ibit .and .i64 bk 7) m)) r := by rw [← ez]; exact hr
    have hok : Okl 8 8 ((l.take n).map (updP (ibit .and .i64 bk 7) m)) := okl_iff.1 hO.1
    have D : Drops (ibit .and .i64 bk 7).toNat ((l.take n).map (updP (ibit .and .i64 bk 7) m)) (((l.take n).map (updP (ibit .and .i64 bk 7) m)).filter fun p => decide (p.pl.1 ≠ (ibit .and .i64 bk 7))) := by
      have := drops_of hB8 hok (by rw [hBB]; exact hno)
      rw [hBB] at this
      exact this
    have hS : Gth (sloS ⟨8, 8, 16⟩ 8 (gridL 8 ((l.take n).map (updP (ibit .and .i64 bk 7) m)))) r.1 := hO.2.1
    have hSl : ((sloS ⟨8, 8, 16⟩ 8 (gridL 8 ((l.take n).map (updP (ibit .and .i64 bk 7) m))))).length ≤ 536871100 := Nat.le_trans sloL_len (keyL_len ⟨by decide, by decide, by decide⟩)
    have hSn := hS.n
    obtain ⟨j, wo, wb, wq, wl, wn, wc⟩ := w
    have hw : j ≤ (((l.take n).map (updP (ibit .and .i64 bk 7) m))).length ∧ Gth ((((l.take n).map (updP (ibit .and .i64 bk 7) m)).take j).filter fun p => decide (p.pl.1 ≠ (ibit .and .i64 bk 7))) (wo, wb, wq, wl, wn, wc) := hw
    have hW := hw.2.room
    have h2 : (j : Int) < (yn : Int) := of_decide_eq_true h2
    have hjX : j < (((l.take n).map (updP (ibit .and .i64 bk 7) m))).length := by omega
    have ejX : yl.getD j pg0 = (((l.take n).map (updP (ibit .and .i64 bk 7) m))).getD j pg0 := hX.at (by omega)
    have hwn : wn ≤ j := by
      rw [hW.2.2.1]
      exact Nat.le_trans (List.length_filter_le _ _) (List.length_take_le _ _)
    exact hX.on (by omega)
  · rename_i u0 hl y hy h1 z hz r hr u3 w hw h2
    obtain ⟨i, yo, yb, yq, yl, yn, yc⟩ := y
    have hl : ¬ (120 : Int) < (n : Int) := of_decide_eq_false hl
    have hy : i ≤ (l.take n).length ∧ Gth (((l.take n).take i).map (updP (ibit .and .i64 bk 7) m)) (yo, yb, yq, yl, yn, yc) ∧ ∀ j, j < i → fstP (ibit .and .i64 bk 7) ((l.take n).getD j pg0) = true → ¬ (m.kind = 1 ∧ m.key = (ibit .and .i64 bk 7)) := hy
    have hR := hy.2.1.room
    have h1 : ¬ (i : Int) < (n : Int) := of_decide_eq_false h1
    have ei : i = (l.take n).length := by have := hy.1; rw [hL] at this ⊢; omega
    have hX : Gth ((l.take n).map (updP (ibit .and .i64 bk 7) m)) (yo, yb, yq, yl, yn, yc) := by
      have := hy.2.1
      rw [ei, List.take_of_length_le (Nat.le_refl _)] at this
      exact this
    have hXl : (((l.take n).map (updP (ibit .and .i64 bk 7) m))).length = n := by rw [List.length_map, hL]
    have hyn : yn = n := hX.n.trans hXl
    have hno : ¬ HdAt ((l.take n).map (updP (ibit .and .i64 bk 7) m)) (ibit .and .i64 bk 7) := heads_no fun j hj => hy.2.2 j (by omega)
    have hz : Gth ((l.take n).map (updP (ibit .and .i64 bk 7) m)) z := by
      have hz : Gth (yl.take yn) z := hz
      have e : yl.take yn = ((l.take n).map (updP (ibit .and .i64 bk 7) m)) := hX.1
      rw [e] at hz
      exact hz
    have ez : (Sq.li z : List Pg) = ((l.take n).map (updP (ibit .and .i64 bk 7) m)) := hz.1
    have hO : OfS ⟨8, 8, 16⟩ [] ((l.take n).map (updP (ibit .and .i64 bk 7) m)) r := by rw [← ez]; exact hr
    have hok : Okl 8 8 ((l.take n).map (updP (ibit .and .i64 bk 7) m)) := okl_iff.1 hO.1
    have D : Drops (ibit .and .i64 bk 7).toNat ((l.take n).map (updP (ibit .and .i64 bk 7) m)) (((l.take n).map (updP (ibit .and .i64 bk 7) m)).filter fun p => decide (p.pl.1 ≠ (ibit .and .i64 bk 7))) := by
      have := drops_of hB8 hok (by rw [hBB]; exact hno)
      rw [hBB] at this
      exact this
    have hS : Gth (sloS ⟨8, 8, 16⟩ 8 (gridL 8 ((l.take n).map (updP (ibit .and .i64 bk 7) m)))) r.1 := hO.2.1
    have hSl : ((sloS ⟨8, 8, 16⟩ 8 (gridL 8 ((l.take n).map (updP (ibit .and .i64 bk 7) m))))).length ≤ 536871100 := Nat.le_trans sloL_len (keyL_len ⟨by decide, by decide, by decide⟩)
    have hSn := hS.n
    obtain ⟨j, wo, wb, wq, wl, wn, wc⟩ := w
    have hw : j ≤ (((l.take n).map (updP (ibit .and .i64 bk 7) m))).length ∧ Gth ((((l.take n).map (updP (ibit .and .i64 bk 7) m)).take j).filter fun p => decide (p.pl.1 ≠ (ibit .and .i64 bk 7))) (wo, wb, wq, wl, wn, wc) := hw
    have hW := hw.2.room
    have h2 : (j : Int) < (yn : Int) := of_decide_eq_true h2
    have hjX : j < (((l.take n).map (updP (ibit .and .i64 bk 7) m))).length := by omega
    have ejX : yl.getD j pg0 = (((l.take n).map (updP (ibit .and .i64 bk 7) m))).getD j pg0 := hX.at (by omega)
    have hwn : wn ≤ j := by
      rw [hW.2.2.1]
      exact Nat.le_trans (List.length_filter_le _ _) (List.length_take_le _ _)
    exact h2
  · rename_i u0 hl y hy h1 z hz r hr u3 w hw h2
    obtain ⟨i, yo, yb, yq, yl, yn, yc⟩ := y
    have hl : ¬ (120 : Int) < (n : Int) := of_decide_eq_false hl
    have hy : i ≤ (l.take n).length ∧ Gth (((l.take n).take i).map (updP (ibit .and .i64 bk 7) m)) (yo, yb, yq, yl, yn, yc) ∧ ∀ j, j < i → fstP (ibit .and .i64 bk 7) ((l.take n).getD j pg0) = true → ¬ (m.kind = 1 ∧ m.key = (ibit .and .i64 bk 7)) := hy
    have hR := hy.2.1.room
    have h1 : ¬ (i : Int) < (n : Int) := of_decide_eq_false h1
    have ei : i = (l.take n).length := by have := hy.1; rw [hL] at this ⊢; omega
    have hX : Gth ((l.take n).map (updP (ibit .and .i64 bk 7) m)) (yo, yb, yq, yl, yn, yc) := by
      have := hy.2.1
      rw [ei, List.take_of_length_le (Nat.le_refl _)] at this
      exact this
    have hXl : (((l.take n).map (updP (ibit .and .i64 bk 7) m))).length = n := by rw [List.length_map, hL]
    have hyn : yn = n := hX.n.trans hXl
    have hno : ¬ HdAt ((l.take n).map (updP (ibit .and .i64 bk 7) m)) (ibit .and .i64 bk 7) := heads_no fun j hj => hy.2.2 j (by omega)
    have hz : Gth ((l.take n).map (updP (ibit .and .i64 bk 7) m)) z := by
      have hz : Gth (yl.take yn) z := hz
      have e : yl.take yn = ((l.take n).map (updP (ibit .and .i64 bk 7) m)) := hX.1
      rw [e] at hz
      exact hz
    have ez : (Sq.li z : List Pg) = ((l.take n).map (updP (ibit .and .i64 bk 7) m)) := hz.1
    have hO : OfS ⟨8, 8, 16⟩ [] ((l.take n).map (updP (ibit .and .i64 bk 7) m)) r := by rw [← ez]; exact hr
    have hok : Okl 8 8 ((l.take n).map (updP (ibit .and .i64 bk 7) m)) := okl_iff.1 hO.1
    have D : Drops (ibit .and .i64 bk 7).toNat ((l.take n).map (updP (ibit .and .i64 bk 7) m)) (((l.take n).map (updP (ibit .and .i64 bk 7) m)).filter fun p => decide (p.pl.1 ≠ (ibit .and .i64 bk 7))) := by
      have := drops_of hB8 hok (by rw [hBB]; exact hno)
      rw [hBB] at this
      exact this
    have hS : Gth (sloS ⟨8, 8, 16⟩ 8 (gridL 8 ((l.take n).map (updP (ibit .and .i64 bk 7) m)))) r.1 := hO.2.1
    have hSl : ((sloS ⟨8, 8, 16⟩ 8 (gridL 8 ((l.take n).map (updP (ibit .and .i64 bk 7) m))))).length ≤ 536871100 := Nat.le_trans sloL_len (keyL_len ⟨by decide, by decide, by decide⟩)
    have hSn := hS.n
    obtain ⟨j, wo, wb, wq, wl, wn, wc⟩ := w
    have hw : j ≤ (((l.take n).map (updP (ibit .and .i64 bk 7) m))).length ∧ Gth ((((l.take n).map (updP (ibit .and .i64 bk 7) m)).take j).filter fun p => decide (p.pl.1 ≠ (ibit .and .i64 bk 7))) (wo, wb, wq, wl, wn, wc) := hw
    have hW := hw.2.room
    have h2 : (j : Int) < (yn : Int) := of_decide_eq_true h2
    have hjX : j < (((l.take n).map (updP (ibit .and .i64 bk 7) m))).length := by omega
    have ejX : yl.getD j pg0 = (((l.take n).map (updP (ibit .and .i64 bk 7) m))).getD j pg0 := hX.at (by omega)
    have hwn : wn ≤ j := by
      rw [hW.2.2.1]
      exact Nat.le_trans (List.length_filter_le _ _) (List.length_take_le _ _)
    exact hX.on (by omega)
  · rename_i u0 hl y hy h1 z hz r hr u3 w hw h2
    obtain ⟨i, yo, yb, yq, yl, yn, yc⟩ := y
    have hl : ¬ (120 : Int) < (n : Int) := of_decide_eq_false hl
    have hy : i ≤ (l.take n).length ∧ Gth (((l.take n).take i).map (updP (ibit .and .i64 bk 7) m)) (yo, yb, yq, yl, yn, yc) ∧ ∀ j, j < i → fstP (ibit .and .i64 bk 7) ((l.take n).getD j pg0) = true → ¬ (m.kind = 1 ∧ m.key = (ibit .and .i64 bk 7)) := hy
    have hR := hy.2.1.room
    have h1 : ¬ (i : Int) < (n : Int) := of_decide_eq_false h1
    have ei : i = (l.take n).length := by have := hy.1; rw [hL] at this ⊢; omega
    have hX : Gth ((l.take n).map (updP (ibit .and .i64 bk 7) m)) (yo, yb, yq, yl, yn, yc) := by
      have := hy.2.1
      rw [ei, List.take_of_length_le (Nat.le_refl _)] at this
      exact this
    have hXl : (((l.take n).map (updP (ibit .and .i64 bk 7) m))).length = n := by rw [List.length_map, hL]
    have hyn : yn = n := hX.n.trans hXl
    have hno : ¬ HdAt ((l.take n).map (updP (ibit .and .i64 bk 7) m)) (ibit .and .i64 bk 7) := heads_no fun j hj => hy.2.2 j (by omega)
    have hz : Gth ((l.take n).map (updP (ibit .and .i64 bk 7) m)) z := by
      have hz : Gth (yl.take yn) z := hz
      have e : yl.take yn = ((l.take n).map (updP (ibit .and .i64 bk 7) m)) := hX.1
      rw [e] at hz
      exact hz
    have ez : (Sq.li z : List Pg) = ((l.take n).map (updP (ibit .and .i64 bk 7) m)) := hz.1
    have hO : OfS ⟨8, 8, 16⟩ [] ((l.take n).map (updP (ibit .and .i64 bk 7) m)) r := by rw [← ez]; exact hr
    have hok : Okl 8 8 ((l.take n).map (updP (ibit .and .i64 bk 7) m)) := okl_iff.1 hO.1
    have D : Drops (ibit .and .i64 bk 7).toNat ((l.take n).map (updP (ibit .and .i64 bk 7) m)) (((l.take n).map (updP (ibit .and .i64 bk 7) m)).filter fun p => decide (p.pl.1 ≠ (ibit .and .i64 bk 7))) := by
      have := drops_of hB8 hok (by rw [hBB]; exact hno)
      rw [hBB] at this
      exact this
    have hS : Gth (sloS ⟨8, 8, 16⟩ 8 (gridL 8 ((l.take n).map (updP (ibit .and .i64 bk 7) m)))) r.1 := hO.2.1
    have hSl : ((sloS ⟨8, 8, 16⟩ 8 (gridL 8 ((l.take n).map (updP (ibit .and .i64 bk 7) m))))).length ≤ 536871100 := Nat.le_trans sloL_len (keyL_len ⟨by decide, by decide, by decide⟩)
    have hSn := hS.n
    obtain ⟨j, wo, wb, wq, wl, wn, wc⟩ := w
    have hw : j ≤ (((l.take n).map (updP (ibit .and .i64 bk 7) m))).length ∧ Gth ((((l.take n).map (updP (ibit .and .i64 bk 7) m)).take j).filter fun p => decide (p.pl.1 ≠ (ibit .and .i64 bk 7))) (wo, wb, wq, wl, wn, wc) := hw
    have hW := hw.2.room
    have h2 : (j : Int) < (yn : Int) := of_decide_eq_true h2
    have hjX : j < (((l.take n).map (updP (ibit .and .i64 bk 7) m))).length := by omega
    have ejX : yl.getD j pg0 = (((l.take n).map (updP (ibit .and .i64 bk 7) m))).getD j pg0 := hX.at (by omega)
    have hwn : wn ≤ j := by
      rw [hW.2.2.1]
      exact Nat.le_trans (List.length_filter_le _ _) (List.length_take_le _ _)
    show j < yl.length
    omega
  · rename_i u0 hl y hy h1 z hz r hr u3 w hw h2 hb
    obtain ⟨i, yo, yb, yq, yl, yn, yc⟩ := y
    have hl : ¬ (120 : Int) < (n : Int) := of_decide_eq_false hl
    have hy : i ≤ (l.take n).length ∧ Gth (((l.take n).take i).map (updP (ibit .and .i64 bk 7) m)) (yo, yb, yq, yl, yn, yc) ∧ ∀ j, j < i → fstP (ibit .and .i64 bk 7) ((l.take n).getD j pg0) = true → ¬ (m.kind = 1 ∧ m.key = (ibit .and .i64 bk 7)) := hy
    have hR := hy.2.1.room
    have h1 : ¬ (i : Int) < (n : Int) := of_decide_eq_false h1
    have ei : i = (l.take n).length := by have := hy.1; rw [hL] at this ⊢; omega
    have hX : Gth ((l.take n).map (updP (ibit .and .i64 bk 7) m)) (yo, yb, yq, yl, yn, yc) := by
      have := hy.2.1
      rw [ei, List.take_of_length_le (Nat.le_refl _)] at this
      exact this
    have hXl : (((l.take n).map (updP (ibit .and .i64 bk 7) m))).length = n := by rw [List.length_map, hL]
    have hyn : yn = n := hX.n.trans hXl
    have hno : ¬ HdAt ((l.take n).map (updP (ibit .and .i64 bk 7) m)) (ibit .and .i64 bk 7) := heads_no fun j hj => hy.2.2 j (by omega)
    have hz : Gth ((l.take n).map (updP (ibit .and .i64 bk 7) m)) z := by
      have hz : Gth (yl.take yn) z := hz
      have e : yl.take yn = ((l.take n).map (updP (ibit .and .i64 bk 7) m)) := hX.1
      rw [e] at hz
      exact hz
    have ez : (Sq.li z : List Pg) = ((l.take n).map (updP (ibit .and .i64 bk 7) m)) := hz.1
    have hO : OfS ⟨8, 8, 16⟩ [] ((l.take n).map (updP (ibit .and .i64 bk 7) m)) r := by rw [← ez]; exact hr
    have hok : Okl 8 8 ((l.take n).map (updP (ibit .and .i64 bk 7) m)) := okl_iff.1 hO.1
    have D : Drops (ibit .and .i64 bk 7).toNat ((l.take n).map (updP (ibit .and .i64 bk 7) m)) (((l.take n).map (updP (ibit .and .i64 bk 7) m)).filter fun p => decide (p.pl.1 ≠ (ibit .and .i64 bk 7))) := by
      have := drops_of hB8 hok (by rw [hBB]; exact hno)
      rw [hBB] at this
      exact this
    have hS : Gth (sloS ⟨8, 8, 16⟩ 8 (gridL 8 ((l.take n).map (updP (ibit .and .i64 bk 7) m)))) r.1 := hO.2.1
    have hSl : ((sloS ⟨8, 8, 16⟩ 8 (gridL 8 ((l.take n).map (updP (ibit .and .i64 bk 7) m))))).length ≤ 536871100 := Nat.le_trans sloL_len (keyL_len ⟨by decide, by decide, by decide⟩)
    have hSn := hS.n
    obtain ⟨j, wo, wb, wq, wl, wn, wc⟩ := w
    have hw : j ≤ (((l.take n).map (updP (ibit .and .i64 bk 7) m))).length ∧ Gth ((((l.take n).map (updP (ibit .and .i64 bk 7) m)).take j).filter fun p => decide (p.pl.1 ≠ (ibit .and .i64 bk 7))) (wo, wb, wq, wl, wn, wc) := hw
    have hW := hw.2.room
    have h2 : (j : Int) < (yn : Int) := of_decide_eq_true h2
    have hjX : j < (((l.take n).map (updP (ibit .and .i64 bk 7) m))).length := by omega
    have ejX : yl.getD j pg0 = (((l.take n).map (updP (ibit .and .i64 bk 7) m))).getD j pg0 := hX.at (by omega)
    have hwn : wn ≤ j := by
      rw [hW.2.2.1]
      exact Nat.le_trans (List.length_filter_le _ _) (List.length_take_le _ _)
    exact hX.on (by omega)
  · rename_i u0 hl y hy h1 z hz r hr u3 w hw h2 hb
    obtain ⟨i, yo, yb, yq, yl, yn, yc⟩ := y
    have hl : ¬ (120 : Int) < (n : Int) := of_decide_eq_false hl
    have hy : i ≤ (l.take n).length ∧ Gth (((l.take n).take i).map (updP (ibit .and .i64 bk 7) m)) (yo, yb, yq, yl, yn, yc) ∧ ∀ j, j < i → fstP (ibit .and .i64 bk 7) ((l.take n).getD j pg0) = true → ¬ (m.kind = 1 ∧ m.key = (ibit .and .i64 bk 7)) := hy
    have hR := hy.2.1.room
    have h1 : ¬ (i : Int) < (n : Int) := of_decide_eq_false h1
    have ei : i = (l.take n).length := by have := hy.1; rw [hL] at this ⊢; omega
    have hX : Gth ((l.take n).map (updP (ibit .and .i64 bk 7) m)) (yo, yb, yq, yl, yn, yc) := by
      have := hy.2.1
      rw [ei, List.take_of_length_le (Nat.le_refl _)] at this
      exact this
    have hXl : (((l.take n).map (updP (ibit .and .i64 bk 7) m))).length = n := by rw [List.length_map, hL]
    have hyn : yn = n := hX.n.trans hXl
    have hno : ¬ HdAt ((l.take n).map (updP (ibit .and .i64 bk 7) m)) (ibit .and .i64 bk 7) := heads_no fun j hj => hy.2.2 j (by omega)
    have hz : Gth ((l.take n).map (updP (ibit .and .i64 bk 7) m)) z := by
      have hz : Gth (yl.take yn) z := hz
      have e : yl.take yn = ((l.take n).map (updP (ibit .and .i64 bk 7) m)) := hX.1
      rw [e] at hz
      exact hz
    have ez : (Sq.li z : List Pg) = ((l.take n).map (updP (ibit .and .i64 bk 7) m)) := hz.1
    have hO : OfS ⟨8, 8, 16⟩ [] ((l.take n).map (updP (ibit .and .i64 bk 7) m)) r := by rw [← ez]; exact hr
    have hok : Okl 8 8 ((l.take n).map (updP (ibit .and .i64 bk 7) m)) := okl_iff.1 hO.1
    have D : Drops (ibit .and .i64 bk 7).toNat ((l.take n).map (updP (ibit .and .i64 bk 7) m)) (((l.take n).map (updP (ibit .and .i64 bk 7) m)).filter fun p => decide (p.pl.1 ≠ (ibit .and .i64 bk 7))) := by
      have := drops_of hB8 hok (by rw [hBB]; exact hno)
      rw [hBB] at this
      exact this
    have hS : Gth (sloS ⟨8, 8, 16⟩ 8 (gridL 8 ((l.take n).map (updP (ibit .and .i64 bk 7) m)))) r.1 := hO.2.1
    have hSl : ((sloS ⟨8, 8, 16⟩ 8 (gridL 8 ((l.take n).map (updP (ibit .and .i64 bk 7) m))))).length ≤ 536871100 := Nat.le_trans sloL_len (keyL_len ⟨by decide, by decide, by decide⟩)
    have hSn := hS.n
    obtain ⟨j, wo, wb, wq, wl, wn, wc⟩ := w
    have hw : j ≤ (((l.take n).map (updP (ibit .and .i64 bk 7) m))).length ∧ Gth ((((l.take n).map (updP (ibit .and .i64 bk 7) m)).take j).filter fun p => decide (p.pl.1 ≠ (ibit .and .i64 bk 7))) (wo, wb, wq, wl, wn, wc) := hw
    have hW := hw.2.room
    have h2 : (j : Int) < (yn : Int) := of_decide_eq_true h2
    have hjX : j < (((l.take n).map (updP (ibit .and .i64 bk 7) m))).length := by omega
    have ejX : yl.getD j pg0 = (((l.take n).map (updP (ibit .and .i64 bk 7) m))).getD j pg0 := hX.at (by omega)
    have hwn : wn ≤ j := by
      rw [hW.2.2.1]
      exact Nat.le_trans (List.length_filter_le _ _) (List.length_take_le _ _)
    exact h2
  · rename_i u0 hl y hy h1 z hz r hr u3 w hw h2 hb
    obtain ⟨i, yo, yb, yq, yl, yn, yc⟩ := y
    have hl : ¬ (120 : Int) < (n : Int) := of_decide_eq_false hl
    have hy : i ≤ (l.take n).length ∧ Gth (((l.take n).take i).map (updP (ibit .and .i64 bk 7) m)) (yo, yb, yq, yl, yn, yc) ∧ ∀ j, j < i → fstP (ibit .and .i64 bk 7) ((l.take n).getD j pg0) = true → ¬ (m.kind = 1 ∧ m.key = (ibit .and .i64 bk 7)) := hy
    have hR := hy.2.1.room
    have h1 : ¬ (i : Int) < (n : Int) := of_decide_eq_false h1
    have ei : i = (l.take n).length := by have := hy.1; rw [hL] at this ⊢; omega
    have hX : Gth ((l.take n).map (updP (ibit .and .i64 bk 7) m)) (yo, yb, yq, yl, yn, yc) := by
      have := hy.2.1
      rw [ei, List.take_of_length_le (Nat.le_refl _)] at this
      exact this
    have hXl : (((l.take n).map (updP (ibit .and .i64 bk 7) m))).length = n := by rw [List.length_map, hL]
    have hyn : yn = n := hX.n.trans hXl
    have hno : ¬ HdAt ((l.take n).map (updP (ibit .and .i64 bk 7) m)) (ibit .and .i64 bk 7) := heads_no fun j hj => hy.2.2 j (by omega)
    have hz : Gth ((l.take n).map (updP (ibit .and .i64 bk 7) m)) z := by
      have hz : Gth (yl.take yn) z := hz
      have e : yl.take yn = ((l.take n).map (updP (ibit .and .i64 bk 7) m)) := hX.1
      rw [e] at hz
      exact hz
    have ez : (Sq.li z : List Pg) = ((l.take n).map (updP (ibit .and .i64 bk 7) m)) := hz.1
    have hO : OfS ⟨8, 8, 16⟩ [] ((l.take n).map (updP (ibit .and .i64 bk 7) m)) r := by rw [← ez]; exact hr
    have hok : Okl 8 8 ((l.take n).map (updP (ibit .and .i64 bk 7) m)) := okl_iff.1 hO.1
    have D : Drops (ibit .and .i64 bk 7).toNat ((l.take n).map (updP (ibit .and .i64 bk 7) m)) (((l.take n).map (updP (ibit .and .i64 bk 7) m)).filter fun p => decide (p.pl.1 ≠ (ibit .and .i64 bk 7))) := by
      have := drops_of hB8 hok (by rw [hBB]; exact hno)
      rw [hBB] at this
      exact this
    have hS : Gth (sloS ⟨8, 8, 16⟩ 8 (gridL 8 ((l.take n).map (updP (ibit .and .i64 bk 7) m)))) r.1 := hO.2.1
    have hSl : ((sloS ⟨8, 8, 16⟩ 8 (gridL 8 ((l.take n).map (updP (ibit .and .i64 bk 7) m))))).length ≤ 536871100 := Nat.le_trans sloL_len (keyL_len ⟨by decide, by decide, by decide⟩)
    have hSn := hS.n
    obtain ⟨j, wo, wb, wq, wl, wn, wc⟩ := w
    have hw : j ≤ (((l.take n).map (updP (ibit .and .i64 bk 7) m))).length ∧ Gth ((((l.take n).map (updP (ibit .and .i64 bk 7) m)).take j).filter fun p => decide (p.pl.1 ≠ (ibit .and .i64 bk 7))) (wo, wb, wq, wl, wn, wc) := hw
    have hW := hw.2.room
    have h2 : (j : Int) < (yn : Int) := of_decide_eq_true h2
    have hjX : j < (((l.take n).map (updP (ibit .and .i64 bk 7) m))).length := by omega
    have ejX : yl.getD j pg0 = (((l.take n).map (updP (ibit .and .i64 bk 7) m))).getD j pg0 := hX.at (by omega)
    have hwn : wn ≤ j := by
      rw [hW.2.2.1]
      exact Nat.le_trans (List.length_filter_le _ _) (List.length_take_le _ _)
    exact hX.on (by omega)
  · rename_i u0 hl y hy h1 z hz r hr u3 w hw h2 hb
    obtain ⟨i, yo, yb, yq, yl, yn, yc⟩ := y
    have hl : ¬ (120 : Int) < (n : Int) := of_decide_eq_false hl
    have hy : i ≤ (l.take n).length ∧ Gth (((l.take n).take i).map (updP (ibit .and .i64 bk 7) m)) (yo, yb, yq, yl, yn, yc) ∧ ∀ j, j < i → fstP (ibit .and .i64 bk 7) ((l.take n).getD j pg0) = true → ¬ (m.kind = 1 ∧ m.key = (ibit .and .i64 bk 7)) := hy
    have hR := hy.2.1.room
    have h1 : ¬ (i : Int) < (n : Int) := of_decide_eq_false h1
    have ei : i = (l.take n).length := by have := hy.1; rw [hL] at this ⊢; omega
    have hX : Gth ((l.take n).map (updP (ibit .and .i64 bk 7) m)) (yo, yb, yq, yl, yn, yc) := by
      have := hy.2.1
      rw [ei, List.take_of_length_le (Nat.le_refl _)] at this
      exact this
    have hXl : (((l.take n).map (updP (ibit .and .i64 bk 7) m))).length = n := by rw [List.length_map, hL]
    have hyn : yn = n := hX.n.trans hXl
    have hno : ¬ HdAt ((l.take n).map (updP (ibit .and .i64 bk 7) m)) (ibit .and .i64 bk 7) := heads_no fun j hj => hy.2.2 j (by omega)
    have hz : Gth ((l.take n).map (updP (ibit .and .i64 bk 7) m)) z := by
      have hz : Gth (yl.take yn) z := hz
      have e : yl.take yn = ((l.take n).map (updP (ibit .and .i64 bk 7) m)) := hX.1
      rw [e] at hz
      exact hz
    have ez : (Sq.li z : List Pg) = ((l.take n).map (updP (ibit .and .i64 bk 7) m)) := hz.1
    have hO : OfS ⟨8, 8, 16⟩ [] ((l.take n).map (updP (ibit .and .i64 bk 7) m)) r := by rw [← ez]; exact hr
    have hok : Okl 8 8 ((l.take n).map (updP (ibit .and .i64 bk 7) m)) := okl_iff.1 hO.1
    have D : Drops (ibit .and .i64 bk 7).toNat ((l.take n).map (updP (ibit .and .i64 bk 7) m)) (((l.take n).map (updP (ibit .and .i64 bk 7) m)).filter fun p => decide (p.pl.1 ≠ (ibit .and .i64 bk 7))) := by
      have := drops_of hB8 hok (by rw [hBB]; exact hno)
      rw [hBB] at this
      exact this
    have hS : Gth (sloS ⟨8, 8, 16⟩ 8 (gridL 8 ((l.take n).map (updP (ibit .and .i64 bk 7) m)))) r.1 := hO.2.1
    have hSl : ((sloS ⟨8, 8, 16⟩ 8 (gridL 8 ((l.take n).map (updP (ibit .and .i64 bk 7) m))))).length ≤ 536871100 := Nat.le_trans sloL_len (keyL_len ⟨by decide, by decide, by decide⟩)
    have hSn := hS.n
    obtain ⟨j, wo, wb, wq, wl, wn, wc⟩ := w
    have hw : j ≤ (((l.take n).map (updP (ibit .and .i64 bk 7) m))).length ∧ Gth ((((l.take n).map (updP (ibit .and .i64 bk 7) m)).take j).filter fun p => decide (p.pl.1 ≠ (ibit .and .i64 bk 7))) (wo, wb, wq, wl, wn, wc) := hw
    have hW := hw.2.room
    have h2 : (j : Int) < (yn : Int) := of_decide_eq_true h2
    have hjX : j < (((l.take n).map (updP (ibit .and .i64 bk 7) m))).length := by omega
    have ejX : yl.getD j pg0 = (((l.take n).map (updP (ibit .and .i64 bk 7) m))).getD j pg0 := hX.at (by omega)
    have hwn : wn ≤ j := by
      rw [hW.2.2.1]
      exact Nat.le_trans (List.length_filter_le _ _) (List.length_take_le _ _)
    show j < yl.length
    omega
  · rename_i u0 hl y hy h1 z hz r hr u3 w hw h2 hb u4
    obtain ⟨i, yo, yb, yq, yl, yn, yc⟩ := y
    have hl : ¬ (120 : Int) < (n : Int) := of_decide_eq_false hl
    have hy : i ≤ (l.take n).length ∧ Gth (((l.take n).take i).map (updP (ibit .and .i64 bk 7) m)) (yo, yb, yq, yl, yn, yc) ∧ ∀ j, j < i → fstP (ibit .and .i64 bk 7) ((l.take n).getD j pg0) = true → ¬ (m.kind = 1 ∧ m.key = (ibit .and .i64 bk 7)) := hy
    have hR := hy.2.1.room
    have h1 : ¬ (i : Int) < (n : Int) := of_decide_eq_false h1
    have ei : i = (l.take n).length := by have := hy.1; rw [hL] at this ⊢; omega
    have hX : Gth ((l.take n).map (updP (ibit .and .i64 bk 7) m)) (yo, yb, yq, yl, yn, yc) := by
      have := hy.2.1
      rw [ei, List.take_of_length_le (Nat.le_refl _)] at this
      exact this
    have hXl : (((l.take n).map (updP (ibit .and .i64 bk 7) m))).length = n := by rw [List.length_map, hL]
    have hyn : yn = n := hX.n.trans hXl
    have hno : ¬ HdAt ((l.take n).map (updP (ibit .and .i64 bk 7) m)) (ibit .and .i64 bk 7) := heads_no fun j hj => hy.2.2 j (by omega)
    have hz : Gth ((l.take n).map (updP (ibit .and .i64 bk 7) m)) z := by
      have hz : Gth (yl.take yn) z := hz
      have e : yl.take yn = ((l.take n).map (updP (ibit .and .i64 bk 7) m)) := hX.1
      rw [e] at hz
      exact hz
    have ez : (Sq.li z : List Pg) = ((l.take n).map (updP (ibit .and .i64 bk 7) m)) := hz.1
    have hO : OfS ⟨8, 8, 16⟩ [] ((l.take n).map (updP (ibit .and .i64 bk 7) m)) r := by rw [← ez]; exact hr
    have hok : Okl 8 8 ((l.take n).map (updP (ibit .and .i64 bk 7) m)) := okl_iff.1 hO.1
    have D : Drops (ibit .and .i64 bk 7).toNat ((l.take n).map (updP (ibit .and .i64 bk 7) m)) (((l.take n).map (updP (ibit .and .i64 bk 7) m)).filter fun p => decide (p.pl.1 ≠ (ibit .and .i64 bk 7))) := by
      have := drops_of hB8 hok (by rw [hBB]; exact hno)
      rw [hBB] at this
      exact this
    have hS : Gth (sloS ⟨8, 8, 16⟩ 8 (gridL 8 ((l.take n).map (updP (ibit .and .i64 bk 7) m)))) r.1 := hO.2.1
    have hSl : ((sloS ⟨8, 8, 16⟩ 8 (gridL 8 ((l.take n).map (updP (ibit .and .i64 bk 7) m))))).length ≤ 536871100 := Nat.le_trans sloL_len (keyL_len ⟨by decide, by decide, by decide⟩)
    have hSn := hS.n
    obtain ⟨j, wo, wb, wq, wl, wn, wc⟩ := w
    have hw : j ≤ (((l.take n).map (updP (ibit .and .i64 bk 7) m))).length ∧ Gth ((((l.take n).map (updP (ibit .and .i64 bk 7) m)).take j).filter fun p => decide (p.pl.1 ≠ (ibit .and .i64 bk 7))) (wo, wb, wq, wl, wn, wc) := hw
    have hW := hw.2.room
    have h2 : (j : Int) < (yn : Int) := of_decide_eq_true h2
    have hjX : j < (((l.take n).map (updP (ibit .and .i64 bk 7) m))).length := by omega
    have ejX : yl.getD j pg0 = (((l.take n).map (updP (ibit .and .i64 bk 7) m))).getD j pg0 := hX.at (by omega)
    have hwn : wn ≤ j := by
      rw [hW.2.2.1]
      exact Nat.le_trans (List.length_filter_le _ _) (List.length_take_le _ _)
    have by42 : Tryd.prog.types[42].bytes = 72 := by kernel_rfl
    rw [by42]
    exact ⟨hW.1, by show 0 + wc ≤ wl.length; omega, by simp, by show (wn + 1) * 72 ≤ _; omega⟩
  · rename_i u0 hl y hy h1 z hz r hr u3 w hw h2 hb u4
    obtain ⟨i, yo, yb, yq, yl, yn, yc⟩ := y
    have hl : ¬ (120 : Int) < (n : Int) := of_decide_eq_false hl
    have hy : i ≤ (l.take n).length ∧ Gth (((l.take n).take i).map (updP (ibit .and .i64 bk 7) m)) (yo, yb, yq, yl, yn, yc) ∧ ∀ j, j < i → fstP (ibit .and .i64 bk 7) ((l.take n).getD j pg0) = true → ¬ (m.kind = 1 ∧ m.key = (ibit .and .i64 bk 7)) := hy
    have hR := hy.2.1.room
    have h1 : ¬ (i : Int) < (n : Int) := of_decide_eq_false h1
    have ei : i = (l.take n).length := by have := hy.1; rw [hL] at this ⊢; omega
    have hX : Gth ((l.take n).map (updP (ibit .and .i64 bk 7) m)) (yo, yb, yq, yl, yn, yc) := by
      have := hy.2.1
      rw [ei, List.take_of_length_le (Nat.le_refl _)] at this
      exact this
    have hXl : (((l.take n).map (updP (ibit .and .i64 bk 7) m))).length = n := by rw [List.length_map, hL]
    have hyn : yn = n := hX.n.trans hXl
    have hno : ¬ HdAt ((l.take n).map (updP (ibit .and .i64 bk 7) m)) (ibit .and .i64 bk 7) := heads_no fun j hj => hy.2.2 j (by omega)
    have hz : Gth ((l.take n).map (updP (ibit .and .i64 bk 7) m)) z := by
      have hz : Gth (yl.take yn) z := hz
      have e : yl.take yn = ((l.take n).map (updP (ibit .and .i64 bk 7) m)) := hX.1
      rw [e] at hz
      exact hz
    have ez : (Sq.li z : List Pg) = ((l.take n).map (updP (ibit .and .i64 bk 7) m)) := hz.1
    have hO : OfS ⟨8, 8, 16⟩ [] ((l.take n).map (updP (ibit .and .i64 bk 7) m)) r := by rw [← ez]; exact hr
    have hok : Okl 8 8 ((l.take n).map (updP (ibit .and .i64 bk 7) m)) := okl_iff.1 hO.1
    have D : Drops (ibit .and .i64 bk 7).toNat ((l.take n).map (updP (ibit .and .i64 bk 7) m)) (((l.take n).map (updP (ibit .and .i64 bk 7) m)).filter fun p => decide (p.pl.1 ≠ (ibit .and .i64 bk 7))) := by
      have := drops_of hB8 hok (by rw [hBB]; exact hno)
      rw [hBB] at this
      exact this
    have hS : Gth (sloS ⟨8, 8, 16⟩ 8 (gridL 8 ((l.take n).map (updP (ibit .and .i64 bk 7) m)))) r.1 := hO.2.1
    have hSl : ((sloS ⟨8, 8, 16⟩ 8 (gridL 8 ((l.take n).map (updP (ibit .and .i64 bk 7) m))))).length ≤ 536871100 := Nat.le_trans sloL_len (keyL_len ⟨by decide, by decide, by decide⟩)
    have hSn := hS.n
    obtain ⟨j, wo, wb, wq, wl, wn, wc⟩ := w
    have hw : j ≤ (((l.take n).map (updP (ibit .and .i64 bk 7) m))).length ∧ Gth ((((l.take n).map (updP (ibit .and .i64 bk 7) m)).take j).filter fun p => decide (p.pl.1 ≠ (ibit .and .i64 bk 7))) (wo, wb, wq, wl, wn, wc) := hw
    have hW := hw.2.room
    have h2 : (j : Int) < (yn : Int) := of_decide_eq_true h2
    have hjX : j < (((l.take n).map (updP (ibit .and .i64 bk 7) m))).length := by omega
    have ejX : yl.getD j pg0 = (((l.take n).map (updP (ibit .and .i64 bk 7) m))).getD j pg0 := hX.at (by omega)
    have hwn : wn ≤ j := by
      rw [hW.2.2.1]
      exact Nat.le_trans (List.length_filter_le _ _) (List.length_take_le _ _)
    exact hW.2.2.2
  · rename_i u0 hl y hy h1 z hz r hr u3 w hw h2 hb u4 b9 q9 sp cp e1 e2
    obtain ⟨i, yo, yb, yq, yl, yn, yc⟩ := y
    have hl : ¬ (120 : Int) < (n : Int) := of_decide_eq_false hl
    have hy : i ≤ (l.take n).length ∧ Gth (((l.take n).take i).map (updP (ibit .and .i64 bk 7) m)) (yo, yb, yq, yl, yn, yc) ∧ ∀ j, j < i → fstP (ibit .and .i64 bk 7) ((l.take n).getD j pg0) = true → ¬ (m.kind = 1 ∧ m.key = (ibit .and .i64 bk 7)) := hy
    have hR := hy.2.1.room
    have h1 : ¬ (i : Int) < (n : Int) := of_decide_eq_false h1
    have ei : i = (l.take n).length := by have := hy.1; rw [hL] at this ⊢; omega
    have hX : Gth ((l.take n).map (updP (ibit .and .i64 bk 7) m)) (yo, yb, yq, yl, yn, yc) := by
      have := hy.2.1
      rw [ei, List.take_of_length_le (Nat.le_refl _)] at this
      exact this
    have hXl : (((l.take n).map (updP (ibit .and .i64 bk 7) m))).length = n := by rw [List.length_map, hL]
    have hyn : yn = n := hX.n.trans hXl
    have hno : ¬ HdAt ((l.take n).map (updP (ibit .and .i64 bk 7) m)) (ibit .and .i64 bk 7) := heads_no fun j hj => hy.2.2 j (by omega)
    have hz : Gth ((l.take n).map (updP (ibit .and .i64 bk 7) m)) z := by
      have hz : Gth (yl.take yn) z := hz
      have e : yl.take yn = ((l.take n).map (updP (ibit .and .i64 bk 7) m)) := hX.1
      rw [e] at hz
      exact hz
    have ez : (Sq.li z : List Pg) = ((l.take n).map (updP (ibit .and .i64 bk 7) m)) := hz.1
    have hO : OfS ⟨8, 8, 16⟩ [] ((l.take n).map (updP (ibit .and .i64 bk 7) m)) r := by rw [← ez]; exact hr
    have hok : Okl 8 8 ((l.take n).map (updP (ibit .and .i64 bk 7) m)) := okl_iff.1 hO.1
    have D : Drops (ibit .and .i64 bk 7).toNat ((l.take n).map (updP (ibit .and .i64 bk 7) m)) (((l.take n).map (updP (ibit .and .i64 bk 7) m)).filter fun p => decide (p.pl.1 ≠ (ibit .and .i64 bk 7))) := by
      have := drops_of hB8 hok (by rw [hBB]; exact hno)
      rw [hBB] at this
      exact this
    have hS : Gth (sloS ⟨8, 8, 16⟩ 8 (gridL 8 ((l.take n).map (updP (ibit .and .i64 bk 7) m)))) r.1 := hO.2.1
    have hSl : ((sloS ⟨8, 8, 16⟩ 8 (gridL 8 ((l.take n).map (updP (ibit .and .i64 bk 7) m))))).length ≤ 536871100 := Nat.le_trans sloL_len (keyL_len ⟨by decide, by decide, by decide⟩)
    have hSn := hS.n
    obtain ⟨j, wo, wb, wq, wl, wn, wc⟩ := w
    have hw : j ≤ (((l.take n).map (updP (ibit .and .i64 bk 7) m))).length ∧ Gth ((((l.take n).map (updP (ibit .and .i64 bk 7) m)).take j).filter fun p => decide (p.pl.1 ≠ (ibit .and .i64 bk 7))) (wo, wb, wq, wl, wn, wc) := hw
    have hW := hw.2.room
    have h2 : (j : Int) < (yn : Int) := of_decide_eq_true h2
    have hjX : j < (((l.take n).map (updP (ibit .and .i64 bk 7) m))).length := by omega
    have ejX : yl.getD j pg0 = (((l.take n).map (updP (ibit .and .i64 bk 7) m))).getD j pg0 := hX.at (by omega)
    have hwn : wn ≤ j := by
      rw [hW.2.2.1]
      exact Nat.le_trans (List.length_filter_le _ _) (List.length_take_le _ _)
    exact inR64 (by show -9223372036854775808 ≤ (j : Int) + 1; omega) (by show (j : Int) + 1 ≤ 9223372036854775807; omega)
  · rename_i u0 hl y hy h1 z hz r hr u3 w hw h2 hb u4 b9 q9 sp cp e1 e2
    obtain ⟨i, yo, yb, yq, yl, yn, yc⟩ := y
    have hl : ¬ (120 : Int) < (n : Int) := of_decide_eq_false hl
    have hy : i ≤ (l.take n).length ∧ Gth (((l.take n).take i).map (updP (ibit .and .i64 bk 7) m)) (yo, yb, yq, yl, yn, yc) ∧ ∀ j, j < i → fstP (ibit .and .i64 bk 7) ((l.take n).getD j pg0) = true → ¬ (m.kind = 1 ∧ m.key = (ibit .and .i64 bk 7)) := hy
    have hR := hy.2.1.room
    have h1 : ¬ (i : Int) < (n : Int) := of_decide_eq_false h1
    have ei : i = (l.take n).length := by have := hy.1; rw [hL] at this ⊢; omega
    have hX : Gth ((l.take n).map (updP (ibit .and .i64 bk 7) m)) (yo, yb, yq, yl, yn, yc) := by
      have := hy.2.1
      rw [ei, List.take_of_length_le (Nat.le_refl _)] at this
      exact this
    have hXl : (((l.take n).map (updP (ibit .and .i64 bk 7) m))).length = n := by rw [List.length_map, hL]
    have hyn : yn = n := hX.n.trans hXl
    have hno : ¬ HdAt ((l.take n).map (updP (ibit .and .i64 bk 7) m)) (ibit .and .i64 bk 7) := heads_no fun j hj => hy.2.2 j (by omega)
    have hz : Gth ((l.take n).map (updP (ibit .and .i64 bk 7) m)) z := by
      have hz : Gth (yl.take yn) z := hz
      have e : yl.take yn = ((l.take n).map (updP (ibit .and .i64 bk 7) m)) := hX.1
      rw [e] at hz
      exact hz
    have ez : (Sq.li z : List Pg) = ((l.take n).map (updP (ibit .and .i64 bk 7) m)) := hz.1
    have hO : OfS ⟨8, 8, 16⟩ [] ((l.take n).map (updP (ibit .and .i64 bk 7) m)) r := by rw [← ez]; exact hr
    have hok : Okl 8 8 ((l.take n).map (updP (ibit .and .i64 bk 7) m)) := okl_iff.1 hO.1
    have D : Drops (ibit .and .i64 bk 7).toNat ((l.take n).map (updP (ibit .and .i64 bk 7) m)) (((l.take n).map (updP (ibit .and .i64 bk 7) m)).filter fun p => decide (p.pl.1 ≠ (ibit .and .i64 bk 7))) := by
      have := drops_of hB8 hok (by rw [hBB]; exact hno)
      rw [hBB] at this
      exact this
    have hS : Gth (sloS ⟨8, 8, 16⟩ 8 (gridL 8 ((l.take n).map (updP (ibit .and .i64 bk 7) m)))) r.1 := hO.2.1
    have hSl : ((sloS ⟨8, 8, 16⟩ 8 (gridL 8 ((l.take n).map (updP (ibit .and .i64 bk 7) m))))).length ≤ 536871100 := Nat.le_trans sloL_len (keyL_len ⟨by decide, by decide, by decide⟩)
    have hSn := hS.n
    obtain ⟨j, wo, wb, wq, wl, wn, wc⟩ := w
    have hw : j ≤ (((l.take n).map (updP (ibit .and .i64 bk 7) m))).length ∧ Gth ((((l.take n).map (updP (ibit .and .i64 bk 7) m)).take j).filter fun p => decide (p.pl.1 ≠ (ibit .and .i64 bk 7))) (wo, wb, wq, wl, wn, wc) := hw
    have hW := hw.2.room
    have h2 : (j : Int) < (yn : Int) := of_decide_eq_true h2
    have hjX : j < (((l.take n).map (updP (ibit .and .i64 bk 7) m))).length := by omega
    have ejX : yl.getD j pg0 = (((l.take n).map (updP (ibit .and .i64 bk 7) m))).getD j pg0 := hX.at (by omega)
    have hwn : wn ≤ j := by
      rw [hW.2.2.1]
      exact Nat.le_trans (List.length_filter_le _ _) (List.length_take_le _ _)
    have hb : decide ((yl.getD j pg0).pl.1 ≠ (ibit .and .i64 bk 7)) = true := hb
    rw [ejX] at hb
    refine Stands.one (j + 1, (true, b9, q9, wl.take wn ++ [yl.getD j pg0] ++ sp, wn + 1, cp)) ⟨⟨by show j + 1 ≤ (((l.take n).map (updP (ibit .and .i64 bk 7) m))).length; omega, ?_⟩, by show (((l.take n).map (updP (ibit .and .i64 bk 7) m))).length - (j + 1) < (((l.take n).map (updP (ibit .and .i64 bk 7) m))).length - j; omega, ?_⟩
    · show Gth ((((l.take n).map (updP (ibit .and .i64 bk 7) m)).take (j + 1)).filter fun p => decide (p.pl.1 ≠ (ibit .and .i64 bk 7))) _
      rw [take_snoc (d := pg0) hjX, List.filter_append, List.filter_cons_of_pos (p := fun p : Pg => decide (p.pl.1 ≠ (ibit .and .i64 bk 7))) hb, List.filter_nil, ← ejX]
      exact hw.2.snoc e1 e2
    ((conv => (arg 1; reduce)); with_reducible repeat' (first | exact Tr.yes_h | refine Tr.and_h ?_ ?_ | refine Tr.imp_h fun _ => ?_ | refine Tr.all_h fun _ => ?_ | refine Tr.lf_h ?_))
    all_goals (first | first | (show Region.lexB _ _ = true; kernel_rfl) | (show planned _ _ = true; kernel_rfl) | exact rfl | exact True.intro | (first | exact key3 | exact zeroB | exact zeroR | exact zeroS | exact ⟨key3, zeroB⟩ | exact ⟨key3, zeroR⟩ | exact ⟨key3, zeroS⟩) | ((try dsimp only [imp, C0, cG, cInt, cPl, cSlot, cPg, gwCodec] at *); (try refine inR64 ?_ ?_) <;> (try simp only [List.length_set, List.length_append, List.length_take, List.length_drop]) <;> omega))
  · rename_i u0 hl y hy h1 z hz r hr u3 w hw h2 hb
    obtain ⟨i, yo, yb, yq, yl, yn, yc⟩ := y
    have hl : ¬ (120 : Int) < (n : Int) := of_decide_eq_false hl
    have hy : i ≤ (l.take n).length ∧ Gth (((l.take n).take i).map (updP (ibit .and .i64 bk 7) m)) (yo, yb, yq, yl, yn, yc) ∧ ∀ j, j < i → fstP (ibit .and .i64 bk 7) ((l.take n).getD j pg0) = true → ¬ (m.kind = 1 ∧ m.key = (ibit .and .i64 bk 7)) := hy
    have hR := hy.2.1.room
    have h1 : ¬ (i : Int) < (n : Int) := of_decide_eq_false h1
    have ei : i = (l.take n).length := by have := hy.1; rw [hL] at this ⊢; omega
    have hX : Gth ((l.take n).map (updP (ibit .and .i64 bk 7) m)) (yo, yb, yq, yl, yn, yc) := by
      have := hy.2.1
      rw [ei, List.take_of_length_le (Nat.le_refl _)] at this
      exact this
    have hXl : (((l.take n).map (updP (ibit .and .i64 bk 7) m))).length = n := by rw [List.length_map, hL]
    have hyn : yn = n := hX.n.trans hXl
    have hno : ¬ HdAt ((l.take n).map (updP (ibit .and .i64 bk 7) m)) (ibit .and .i64 bk 7) := heads_no fun j hj => hy.2.2 j (by omega)
    have hz : Gth ((l.take n).map (updP (ibit .and .i64 bk 7) m)) z := by
      have hz : Gth (yl.take yn) z := hz
      have e : yl.take yn = ((l.take n).map (updP (ibit .and .i64 bk 7) m)) := hX.1
      rw [e] at hz
      exact hz
    have ez : (Sq.li z : List Pg) = ((l.take n).map (updP (ibit .and .i64 bk 7) m)) := hz.1
    have hO : OfS ⟨8, 8, 16⟩ [] ((l.take n).map (updP (ibit .and .i64 bk 7) m)) r := by rw [← ez]; exact hr
    have hok : Okl 8 8 ((l.take n).map (updP (ibit .and .i64 bk 7) m)) := okl_iff.1 hO.1
    have D : Drops (ibit .and .i64 bk 7).toNat ((l.take n).map (updP (ibit .and .i64 bk 7) m)) (((l.take n).map (updP (ibit .and .i64 bk 7) m)).filter fun p => decide (p.pl.1 ≠ (ibit .and .i64 bk 7))) := by
      have := drops_of hB8 hok (by rw [hBB]; exact hno)
      rw [hBB] at this
      exact this
    have hS : Gth (sloS ⟨8, 8, 16⟩ 8 (gridL 8 ((l.take n).map (updP (ibit .and .i64 bk 7) m)))) r.1 := hO.2.1
    have hSl : ((sloS ⟨8, 8, 16⟩ 8 (gridL 8 ((l.take n).map (updP (ibit .and .i64 bk 7) m))))).length ≤ 536871100 := Nat.le_trans sloL_len (keyL_len ⟨by decide, by decide, by decide⟩)
    have hSn := hS.n
    obtain ⟨j, wo, wb, wq, wl, wn, wc⟩ := w
    have hw : j ≤ (((l.take n).map (updP (ibit .and .i64 bk 7) m))).length ∧ Gth ((((l.take n).map (updP (ibit .and .i64 bk 7) m)).take j).filter fun p => decide (p.pl.1 ≠ (ibit .and .i64 bk 7))) (wo, wb, wq, wl, wn, wc) := hw
    have hW := hw.2.room
    have h2 : (j : Int) < (yn : Int) := of_decide_eq_true h2
    have hjX : j < (((l.take n).map (updP (ibit .and .i64 bk 7) m))).length := by omega
    have ejX : yl.getD j pg0 = (((l.take n).map (updP (ibit .and .i64 bk 7) m))).getD j pg0 := hX.at (by omega)
    have hwn : wn ≤ j := by
      rw [hW.2.2.1]
      exact Nat.le_trans (List.length_filter_le _ _) (List.length_take_le _ _)
    exact inR64 (by show -9223372036854775808 ≤ (j : Int) + 1; omega) (by show (j : Int) + 1 ≤ 9223372036854775807; omega)
  · rename_i u0 hl y hy h1 z hz r hr u3 w hw h2 hb
    obtain ⟨i, yo, yb, yq, yl, yn, yc⟩ := y
    have hl : ¬ (120 : Int) < (n : Int) := of_decide_eq_false hl
    have hy : i ≤ (l.take n).length ∧ Gth (((l.take n).take i).map (updP (ibit .and .i64 bk 7) m)) (yo, yb, yq, yl, yn, yc) ∧ ∀ j, j < i → fstP (ibit .and .i64 bk 7) ((l.take n).getD j pg0) = true → ¬ (m.kind = 1 ∧ m.key = (ibit .and .i64 bk 7)) := hy
    have hR := hy.2.1.room
    have h1 : ¬ (i : Int) < (n : Int) := of_decide_eq_false h1
    have ei : i = (l.take n).length := by have := hy.1; rw [hL] at this ⊢; omega
    have hX : Gth ((l.take n).map (updP (ibit .and .i64 bk 7) m)) (yo, yb, yq, yl, yn, yc) := by
      have := hy.2.1
      rw [ei, List.take_of_length_le (Nat.le_refl _)] at this
      exact this
    have hXl : (((l.take n).map (updP (ibit .and .i64 bk 7) m))).length = n := by rw [List.length_map, hL]
    have hyn : yn = n := hX.n.trans hXl
    have hno : ¬ HdAt ((l.take n).map (updP (ibit .and .i64 bk 7) m)) (ibit .and .i64 bk 7) := heads_no fun j hj => hy.2.2 j (by omega)
    have hz : Gth ((l.take n).map (updP (ibit .and .i64 bk 7) m)) z := by
      have hz : Gth (yl.take yn) z := hz
      have e : yl.take yn = ((l.take n).map (updP (ibit .and .i64 bk 7) m)) := hX.1
      rw [e] at hz
      exact hz
    have ez : (Sq.li z : List Pg) = ((l.take n).map (updP (ibit .and .i64 bk 7) m)) := hz.1
    have hO : OfS ⟨8, 8, 16⟩ [] ((l.take n).map (updP (ibit .and .i64 bk 7) m)) r := by rw [← ez]; exact hr
    have hok : Okl 8 8 ((l.take n).map (updP (ibit .and .i64 bk 7) m)) := okl_iff.1 hO.1
    have D : Drops (ibit .and .i64 bk 7).toNat ((l.take n).map (updP (ibit .and .i64 bk 7) m)) (((l.take n).map (updP (ibit .and .i64 bk 7) m)).filter fun p => decide (p.pl.1 ≠ (ibit .and .i64 bk 7))) := by
      have := drops_of hB8 hok (by rw [hBB]; exact hno)
      rw [hBB] at this
      exact this
    have hS : Gth (sloS ⟨8, 8, 16⟩ 8 (gridL 8 ((l.take n).map (updP (ibit .and .i64 bk 7) m)))) r.1 := hO.2.1
    have hSl : ((sloS ⟨8, 8, 16⟩ 8 (gridL 8 ((l.take n).map (updP (ibit .and .i64 bk 7) m))))).length ≤ 536871100 := Nat.le_trans sloL_len (keyL_len ⟨by decide, by decide, by decide⟩)
    have hSn := hS.n
    obtain ⟨j, wo, wb, wq, wl, wn, wc⟩ := w
    have hw : j ≤ (((l.take n).map (updP (ibit .and .i64 bk 7) m))).length ∧ Gth ((((l.take n).map (updP (ibit .and .i64 bk 7) m)).take j).filter fun p => decide (p.pl.1 ≠ (ibit .and .i64 bk 7))) (wo, wb, wq, wl, wn, wc) := hw
    have hW := hw.2.room
    have h2 : (j : Int) < (yn : Int) := of_decide_eq_true h2
    have hjX : j < (((l.take n).map (updP (ibit .and .i64 bk 7) m))).length := by omega
    have ejX : yl.getD j pg0 = (((l.take n).map (updP (ibit .and .i64 bk 7) m))).getD j pg0 := hX.at (by omega)
    have hwn : wn ≤ j := by
      rw [hW.2.2.1]
      exact Nat.le_trans (List.length_filter_le _ _) (List.length_take_le _ _)
    have hb : decide ((yl.getD j pg0).pl.1 ≠ (ibit .and .i64 bk 7)) = false := hb
    rw [ejX] at hb
    have hb' : ¬ (decide (((((l.take n).map (updP (ibit .and .i64 bk 7) m))).getD j pg0).pl.1 ≠ (ibit .and .i64 bk 7))) = true := by rw [hb]; exact Bool.false_ne_true
    refine Stands.one (j + 1, (wo, wb, wq, wl, wn, wc)) ⟨⟨by show j + 1 ≤ (((l.take n).map (updP (ibit .and .i64 bk 7) m))).length; omega, ?_⟩, by show (((l.take n).map (updP (ibit .and .i64 bk 7) m))).length - (j + 1) < (((l.take n).map (updP (ibit .and .i64 bk 7) m))).length - j; omega, ?_⟩
    · show Gth ((((l.take n).map (updP (ibit .and .i64 bk 7) m)).take (j + 1)).filter fun p => decide (p.pl.1 ≠ (ibit .and .i64 bk 7))) _
      rw [take_snoc (d := pg0) hjX, List.filter_append, List.filter_cons_of_neg (p := fun p : Pg => decide (p.pl.1 ≠ (ibit .and .i64 bk 7))) hb', List.filter_nil, List.append_nil]
      exact hw.2
    ((conv => (arg 1; reduce)); with_reducible repeat' (first | exact Tr.yes_h | refine Tr.and_h ?_ ?_ | refine Tr.imp_h fun _ => ?_ | refine Tr.all_h fun _ => ?_ | refine Tr.lf_h ?_))
    all_goals (first | first | (show Region.lexB _ _ = true; kernel_rfl) | (show planned _ _ = true; kernel_rfl) | exact rfl | exact True.intro | (first | exact key3 | exact zeroB | exact zeroR | exact zeroS | exact ⟨key3, zeroB⟩ | exact ⟨key3, zeroR⟩ | exact ⟨key3, zeroS⟩) | ((try dsimp only [imp, C0, cG, cInt, cPl, cSlot, cPg, gwCodec] at *); (try refine inR64 ?_ ?_) <;> (try simp only [List.length_set, List.length_append, List.length_take, List.length_drop]) <;> omega))
  · rename_i u0 hl y hy h1 z hz r hr u3 w hw h2
    obtain ⟨i, yo, yb, yq, yl, yn, yc⟩ := y
    have hl : ¬ (120 : Int) < (n : Int) := of_decide_eq_false hl
    have hy : i ≤ (l.take n).length ∧ Gth (((l.take n).take i).map (updP (ibit .and .i64 bk 7) m)) (yo, yb, yq, yl, yn, yc) ∧ ∀ j, j < i → fstP (ibit .and .i64 bk 7) ((l.take n).getD j pg0) = true → ¬ (m.kind = 1 ∧ m.key = (ibit .and .i64 bk 7)) := hy
    have hR := hy.2.1.room
    have h1 : ¬ (i : Int) < (n : Int) := of_decide_eq_false h1
    have ei : i = (l.take n).length := by have := hy.1; rw [hL] at this ⊢; omega
    have hX : Gth ((l.take n).map (updP (ibit .and .i64 bk 7) m)) (yo, yb, yq, yl, yn, yc) := by
      have := hy.2.1
      rw [ei, List.take_of_length_le (Nat.le_refl _)] at this
      exact this
    have hXl : (((l.take n).map (updP (ibit .and .i64 bk 7) m))).length = n := by rw [List.length_map, hL]
    have hyn : yn = n := hX.n.trans hXl
    have hno : ¬ HdAt ((l.take n).map (updP (ibit .and .i64 bk 7) m)) (ibit .and .i64 bk 7) := heads_no fun j hj => hy.2.2 j (by omega)
    have hz : Gth ((l.take n).map (updP (ibit .and .i64 bk 7) m)) z := by
      have hz : Gth (yl.take yn) z := hz
      have e : yl.take yn = ((l.take n).map (updP (ibit .and .i64 bk 7) m)) := hX.1
      rw [e] at hz
      exact hz
    have ez : (Sq.li z : List Pg) = ((l.take n).map (updP (ibit .and .i64 bk 7) m)) := hz.1
    have hO : OfS ⟨8, 8, 16⟩ [] ((l.take n).map (updP (ibit .and .i64 bk 7) m)) r := by rw [← ez]; exact hr
    have hok : Okl 8 8 ((l.take n).map (updP (ibit .and .i64 bk 7) m)) := okl_iff.1 hO.1
    have D : Drops (ibit .and .i64 bk 7).toNat ((l.take n).map (updP (ibit .and .i64 bk 7) m)) (((l.take n).map (updP (ibit .and .i64 bk 7) m)).filter fun p => decide (p.pl.1 ≠ (ibit .and .i64 bk 7))) := by
      have := drops_of hB8 hok (by rw [hBB]; exact hno)
      rw [hBB] at this
      exact this
    have hS : Gth (sloS ⟨8, 8, 16⟩ 8 (gridL 8 ((l.take n).map (updP (ibit .and .i64 bk 7) m)))) r.1 := hO.2.1
    have hSl : ((sloS ⟨8, 8, 16⟩ 8 (gridL 8 ((l.take n).map (updP (ibit .and .i64 bk 7) m))))).length ≤ 536871100 := Nat.le_trans sloL_len (keyL_len ⟨by decide, by decide, by decide⟩)
    have hSn := hS.n
    obtain ⟨j, wo, wb, wq, wl, wn, wc⟩ := w
    have hw : j ≤ (((l.take n).map (updP (ibit .and .i64 bk 7) m))).length ∧ Gth ((((l.take n).map (updP (ibit .and .i64 bk 7) m)).take j).filter fun p => decide (p.pl.1 ≠ (ibit .and .i64 bk 7))) (wo, wb, wq, wl, wn, wc) := hw
    have hW := hw.2.room
    have h2 : ¬ (j : Int) < (yn : Int) := of_decide_eq_false h2
    have hY : Gth (((l.take n).map (updP (ibit .and .i64 bk 7) m)).filter fun p => decide (p.pl.1 ≠ (ibit .and .i64 bk 7))) (wo, wb, wq, wl, wn, wc) := by
      have := hw.2
      have ej : j = (((l.take n).map (updP (ibit .and .i64 bk 7) m))).length := by have := hw.1; omega
      rw [ej, List.take_of_length_le (Nat.le_refl _)] at this
      exact this
    have hYl : ((((l.take n).map (updP (ibit .and .i64 bk 7) m)).filter fun p => decide (p.pl.1 ≠ (ibit .and .i64 bk 7)))).length ≤ (((l.take n).map (updP (ibit .and .i64 bk 7) m))).length := List.length_filter_le _ _
    have hwY : wn = ((((l.take n).map (updP (ibit .and .i64 bk 7) m)).filter fun p => decide (p.pl.1 ≠ (ibit .and .i64 bk 7)))).length := hY.n
    exact ⟨hY.le, by show wn < 1000000000; omega, hW.2.2.2⟩
  · rename_i u0 hl y hy h1 z hz r hr u3 w hw h2 z2 hz2
    obtain ⟨i, yo, yb, yq, yl, yn, yc⟩ := y
    have hl : ¬ (120 : Int) < (n : Int) := of_decide_eq_false hl
    have hy : i ≤ (l.take n).length ∧ Gth (((l.take n).take i).map (updP (ibit .and .i64 bk 7) m)) (yo, yb, yq, yl, yn, yc) ∧ ∀ j, j < i → fstP (ibit .and .i64 bk 7) ((l.take n).getD j pg0) = true → ¬ (m.kind = 1 ∧ m.key = (ibit .and .i64 bk 7)) := hy
    have hR := hy.2.1.room
    have h1 : ¬ (i : Int) < (n : Int) := of_decide_eq_false h1
    have ei : i = (l.take n).length := by have := hy.1; rw [hL] at this ⊢; omega
    have hX : Gth ((l.take n).map (updP (ibit .and .i64 bk 7) m)) (yo, yb, yq, yl, yn, yc) := by
      have := hy.2.1
      rw [ei, List.take_of_length_le (Nat.le_refl _)] at this
      exact this
    have hXl : (((l.take n).map (updP (ibit .and .i64 bk 7) m))).length = n := by rw [List.length_map, hL]
    have hyn : yn = n := hX.n.trans hXl
    have hno : ¬ HdAt ((l.take n).map (updP (ibit .and .i64 bk 7) m)) (ibit .and .i64 bk 7) := heads_no fun j hj => hy.2.2 j (by omega)
    have hz : Gth ((l.take n).map (updP (ibit .and .i64 bk 7) m)) z := by
      have hz : Gth (yl.take yn) z := hz
      have e : yl.take yn = ((l.take n).map (updP (ibit .and .i64 bk 7) m)) := hX.1
      rw [e] at hz
      exact hz
    have ez : (Sq.li z : List Pg) = ((l.take n).map (updP (ibit .and .i64 bk 7) m)) := hz.1
    have hO : OfS ⟨8, 8, 16⟩ [] ((l.take n).map (updP (ibit .and .i64 bk 7) m)) r := by rw [← ez]; exact hr
    have hok : Okl 8 8 ((l.take n).map (updP (ibit .and .i64 bk 7) m)) := okl_iff.1 hO.1
    have D : Drops (ibit .and .i64 bk 7).toNat ((l.take n).map (updP (ibit .and .i64 bk 7) m)) (((l.take n).map (updP (ibit .and .i64 bk 7) m)).filter fun p => decide (p.pl.1 ≠ (ibit .and .i64 bk 7))) := by
      have := drops_of hB8 hok (by rw [hBB]; exact hno)
      rw [hBB] at this
      exact this
    have hS : Gth (sloS ⟨8, 8, 16⟩ 8 (gridL 8 ((l.take n).map (updP (ibit .and .i64 bk 7) m)))) r.1 := hO.2.1
    have hSl : ((sloS ⟨8, 8, 16⟩ 8 (gridL 8 ((l.take n).map (updP (ibit .and .i64 bk 7) m))))).length ≤ 536871100 := Nat.le_trans sloL_len (keyL_len ⟨by decide, by decide, by decide⟩)
    have hSn := hS.n
    obtain ⟨j, wo, wb, wq, wl, wn, wc⟩ := w
    have hw : j ≤ (((l.take n).map (updP (ibit .and .i64 bk 7) m))).length ∧ Gth ((((l.take n).map (updP (ibit .and .i64 bk 7) m)).take j).filter fun p => decide (p.pl.1 ≠ (ibit .and .i64 bk 7))) (wo, wb, wq, wl, wn, wc) := hw
    have hW := hw.2.room
    have h2 : ¬ (j : Int) < (yn : Int) := of_decide_eq_false h2
    have hY : Gth (((l.take n).map (updP (ibit .and .i64 bk 7) m)).filter fun p => decide (p.pl.1 ≠ (ibit .and .i64 bk 7))) (wo, wb, wq, wl, wn, wc) := by
      have := hw.2
      have ej : j = (((l.take n).map (updP (ibit .and .i64 bk 7) m))).length := by have := hw.1; omega
      rw [ej, List.take_of_length_le (Nat.le_refl _)] at this
      exact this
    have hYl : ((((l.take n).map (updP (ibit .and .i64 bk 7) m)).filter fun p => decide (p.pl.1 ≠ (ibit .and .i64 bk 7)))).length ≤ (((l.take n).map (updP (ibit .and .i64 bk 7) m))).length := List.length_filter_le _ _
    have hwY : wn = ((((l.take n).map (updP (ibit .and .i64 bk 7) m)).filter fun p => decide (p.pl.1 ≠ (ibit .and .i64 bk 7)))).length := hY.n
    have hz2 : Gth (((l.take n).map (updP (ibit .and .i64 bk 7) m)).filter fun p => decide (p.pl.1 ≠ (ibit .and .i64 bk 7))) z2 := by
      have hz2 : Gth (wl.take wn) z2 := hz2
      have e : wl.take wn = (((l.take n).map (updP (ibit .and .i64 bk 7) m)).filter fun p => decide (p.pl.1 ≠ (ibit .and .i64 bk 7))) := hY.1
      rw [e] at hz2
      exact hz2
    have ez2 : (Sq.li z2 : List Pg) = (((l.take n).map (updP (ibit .and .i64 bk 7) m)).filter fun p => decide (p.pl.1 ≠ (ibit .and .i64 bk 7))) := hz2.1
    exact ⟨by decide, by decide, by decide, ⟨Nat.le_refl 0, by decide, fun _ => ⟨rfl, rfl⟩⟩, hz2.le, by have := hz2.n; show z2.2.2.2.2.1 < 1000000; omega, hz2.off⟩
  · rename_i u0 hl y hy h1 z hz r hr u3 w hw h2 z2 hz2 r2 hr2 u5
    obtain ⟨i, yo, yb, yq, yl, yn, yc⟩ := y
    have hl : ¬ (120 : Int) < (n : Int) := of_decide_eq_false hl
    have hy : i ≤ (l.take n).length ∧ Gth (((l.take n).take i).map (updP (ibit .and .i64 bk 7) m)) (yo, yb, yq, yl, yn, yc) ∧ ∀ j, j < i → fstP (ibit .and .i64 bk 7) ((l.take n).getD j pg0) = true → ¬ (m.kind = 1 ∧ m.key = (ibit .and .i64 bk 7)) := hy
    have hR := hy.2.1.room
    have h1 : ¬ (i : Int) < (n : Int) := of_decide_eq_false h1
    have ei : i = (l.take n).length := by have := hy.1; rw [hL] at this ⊢; omega
    have hX : Gth ((l.take n).map (updP (ibit .and .i64 bk 7) m)) (yo, yb, yq, yl, yn, yc) := by
      have := hy.2.1
      rw [ei, List.take_of_length_le (Nat.le_refl _)] at this
      exact this
    have hXl : (((l.take n).map (updP (ibit .and .i64 bk 7) m))).length = n := by rw [List.length_map, hL]
    have hyn : yn = n := hX.n.trans hXl
    have hno : ¬ HdAt ((l.take n).map (updP (ibit .and .i64 bk 7) m)) (ibit .and .i64 bk 7) := heads_no fun j hj => hy.2.2 j (by omega)
    have hz : Gth ((l.take n).map (updP (ibit .and .i64 bk 7) m)) z := by
      have hz : Gth (yl.take yn) z := hz
      have e : yl.take yn = ((l.take n).map (updP (ibit .and .i64 bk 7) m)) := hX.1
      rw [e] at hz
      exact hz
    have ez : (Sq.li z : List Pg) = ((l.take n).map (updP (ibit .and .i64 bk 7) m)) := hz.1
    have hO : OfS ⟨8, 8, 16⟩ [] ((l.take n).map (updP (ibit .and .i64 bk 7) m)) r := by rw [← ez]; exact hr
    have hok : Okl 8 8 ((l.take n).map (updP (ibit .and .i64 bk 7) m)) := okl_iff.1 hO.1
    have D : Drops (ibit .and .i64 bk 7).toNat ((l.take n).map (updP (ibit .and .i64 bk 7) m)) (((l.take n).map (updP (ibit .and .i64 bk 7) m)).filter fun p => decide (p.pl.1 ≠ (ibit .and .i64 bk 7))) := by
      have := drops_of hB8 hok (by rw [hBB]; exact hno)
      rw [hBB] at this
      exact this
    have hS : Gth (sloS ⟨8, 8, 16⟩ 8 (gridL 8 ((l.take n).map (updP (ibit .and .i64 bk 7) m)))) r.1 := hO.2.1
    have hSl : ((sloS ⟨8, 8, 16⟩ 8 (gridL 8 ((l.take n).map (updP (ibit .and .i64 bk 7) m))))).length ≤ 536871100 := Nat.le_trans sloL_len (keyL_len ⟨by decide, by decide, by decide⟩)
    have hSn := hS.n
    obtain ⟨j, wo, wb, wq, wl, wn, wc⟩ := w
    have hw : j ≤ (((l.take n).map (updP (ibit .and .i64 bk 7) m))).length ∧ Gth ((((l.take n).map (updP (ibit .and .i64 bk 7) m)).take j).filter fun p => decide (p.pl.1 ≠ (ibit .and .i64 bk 7))) (wo, wb, wq, wl, wn, wc) := hw
    have hW := hw.2.room
    have h2 : ¬ (j : Int) < (yn : Int) := of_decide_eq_false h2
    have hY : Gth (((l.take n).map (updP (ibit .and .i64 bk 7) m)).filter fun p => decide (p.pl.1 ≠ (ibit .and .i64 bk 7))) (wo, wb, wq, wl, wn, wc) := by
      have := hw.2
      have ej : j = (((l.take n).map (updP (ibit .and .i64 bk 7) m))).length := by have := hw.1; omega
      rw [ej, List.take_of_length_le (Nat.le_refl _)] at this
      exact this
    have hYl : ((((l.take n).map (updP (ibit .and .i64 bk 7) m)).filter fun p => decide (p.pl.1 ≠ (ibit .and .i64 bk 7)))).length ≤ (((l.take n).map (updP (ibit .and .i64 bk 7) m))).length := List.length_filter_le _ _
    have hwY : wn = ((((l.take n).map (updP (ibit .and .i64 bk 7) m)).filter fun p => decide (p.pl.1 ≠ (ibit .and .i64 bk 7)))).length := hY.n
    have hz2 : Gth (((l.take n).map (updP (ibit .and .i64 bk 7) m)).filter fun p => decide (p.pl.1 ≠ (ibit .and .i64 bk 7))) z2 := by
      have hz2 : Gth (wl.take wn) z2 := hz2
      have e : wl.take wn = (((l.take n).map (updP (ibit .and .i64 bk 7) m)).filter fun p => decide (p.pl.1 ≠ (ibit .and .i64 bk 7))) := hY.1
      rw [e] at hz2
      exact hz2
    have ez2 : (Sq.li z2 : List Pg) = (((l.take n).map (updP (ibit .and .i64 bk 7) m)).filter fun p => decide (p.pl.1 ≠ (ibit .and .i64 bk 7))) := hz2.1
    have hO2 : OfS ⟨8, 8, 16⟩ [] (((l.take n).map (updP (ibit .and .i64 bk 7) m)).filter fun p => decide (p.pl.1 ≠ (ibit .and .i64 bk 7))) r2 := by rw [← ez2]; exact hr2
    exact ⟨hS.le, by show r.1.2.2.2.2.1 < 1000000000; omega, hS.off⟩
  · rename_i u0 hl y hy h1 z hz r hr u3 w hw h2 z2 hz2 r2 hr2 u5 s hs
    obtain ⟨i, yo, yb, yq, yl, yn, yc⟩ := y
    have hl : ¬ (120 : Int) < (n : Int) := of_decide_eq_false hl
    have hy : i ≤ (l.take n).length ∧ Gth (((l.take n).take i).map (updP (ibit .and .i64 bk 7) m)) (yo, yb, yq, yl, yn, yc) ∧ ∀ j, j < i → fstP (ibit .and .i64 bk 7) ((l.take n).getD j pg0) = true → ¬ (m.kind = 1 ∧ m.key = (ibit .and .i64 bk 7)) := hy
    have hR := hy.2.1.room
    have h1 : ¬ (i : Int) < (n : Int) := of_decide_eq_false h1
    have ei : i = (l.take n).length := by have := hy.1; rw [hL] at this ⊢; omega
    have hX : Gth ((l.take n).map (updP (ibit .and .i64 bk 7) m)) (yo, yb, yq, yl, yn, yc) := by
      have := hy.2.1
      rw [ei, List.take_of_length_le (Nat.le_refl _)] at this
      exact this
    have hXl : (((l.take n).map (updP (ibit .and .i64 bk 7) m))).length = n := by rw [List.length_map, hL]
    have hyn : yn = n := hX.n.trans hXl
    have hno : ¬ HdAt ((l.take n).map (updP (ibit .and .i64 bk 7) m)) (ibit .and .i64 bk 7) := heads_no fun j hj => hy.2.2 j (by omega)
    have hz : Gth ((l.take n).map (updP (ibit .and .i64 bk 7) m)) z := by
      have hz : Gth (yl.take yn) z := hz
      have e : yl.take yn = ((l.take n).map (updP (ibit .and .i64 bk 7) m)) := hX.1
      rw [e] at hz
      exact hz
    have ez : (Sq.li z : List Pg) = ((l.take n).map (updP (ibit .and .i64 bk 7) m)) := hz.1
    have hO : OfS ⟨8, 8, 16⟩ [] ((l.take n).map (updP (ibit .and .i64 bk 7) m)) r := by rw [← ez]; exact hr
    have hok : Okl 8 8 ((l.take n).map (updP (ibit .and .i64 bk 7) m)) := okl_iff.1 hO.1
    have D : Drops (ibit .and .i64 bk 7).toNat ((l.take n).map (updP (ibit .and .i64 bk 7) m)) (((l.take n).map (updP (ibit .and .i64 bk 7) m)).filter fun p => decide (p.pl.1 ≠ (ibit .and .i64 bk 7))) := by
      have := drops_of hB8 hok (by rw [hBB]; exact hno)
      rw [hBB] at this
      exact this
    have hS : Gth (sloS ⟨8, 8, 16⟩ 8 (gridL 8 ((l.take n).map (updP (ibit .and .i64 bk 7) m)))) r.1 := hO.2.1
    have hSl : ((sloS ⟨8, 8, 16⟩ 8 (gridL 8 ((l.take n).map (updP (ibit .and .i64 bk 7) m))))).length ≤ 536871100 := Nat.le_trans sloL_len (keyL_len ⟨by decide, by decide, by decide⟩)
    have hSn := hS.n
    obtain ⟨j, wo, wb, wq, wl, wn, wc⟩ := w
    have hw : j ≤ (((l.take n).map (updP (ibit .and .i64 bk 7) m))).length ∧ Gth ((((l.take n).map (updP (ibit .and .i64 bk 7) m)).take j).filter fun p => decide (p.pl.1 ≠ (ibit .and .i64 bk 7))) (wo, wb, wq, wl, wn, wc) := hw
    have hW := hw.2.room
    have h2 : ¬ (j : Int) < (yn : Int) := of_decide_eq_false h2
    have hY : Gth (((l.take n).map (updP (ibit .and .i64 bk 7) m)).filter fun p => decide (p.pl.1 ≠ (ibit .and .i64 bk 7))) (wo, wb, wq, wl, wn, wc) := by
      have := hw.2
      have ej : j = (((l.take n).map (updP (ibit .and .i64 bk 7) m))).length := by have := hw.1; omega
      rw [ej, List.take_of_length_le (Nat.le_refl _)] at this
      exact this
    have hYl : ((((l.take n).map (updP (ibit .and .i64 bk 7) m)).filter fun p => decide (p.pl.1 ≠ (ibit .and .i64 bk 7)))).length ≤ (((l.take n).map (updP (ibit .and .i64 bk 7) m))).length := List.length_filter_le _ _
    have hwY : wn = ((((l.take n).map (updP (ibit .and .i64 bk 7) m)).filter fun p => decide (p.pl.1 ≠ (ibit .and .i64 bk 7)))).length := hY.n
    have hz2 : Gth (((l.take n).map (updP (ibit .and .i64 bk 7) m)).filter fun p => decide (p.pl.1 ≠ (ibit .and .i64 bk 7))) z2 := by
      have hz2 : Gth (wl.take wn) z2 := hz2
      have e : wl.take wn = (((l.take n).map (updP (ibit .and .i64 bk 7) m)).filter fun p => decide (p.pl.1 ≠ (ibit .and .i64 bk 7))) := hY.1
      rw [e] at hz2
      exact hz2
    have ez2 : (Sq.li z2 : List Pg) = (((l.take n).map (updP (ibit .and .i64 bk 7) m)).filter fun p => decide (p.pl.1 ≠ (ibit .and .i64 bk 7))) := hz2.1
    have hO2 : OfS ⟨8, 8, 16⟩ [] (((l.take n).map (updP (ibit .and .i64 bk 7) m)).filter fun p => decide (p.pl.1 ≠ (ibit .and .i64 bk 7))) r2 := by rw [← ez2]; exact hr2
    have hs : Gth (sloS ⟨8, 8, 16⟩ 8 (gridL 8 ((l.take n).map (updP (ibit .and .i64 bk 7) m)))) s := by
      have hs : Gth (r.1.2.2.2.1.take r.1.2.2.2.2.1) s := hs
      rw [hS.tk] at hs
      exact hs
    have hsn := hs.n
    refine Stands.one (0 : Nat) ⟨Nat.zero_le _, ?_⟩
    ((conv => (arg 1; reduce)); with_reducible repeat' (first | exact Tr.yes_h | refine Tr.and_h ?_ ?_ | refine Tr.imp_h fun _ => ?_ | refine Tr.all_h fun _ => ?_ | refine Tr.lf_h ?_))
    all_goals (first | first | (show Region.lexB _ _ = true; kernel_rfl) | (show planned _ _ = true; kernel_rfl) | exact rfl | exact True.intro | (first | exact key3 | exact zeroB | exact zeroR | exact zeroS | exact ⟨key3, zeroB⟩ | exact ⟨key3, zeroR⟩ | exact ⟨key3, zeroS⟩) | ((try dsimp only [imp, C0, cG, cInt, cPl, cSlot, cPg, gwCodec] at *); (try refine inR64 ?_ ?_) <;> (try simp only [List.length_set, List.length_append, List.length_take, List.length_drop]) <;> omega))
  · rename_i u0 hl y hy h1 z hz r hr u3 w hw h2 z2 hz2 r2 hr2 u5 s hs v hv h4
    obtain ⟨i, yo, yb, yq, yl, yn, yc⟩ := y
    have hl : ¬ (120 : Int) < (n : Int) := of_decide_eq_false hl
    have hy : i ≤ (l.take n).length ∧ Gth (((l.take n).take i).map (updP (ibit .and .i64 bk 7) m)) (yo, yb, yq, yl, yn, yc) ∧ ∀ j, j < i → fstP (ibit .and .i64 bk 7) ((l.take n).getD j pg0) = true → ¬ (m.kind = 1 ∧ m.key = (ibit .and .i64 bk 7)) := hy
    have hR := hy.2.1.room
    have h1 : ¬ (i : Int) < (n : Int) := of_decide_eq_false h1
    have ei : i = (l.take n).length := by have := hy.1; rw [hL] at this ⊢; omega
    have hX : Gth ((l.take n).map (updP (ibit .and .i64 bk 7) m)) (yo, yb, yq, yl, yn, yc) := by
      have := hy.2.1
      rw [ei, List.take_of_length_le (Nat.le_refl _)] at this
      exact this
    have hXl : (((l.take n).map (updP (ibit .and .i64 bk 7) m))).length = n := by rw [List.length_map, hL]
    have hyn : yn = n := hX.n.trans hXl
    have hno : ¬ HdAt ((l.take n).map (updP (ibit .and .i64 bk 7) m)) (ibit .and .i64 bk 7) := heads_no fun j hj => hy.2.2 j (by omega)
    have hz : Gth ((l.take n).map (updP (ibit .and .i64 bk 7) m)) z := by
      have hz : Gth (yl.take yn) z := hz
      have e : yl.take yn = ((l.take n).map (updP (ibit .and .i64 bk 7) m)) := hX.1
      rw [e] at hz
      exact hz
    have ez : (Sq.li z : List Pg) = ((l.take n).map (updP (ibit .and .i64 bk 7) m)) := hz.1
    have hO : OfS ⟨8, 8, 16⟩ [] ((l.take n).map (updP (ibit .and .i64 bk 7) m)) r := by rw [← ez]; exact hr
    have hok : Okl 8 8 ((l.take n).map (updP (ibit .and .i64 bk 7) m)) := okl_iff.1 hO.1
    have D : Drops (ibit .and .i64 bk 7).toNat ((l.take n).map (updP (ibit .and .i64 bk 7) m)) (((l.take n).map (updP (ibit .and .i64 bk 7) m)).filter fun p => decide (p.pl.1 ≠ (ibit .and .i64 bk 7))) := by
      have := drops_of hB8 hok (by rw [hBB]; exact hno)
      rw [hBB] at this
      exact this
    have hS : Gth (sloS ⟨8, 8, 16⟩ 8 (gridL 8 ((l.take n).map (updP (ibit .and .i64 bk 7) m)))) r.1 := hO.2.1
    have hSl : ((sloS ⟨8, 8, 16⟩ 8 (gridL 8 ((l.take n).map (updP (ibit .and .i64 bk 7) m))))).length ≤ 536871100 := Nat.le_trans sloL_len (keyL_len ⟨by decide, by decide, by decide⟩)
    have hSn := hS.n
    obtain ⟨j, wo, wb, wq, wl, wn, wc⟩ := w
    have hw : j ≤ (((l.take n).map (updP (ibit .and .i64 bk 7) m))).length ∧ Gth ((((l.take n).map (updP (ibit .and .i64 bk 7) m)).take j).filter fun p => decide (p.pl.1 ≠ (ibit .and .i64 bk 7))) (wo, wb, wq, wl, wn, wc) := hw
    have hW := hw.2.room
    have h2 : ¬ (j : Int) < (yn : Int) := of_decide_eq_false h2
    have hY : Gth (((l.take n).map (updP (ibit .and .i64 bk 7) m)).filter fun p => decide (p.pl.1 ≠ (ibit .and .i64 bk 7))) (wo, wb, wq, wl, wn, wc) := by
      have := hw.2
      have ej : j = (((l.take n).map (updP (ibit .and .i64 bk 7) m))).length := by have := hw.1; omega
      rw [ej, List.take_of_length_le (Nat.le_refl _)] at this
      exact this
    have hYl : ((((l.take n).map (updP (ibit .and .i64 bk 7) m)).filter fun p => decide (p.pl.1 ≠ (ibit .and .i64 bk 7)))).length ≤ (((l.take n).map (updP (ibit .and .i64 bk 7) m))).length := List.length_filter_le _ _
    have hwY : wn = ((((l.take n).map (updP (ibit .and .i64 bk 7) m)).filter fun p => decide (p.pl.1 ≠ (ibit .and .i64 bk 7)))).length := hY.n
    have hz2 : Gth (((l.take n).map (updP (ibit .and .i64 bk 7) m)).filter fun p => decide (p.pl.1 ≠ (ibit .and .i64 bk 7))) z2 := by
      have hz2 : Gth (wl.take wn) z2 := hz2
      have e : wl.take wn = (((l.take n).map (updP (ibit .and .i64 bk 7) m)).filter fun p => decide (p.pl.1 ≠ (ibit .and .i64 bk 7))) := hY.1
      rw [e] at hz2
      exact hz2
    have ez2 : (Sq.li z2 : List Pg) = (((l.take n).map (updP (ibit .and .i64 bk 7) m)).filter fun p => decide (p.pl.1 ≠ (ibit .and .i64 bk 7))) := hz2.1
    have hO2 : OfS ⟨8, 8, 16⟩ [] (((l.take n).map (updP (ibit .and .i64 bk 7) m)).filter fun p => decide (p.pl.1 ≠ (ibit .and .i64 bk 7))) r2 := by rw [← ez2]; exact hr2
    have hs : Gth (sloS ⟨8, 8, 16⟩ 8 (gridL 8 ((l.take n).map (updP (ibit .and .i64 bk 7) m)))) s := by
      have hs : Gth (r.1.2.2.2.1.take r.1.2.2.2.2.1) s := hs
      rw [hS.tk] at hs
      exact hs
    have hsn := hs.n
    change Nat at v
    have hv : v ≤ ((sloS ⟨8, 8, 16⟩ 8 (gridL 8 ((l.take n).map (updP (ibit .and .i64 bk 7) m))))).length := hv
    have h4 : (v : Int) < ((s.2.2.2.2.1 : Nat) : Int) := of_decide_eq_true h4
    exact hs.on (by omega)
  · rename_i u0 hl y hy h1 z hz r hr u3 w hw h2 z2 hz2 r2 hr2 u5 s hs v hv h4
    obtain ⟨i, yo, yb, yq, yl, yn, yc⟩ := y
    have hl : ¬ (120 : Int) < (n : Int) := of_decide_eq_false hl
    have hy : i ≤ (l.take n).length ∧ Gth (((l.take n).take i).map (updP (ibit .and .i64 bk 7) m)) (yo, yb, yq, yl, yn, yc) ∧ ∀ j, j < i → fstP (ibit .and .i64 bk 7) ((l.take n).getD j pg0) = true → ¬ (m.kind = 1 ∧ m.key = (ibit .and .i64 bk 7)) := hy
    have hR := hy.2.1.room
    have h1 : ¬ (i : Int) < (n : Int) := of_decide_eq_false h1
    have ei : i = (l.take n).length := by have := hy.1; rw [hL] at this ⊢; omega
    have hX : Gth ((l.take n).map (updP (ibit .and .i64 bk 7) m)) (yo, yb, yq, yl, yn, yc) := by
      have := hy.2.1
      rw [ei, List.take_of_length_le (Nat.le_refl _)] at this
      exact this
    have hXl : (((l.take n).map (updP (ibit .and .i64 bk 7) m))).length = n := by rw [List.length_map, hL]
    have hyn : yn = n := hX.n.trans hXl
    have hno : ¬ HdAt ((l.take n).map (updP (ibit .and .i64 bk 7) m)) (ibit .and .i64 bk 7) := heads_no fun j hj => hy.2.2 j (by omega)
    have hz : Gth ((l.take n).map (updP (ibit .and .i64 bk 7) m)) z := by
      have hz : Gth (yl.take yn) z := hz
      have e : yl.take yn = ((l.take n).map (updP (ibit .and .i64 bk 7) m)) := hX.1
      rw [e] at hz
      exact hz
    have ez : (Sq.li z : List Pg) = ((l.take n).map (updP (ibit .and .i64 bk 7) m)) := hz.1
    have hO : OfS ⟨8, 8, 16⟩ [] ((l.take n).map (updP (ibit .and .i64 bk 7) m)) r := by rw [← ez]; exact hr
    have hok : Okl 8 8 ((l.take n).map (updP (ibit .and .i64 bk 7) m)) := okl_iff.1 hO.1
    have D : Drops (ibit .and .i64 bk 7).toNat ((l.take n).map (updP (ibit .and .i64 bk 7) m)) (((l.take n).map (updP (ibit .and .i64 bk 7) m)).filter fun p => decide (p.pl.1 ≠ (ibit .and .i64 bk 7))) := by
      have := drops_of hB8 hok (by rw [hBB]; exact hno)
      rw [hBB] at this
      exact this
    have hS : Gth (sloS ⟨8, 8, 16⟩ 8 (gridL 8 ((l.take n).map (updP (ibit .and .i64 bk 7) m)))) r.1 := hO.2.1
    have hSl : ((sloS ⟨8, 8, 16⟩ 8 (gridL 8 ((l.take n).map (updP (ibit .and .i64 bk 7) m))))).length ≤ 536871100 := Nat.le_trans sloL_len (keyL_len ⟨by decide, by decide, by decide⟩)
    have hSn := hS.n
    obtain ⟨j, wo, wb, wq, wl, wn, wc⟩ := w
    have hw : j ≤ (((l.take n).map (updP (ibit .and .i64 bk 7) m))).length ∧ Gth ((((l.take n).map (updP (ibit .and .i64 bk 7) m)).take j).filter fun p => decide (p.pl.1 ≠ (ibit .and .i64 bk 7))) (wo, wb, wq, wl, wn, wc) := hw
    have hW := hw.2.room
    have h2 : ¬ (j : Int) < (yn : Int) := of_decide_eq_false h2
    have hY : Gth (((l.take n).map (updP (ibit .and .i64 bk 7) m)).filter fun p => decide (p.pl.1 ≠ (ibit .and .i64 bk 7))) (wo, wb, wq, wl, wn, wc) := by
      have := hw.2
      have ej : j = (((l.take n).map (updP (ibit .and .i64 bk 7) m))).length := by have := hw.1; omega
      rw [ej, List.take_of_length_le (Nat.le_refl _)] at this
      exact this
    have hYl : ((((l.take n).map (updP (ibit .and .i64 bk 7) m)).filter fun p => decide (p.pl.1 ≠ (ibit .and .i64 bk 7)))).length ≤ (((l.take n).map (updP (ibit .and .i64 bk 7) m))).length := List.length_filter_le _ _
    have hwY : wn = ((((l.take n).map (updP (ibit .and .i64 bk 7) m)).filter fun p => decide (p.pl.1 ≠ (ibit .and .i64 bk 7)))).length := hY.n
    have hz2 : Gth (((l.take n).map (updP (ibit .and .i64 bk 7) m)).filter fun p => decide (p.pl.1 ≠ (ibit .and .i64 bk 7))) z2 := by
      have hz2 : Gth (wl.take wn) z2 := hz2
      have e : wl.take wn = (((l.take n).map (updP (ibit .and .i64 bk 7) m)).filter fun p => decide (p.pl.1 ≠ (ibit .and .i64 bk 7))) := hY.1
      rw [e] at hz2
      exact hz2
    have ez2 : (Sq.li z2 : List Pg) = (((l.take n).map (updP (ibit .and .i64 bk 7) m)).filter fun p => decide (p.pl.1 ≠ (ibit .and .i64 bk 7))) := hz2.1
    have hO2 : OfS ⟨8, 8, 16⟩ [] (((l.take n).map (updP (ibit .and .i64 bk 7) m)).filter fun p => decide (p.pl.1 ≠ (ibit .and .i64 bk 7))) r2 := by rw [← ez2]; exact hr2
    have hs : Gth (sloS ⟨8, 8, 16⟩ 8 (gridL 8 ((l.take n).map (updP (ibit .and .i64 bk 7) m)))) s := by
      have hs : Gth (r.1.2.2.2.1.take r.1.2.2.2.2.1) s := hs
      rw [hS.tk] at hs
      exact hs
    have hsn := hs.n
    change Nat at v
    have hv : v ≤ ((sloS ⟨8, 8, 16⟩ 8 (gridL 8 ((l.take n).map (updP (ibit .and .i64 bk 7) m))))).length := hv
    have h4 : (v : Int) < ((s.2.2.2.2.1 : Nat) : Int) := of_decide_eq_true h4
    exact h4
  · rename_i u0 hl y hy h1 z hz r hr u3 w hw h2 z2 hz2 r2 hr2 u5 s hs v hv h4
    obtain ⟨i, yo, yb, yq, yl, yn, yc⟩ := y
    have hl : ¬ (120 : Int) < (n : Int) := of_decide_eq_false hl
    have hy : i ≤ (l.take n).length ∧ Gth (((l.take n).take i).map (updP (ibit .and .i64 bk 7) m)) (yo, yb, yq, yl, yn, yc) ∧ ∀ j, j < i → fstP (ibit .and .i64 bk 7) ((l.take n).getD j pg0) = true → ¬ (m.kind = 1 ∧ m.key = (ibit .and .i64 bk 7)) := hy
    have hR := hy.2.1.room
    have h1 : ¬ (i : Int) < (n : Int) := of_decide_eq_false h1
    have ei : i = (l.take n).length := by have := hy.1; rw [hL] at this ⊢; omega
    have hX : Gth ((l.take n).map (updP (ibit .and .i64 bk 7) m)) (yo, yb, yq, yl, yn, yc) := by
      have := hy.2.1
      rw [ei, List.take_of_length_le (Nat.le_refl _)] at this
      exact this
    have hXl : (((l.take n).map (updP (ibit .and .i64 bk 7) m))).length = n := by rw [List.length_map, hL]
    have hyn : yn = n := hX.n.trans hXl
    have hno : ¬ HdAt ((l.take n).map (updP (ibit .and .i64 bk 7) m)) (ibit .and .i64 bk 7) := heads_no fun j hj => hy.2.2 j (by omega)
    have hz : Gth ((l.take n).map (updP (ibit .and .i64 bk 7) m)) z := by
      have hz : Gth (yl.take yn) z := hz
      have e : yl.take yn = ((l.take n).map (updP (ibit .and .i64 bk 7) m)) := hX.1
      rw [e] at hz
      exact hz
    have ez : (Sq.li z : List Pg) = ((l.take n).map (updP (ibit .and .i64 bk 7) m)) := hz.1
    have hO : OfS ⟨8, 8, 16⟩ [] ((l.take n).map (updP (ibit .and .i64 bk 7) m)) r := by rw [← ez]; exact hr
    have hok : Okl 8 8 ((l.take n).map (updP (ibit .and .i64 bk 7) m)) := okl_iff.1 hO.1
    have D : Drops (ibit .and .i64 bk 7).toNat ((l.take n).map (updP (ibit .and .i64 bk 7) m)) (((l.take n).map (updP (ibit .and .i64 bk 7) m)).filter fun p => decide (p.pl.1 ≠ (ibit .and .i64 bk 7))) := by
      have := drops_of hB8 hok (by rw [hBB]; exact hno)
      rw [hBB] at this
      exact this
    have hS : Gth (sloS ⟨8, 8, 16⟩ 8 (gridL 8 ((l.take n).map (updP (ibit .and .i64 bk 7) m)))) r.1 := hO.2.1
    have hSl : ((sloS ⟨8, 8, 16⟩ 8 (gridL 8 ((l.take n).map (updP (ibit .and .i64 bk 7) m))))).length ≤ 536871100 := Nat.le_trans sloL_len (keyL_len ⟨by decide, by decide, by decide⟩)
    have hSn := hS.n
    obtain ⟨j, wo, wb, wq, wl, wn, wc⟩ := w
    have hw : j ≤ (((l.take n).map (updP (ibit .and .i64 bk 7) m))).length ∧ Gth ((((l.take n).map (updP (ibit .and .i64 bk 7) m)).take j).filter fun p => decide (p.pl.1 ≠ (ibit .and .i64 bk 7))) (wo, wb, wq, wl, wn, wc) := hw
    have hW := hw.2.room
    have h2 : ¬ (j : Int) < (yn : Int) := of_decide_eq_false h2
    have hY : Gth (((l.take n).map (updP (ibit .and .i64 bk 7) m)).filter fun p => decide (p.pl.1 ≠ (ibit .and .i64 bk 7))) (wo, wb, wq, wl, wn, wc) := by
      have := hw.2
      have ej : j = (((l.take n).map (updP (ibit .and .i64 bk 7) m))).length := by have := hw.1; omega
      rw [ej, List.take_of_length_le (Nat.le_refl _)] at this
      exact this
    have hYl : ((((l.take n).map (updP (ibit .and .i64 bk 7) m)).filter fun p => decide (p.pl.1 ≠ (ibit .and .i64 bk 7)))).length ≤ (((l.take n).map (updP (ibit .and .i64 bk 7) m))).length := List.length_filter_le _ _
    have hwY : wn = ((((l.take n).map (updP (ibit .and .i64 bk 7) m)).filter fun p => decide (p.pl.1 ≠ (ibit .and .i64 bk 7)))).length := hY.n
    have hz2 : Gth (((l.take n).map (updP (ibit .and .i64 bk 7) m)).filter fun p => decide (p.pl.1 ≠ (ibit .and .i64 bk 7))) z2 := by
      have hz2 : Gth (wl.take wn) z2 := hz2
      have e : wl.take wn = (((l.take n).map (updP (ibit .and .i64 bk 7) m)).filter fun p => decide (p.pl.1 ≠ (ibit .and .i64 bk 7))) := hY.1
      rw [e] at hz2
      exact hz2
    have ez2 : (Sq.li z2 : List Pg) = (((l.take n).map (updP (ibit .and .i64 bk 7) m)).filter fun p => decide (p.pl.1 ≠ (ibit .and .i64 bk 7))) := hz2.1
    have hO2 : OfS ⟨8, 8, 16⟩ [] (((l.take n).map (updP (ibit .and .i64 bk 7) m)).filter fun p => decide (p.pl.1 ≠ (ibit .and .i64 bk 7))) r2 := by rw [← ez2]; exact hr2
    have hs : Gth (sloS ⟨8, 8, 16⟩ 8 (gridL 8 ((l.take n).map (updP (ibit .and .i64 bk 7) m)))) s := by
      have hs : Gth (r.1.2.2.2.1.take r.1.2.2.2.2.1) s := hs
      rw [hS.tk] at hs
      exact hs
    have hsn := hs.n
    change Nat at v
    have hv : v ≤ ((sloS ⟨8, 8, 16⟩ 8 (gridL 8 ((l.take n).map (updP (ibit .and .i64 bk 7) m))))).length := hv
    have h4 : (v : Int) < ((s.2.2.2.2.1 : Nat) : Int) := of_decide_eq_true h4
    exact hs.on (by omega)
  · rename_i u0 hl y hy h1 z hz r hr u3 w hw h2 z2 hz2 r2 hr2 u5 s hs v hv h4
    obtain ⟨i, yo, yb, yq, yl, yn, yc⟩ := y
    have hl : ¬ (120 : Int) < (n : Int) := of_decide_eq_false hl
    have hy : i ≤ (l.take n).length ∧ Gth (((l.take n).take i).map (updP (ibit .and .i64 bk 7) m)) (yo, yb, yq, yl, yn, yc) ∧ ∀ j, j < i → fstP (ibit .and .i64 bk 7) ((l.take n).getD j pg0) = true → ¬ (m.kind = 1 ∧ m.key = (ibit .and .i64 bk 7)) := hy
    have hR := hy.2.1.room
    have h1 : ¬ (i : Int) < (n : Int) := of_decide_eq_false h1
    have ei : i = (l.take n).length := by have := hy.1; rw [hL] at this ⊢; omega
    have hX : Gth ((l.take n).map (updP (ibit .and .i64 bk 7) m)) (yo, yb, yq, yl, yn, yc) := by
      have := hy.2.1
      rw [ei, List.take_of_length_le (Nat.le_refl _)] at this
      exact this
    have hXl : (((l.take n).map (updP (ibit .and .i64 bk 7) m))).length = n := by rw [List.length_map, hL]
    have hyn : yn = n := hX.n.trans hXl
    have hno : ¬ HdAt ((l.take n).map (updP (ibit .and .i64 bk 7) m)) (ibit .and .i64 bk 7) := heads_no fun j hj => hy.2.2 j (by omega)
    have hz : Gth ((l.take n).map (updP (ibit .and .i64 bk 7) m)) z := by
      have hz : Gth (yl.take yn) z := hz
      have e : yl.take yn = ((l.take n).map (updP (ibit .and .i64 bk 7) m)) := hX.1
      rw [e] at hz
      exact hz
    have ez : (Sq.li z : List Pg) = ((l.take n).map (updP (ibit .and .i64 bk 7) m)) := hz.1
    have hO : OfS ⟨8, 8, 16⟩ [] ((l.take n).map (updP (ibit .and .i64 bk 7) m)) r := by rw [← ez]; exact hr
    have hok : Okl 8 8 ((l.take n).map (updP (ibit .and .i64 bk 7) m)) := okl_iff.1 hO.1
    have D : Drops (ibit .and .i64 bk 7).toNat ((l.take n).map (updP (ibit .and .i64 bk 7) m)) (((l.take n).map (updP (ibit .and .i64 bk 7) m)).filter fun p => decide (p.pl.1 ≠ (ibit .and .i64 bk 7))) := by
      have := drops_of hB8 hok (by rw [hBB]; exact hno)
      rw [hBB] at this
      exact this
    have hS : Gth (sloS ⟨8, 8, 16⟩ 8 (gridL 8 ((l.take n).map (updP (ibit .and .i64 bk 7) m)))) r.1 := hO.2.1
    have hSl : ((sloS ⟨8, 8, 16⟩ 8 (gridL 8 ((l.take n).map (updP (ibit .and .i64 bk 7) m))))).length ≤ 536871100 := Nat.le_trans sloL_len (keyL_len ⟨by decide, by decide, by decide⟩)
    have hSn := hS.n
    obtain ⟨j, wo, wb, wq, wl, wn, wc⟩ := w
    have hw : j ≤ (((l.take n).map (updP (ibit .and .i64 bk 7) m))).length ∧ Gth ((((l.take n).map (updP (ibit .and .i64 bk 7) m)).take j).filter fun p => decide (p.pl.1 ≠ (ibit .and .i64 bk 7))) (wo, wb, wq, wl, wn, wc) := hw
    have hW := hw.2.room
    have h2 : ¬ (j : Int) < (yn : Int) := of_decide_eq_false h2
    have hY : Gth (((l.take n).map (updP (ibit .and .i64 bk 7) m)).filter fun p => decide (p.pl.1 ≠ (ibit .and .i64 bk 7))) (wo, wb, wq, wl, wn, wc) := by
      have := hw.2
      have ej : j = (((l.take n).map (updP (ibit .and .i64 bk 7) m))).length := by have := hw.1; omega
      rw [ej, List.take_of_length_le (Nat.le_refl _)] at this
      exact this
    have hYl : ((((l.take n).map (updP (ibit .and .i64 bk 7) m)).filter fun p => decide (p.pl.1 ≠ (ibit .and .i64 bk 7)))).length ≤ (((l.take n).map (updP (ibit .and .i64 bk 7) m))).length := List.length_filter_le _ _
    have hwY : wn = ((((l.take n).map (updP (ibit .and .i64 bk 7) m)).filter fun p => decide (p.pl.1 ≠ (ibit .and .i64 bk 7)))).length := hY.n
    have hz2 : Gth (((l.take n).map (updP (ibit .and .i64 bk 7) m)).filter fun p => decide (p.pl.1 ≠ (ibit .and .i64 bk 7))) z2 := by
      have hz2 : Gth (wl.take wn) z2 := hz2
      have e : wl.take wn = (((l.take n).map (updP (ibit .and .i64 bk 7) m)).filter fun p => decide (p.pl.1 ≠ (ibit .and .i64 bk 7))) := hY.1
      rw [e] at hz2
      exact hz2
    have ez2 : (Sq.li z2 : List Pg) = (((l.take n).map (updP (ibit .and .i64 bk 7) m)).filter fun p => decide (p.pl.1 ≠ (ibit .and .i64 bk 7))) := hz2.1
    have hO2 : OfS ⟨8, 8, 16⟩ [] (((l.take n).map (updP (ibit .and .i64 bk 7) m)).filter fun p => decide (p.pl.1 ≠ (ibit .and .i64 bk 7))) r2 := by rw [← ez2]; exact hr2
    have hs : Gth (sloS ⟨8, 8, 16⟩ 8 (gridL 8 ((l.take n).map (updP (ibit .and .i64 bk 7) m)))) s := by
      have hs : Gth (r.1.2.2.2.1.take r.1.2.2.2.2.1) s := hs
      rw [hS.tk] at hs
      exact hs
    have hsn := hs.n
    change Nat at v
    have hv : v ≤ ((sloS ⟨8, 8, 16⟩ 8 (gridL 8 ((l.take n).map (updP (ibit .and .i64 bk 7) m))))).length := hv
    have h4 : (v : Int) < ((s.2.2.2.2.1 : Nat) : Int) := of_decide_eq_true h4
    have := hs.le
    show v < s.2.2.2.1.length
    omega
  · rename_i u0 hl y hy h1 z hz r hr u3 w hw h2 z2 hz2 r2 hr2 u5 s hs v hv h4 hp
    obtain ⟨i, yo, yb, yq, yl, yn, yc⟩ := y
    have hl : ¬ (120 : Int) < (n : Int) := of_decide_eq_false hl
    have hy : i ≤ (l.take n).length ∧ Gth (((l.take n).take i).map (updP (ibit .and .i64 bk 7) m)) (yo, yb, yq, yl, yn, yc) ∧ ∀ j, j < i → fstP (ibit .and .i64 bk 7) ((l.take n).getD j pg0) = true → ¬ (m.kind = 1 ∧ m.key = (ibit .and .i64 bk 7)) := hy
    have hR := hy.2.1.room
    have h1 : ¬ (i : Int) < (n : Int) := of_decide_eq_false h1
    have ei : i = (l.take n).length := by have := hy.1; rw [hL] at this ⊢; omega
    have hX : Gth ((l.take n).map (updP (ibit .and .i64 bk 7) m)) (yo, yb, yq, yl, yn, yc) := by
      have := hy.2.1
      rw [ei, List.take_of_length_le (Nat.le_refl _)] at this
      exact this
    have hXl : (((l.take n).map (updP (ibit .and .i64 bk 7) m))).length = n := by rw [List.length_map, hL]
    have hyn : yn = n := hX.n.trans hXl
    have hno : ¬ HdAt ((l.take n).map (updP (ibit .and .i64 bk 7) m)) (ibit .and .i64 bk 7) := heads_no fun j hj => hy.2.2 j (by omega)
    have hz : Gth ((l.take n).map (updP (ibit .and .i64 bk 7) m)) z := by
      have hz : Gth (yl.take yn) z := hz
      have e : yl.take yn = ((l.take n).map (updP (ibit .and .i64 bk 7) m)) := hX.1
      rw [e] at hz
      exact hz
    have ez : (Sq.li z : List Pg) = ((l.take n).map (updP (ibit .and .i64 bk 7) m)) := hz.1
    have hO : OfS ⟨8, 8, 16⟩ [] ((l.take n).map (updP (ibit .and .i64 bk 7) m)) r := by rw [← ez]; exact hr
    have hok : Okl 8 8 ((l.take n).map (updP (ibit .and .i64 bk 7) m)) := okl_iff.1 hO.1
    have D : Drops (ibit .and .i64 bk 7).toNat ((l.take n).map (updP (ibit .and .i64 bk 7) m)) (((l.take n).map (updP (ibit .and .i64 bk 7) m)).filter fun p => decide (p.pl.1 ≠ (ibit .and .i64 bk 7))) := by
      have := drops_of hB8 hok (by rw [hBB]; exact hno)
      rw [hBB] at this
      exact this
    have hS : Gth (sloS ⟨8, 8, 16⟩ 8 (gridL 8 ((l.take n).map (updP (ibit .and .i64 bk 7) m)))) r.1 := hO.2.1
    have hSl : ((sloS ⟨8, 8, 16⟩ 8 (gridL 8 ((l.take n).map (updP (ibit .and .i64 bk 7) m))))).length ≤ 536871100 := Nat.le_trans sloL_len (keyL_len ⟨by decide, by decide, by decide⟩)
    have hSn := hS.n
    obtain ⟨j, wo, wb, wq, wl, wn, wc⟩ := w
    have hw : j ≤ (((l.take n).map (updP (ibit .and .i64 bk 7) m))).length ∧ Gth ((((l.take n).map (updP (ibit .and .i64 bk 7) m)).take j).filter fun p => decide (p.pl.1 ≠ (ibit .and .i64 bk 7))) (wo, wb, wq, wl, wn, wc) := hw
    have hW := hw.2.room
    have h2 : ¬ (j : Int) < (yn : Int) := of_decide_eq_false h2
    have hY : Gth (((l.take n).map (updP (ibit .and .i64 bk 7) m)).filter fun p => decide (p.pl.1 ≠ (ibit .and .i64 bk 7))) (wo, wb, wq, wl, wn, wc) := by
      have := hw.2
      have ej : j = (((l.take n).map (updP (ibit .and .i64 bk 7) m))).length := by have := hw.1; omega
      rw [ej, List.take_of_length_le (Nat.le_refl _)] at this
      exact this
    have hYl : ((((l.take n).map (updP (ibit .and .i64 bk 7) m)).filter fun p => decide (p.pl.1 ≠ (ibit .and .i64 bk 7)))).length ≤ (((l.take n).map (updP (ibit .and .i64 bk 7) m))).length := List.length_filter_le _ _
    have hwY : wn = ((((l.take n).map (updP (ibit .and .i64 bk 7) m)).filter fun p => decide (p.pl.1 ≠ (ibit .and .i64 bk 7)))).length := hY.n
    have hz2 : Gth (((l.take n).map (updP (ibit .and .i64 bk 7) m)).filter fun p => decide (p.pl.1 ≠ (ibit .and .i64 bk 7))) z2 := by
      have hz2 : Gth (wl.take wn) z2 := hz2
      have e : wl.take wn = (((l.take n).map (updP (ibit .and .i64 bk 7) m)).filter fun p => decide (p.pl.1 ≠ (ibit .and .i64 bk 7))) := hY.1
      rw [e] at hz2
      exact hz2
    have ez2 : (Sq.li z2 : List Pg) = (((l.take n).map (updP (ibit .and .i64 bk 7) m)).filter fun p => decide (p.pl.1 ≠ (ibit .and .i64 bk 7))) := hz2.1
    have hO2 : OfS ⟨8, 8, 16⟩ [] (((l.take n).map (updP (ibit .and .i64 bk 7) m)).filter fun p => decide (p.pl.1 ≠ (ibit .and .i64 bk 7))) r2 := by rw [← ez2]; exact hr2
    have hs : Gth (sloS ⟨8, 8, 16⟩ 8 (gridL 8 ((l.take n).map (updP (ibit .and .i64 bk 7) m)))) s := by
      have hs : Gth (r.1.2.2.2.1.take r.1.2.2.2.2.1) s := hs
      rw [hS.tk] at hs
      exact hs
    have hsn := hs.n
    change Nat at v
    have hv : v ≤ ((sloS ⟨8, 8, 16⟩ 8 (gridL 8 ((l.take n).map (updP (ibit .and .i64 bk 7) m))))).length := hv
    have h4 : (v : Int) < ((s.2.2.2.2.1 : Nat) : Int) := of_decide_eq_true h4
    exfalso
    have hp : (s.2.2.2.1.getD v slot0).pl.1 = (ibit .and .i64 bk 7) := of_decide_eq_true hp
    have hvS : v < ((sloS ⟨8, 8, 16⟩ 8 (gridL 8 ((l.take n).map (updP (ibit .and .i64 bk 7) m))))).length := by omega
    rw [hs.get (d := slot0) hvS] at hp
    exact D.slo _ (getD_mem (d := slot0) hvS) (by rw [hBB]; exact hp)
  · rename_i u0 hl y hy h1 z hz r hr u3 w hw h2 z2 hz2 r2 hr2 u5 s hs v hv h4 hp
    obtain ⟨i, yo, yb, yq, yl, yn, yc⟩ := y
    have hl : ¬ (120 : Int) < (n : Int) := of_decide_eq_false hl
    have hy : i ≤ (l.take n).length ∧ Gth (((l.take n).take i).map (updP (ibit .and .i64 bk 7) m)) (yo, yb, yq, yl, yn, yc) ∧ ∀ j, j < i → fstP (ibit .and .i64 bk 7) ((l.take n).getD j pg0) = true → ¬ (m.kind = 1 ∧ m.key = (ibit .and .i64 bk 7)) := hy
    have hR := hy.2.1.room
    have h1 : ¬ (i : Int) < (n : Int) := of_decide_eq_false h1
    have ei : i = (l.take n).length := by have := hy.1; rw [hL] at this ⊢; omega
    have hX : Gth ((l.take n).map (updP (ibit .and .i64 bk 7) m)) (yo, yb, yq, yl, yn, yc) := by
      have := hy.2.1
      rw [ei, List.take_of_length_le (Nat.le_refl _)] at this
      exact this
    have hXl : (((l.take n).map (updP (ibit .and .i64 bk 7) m))).length = n := by rw [List.length_map, hL]
    have hyn : yn = n := hX.n.trans hXl
    have hno : ¬ HdAt ((l.take n).map (updP (ibit .and .i64 bk 7) m)) (ibit .and .i64 bk 7) := heads_no fun j hj => hy.2.2 j (by omega)
    have hz : Gth ((l.take n).map (updP (ibit .and .i64 bk 7) m)) z := by
      have hz : Gth (yl.take yn) z := hz
      have e : yl.take yn = ((l.take n).map (updP (ibit .and .i64 bk 7) m)) := hX.1
      rw [e] at hz
      exact hz
    have ez : (Sq.li z : List Pg) = ((l.take n).map (updP (ibit .and .i64 bk 7) m)) := hz.1
    have hO : OfS ⟨8, 8, 16⟩ [] ((l.take n).map (updP (ibit .and .i64 bk 7) m)) r := by rw [← ez]; exact hr
    have hok : Okl 8 8 ((l.take n).map (updP (ibit .and .i64 bk 7) m)) := okl_iff.1 hO.1
    have D : Drops (ibit .and .i64 bk 7).toNat ((l.take n).map (updP (ibit .and .i64 bk 7) m)) (((l.take n).map (updP (ibit .and .i64 bk 7) m)).filter fun p => decide (p.pl.1 ≠ (ibit .and .i64 bk 7))) := by
      have := drops_of hB8 hok (by rw [hBB]; exact hno)
      rw [hBB] at this
      exact this
    have hS : Gth (sloS ⟨8, 8, 16⟩ 8 (gridL 8 ((l.take n).map (updP (ibit .and .i64 bk 7) m)))) r.1 := hO.2.1
    have hSl : ((sloS ⟨8, 8, 16⟩ 8 (gridL 8 ((l.take n).map (updP (ibit .and .i64 bk 7) m))))).length ≤ 536871100 := Nat.le_trans sloL_len (keyL_len ⟨by decide, by decide, by decide⟩)
    have hSn := hS.n
    obtain ⟨j, wo, wb, wq, wl, wn, wc⟩ := w
    have hw : j ≤ (((l.take n).map (updP (ibit .and .i64 bk 7) m))).length ∧ Gth ((((l.take n).map (updP (ibit .and .i64 bk 7) m)).take j).filter fun p => decide (p.pl.1 ≠ (ibit .and .i64 bk 7))) (wo, wb, wq, wl, wn, wc) := hw
    have hW := hw.2.room
    have h2 : ¬ (j : Int) < (yn : Int) := of_decide_eq_false h2
    have hY : Gth (((l.take n).map (updP (ibit .and .i64 bk 7) m)).filter fun p => decide (p.pl.1 ≠ (ibit .and .i64 bk 7))) (wo, wb, wq, wl, wn, wc) := by
      have := hw.2
      have ej : j = (((l.take n).map (updP (ibit .and .i64 bk 7) m))).length := by have := hw.1; omega
      rw [ej, List.take_of_length_le (Nat.le_refl _)] at this
      exact this
    have hYl : ((((l.take n).map (updP (ibit .and .i64 bk 7) m)).filter fun p => decide (p.pl.1 ≠ (ibit .and .i64 bk 7)))).length ≤ (((l.take n).map (updP (ibit .and .i64 bk 7) m))).length := List.length_filter_le _ _
    have hwY : wn = ((((l.take n).map (updP (ibit .and .i64 bk 7) m)).filter fun p => decide (p.pl.1 ≠ (ibit .and .i64 bk 7)))).length := hY.n
    have hz2 : Gth (((l.take n).map (updP (ibit .and .i64 bk 7) m)).filter fun p => decide (p.pl.1 ≠ (ibit .and .i64 bk 7))) z2 := by
      have hz2 : Gth (wl.take wn) z2 := hz2
      have e : wl.take wn = (((l.take n).map (updP (ibit .and .i64 bk 7) m)).filter fun p => decide (p.pl.1 ≠ (ibit .and .i64 bk 7))) := hY.1
      rw [e] at hz2
      exact hz2
    have ez2 : (Sq.li z2 : List Pg) = (((l.take n).map (updP (ibit .and .i64 bk 7) m)).filter fun p => decide (p.pl.1 ≠ (ibit .and .i64 bk 7))) := hz2.1
    have hO2 : OfS ⟨8, 8, 16⟩ [] (((l.take n).map (updP (ibit .and .i64 bk 7) m)).filter fun p => decide (p.pl.1 ≠ (ibit .and .i64 bk 7))) r2 := by rw [← ez2]; exact hr2
    have hs : Gth (sloS ⟨8, 8, 16⟩ 8 (gridL 8 ((l.take n).map (updP (ibit .and .i64 bk 7) m)))) s := by
      have hs : Gth (r.1.2.2.2.1.take r.1.2.2.2.2.1) s := hs
      rw [hS.tk] at hs
      exact hs
    have hsn := hs.n
    change Nat at v
    have hv : v ≤ ((sloS ⟨8, 8, 16⟩ 8 (gridL 8 ((l.take n).map (updP (ibit .and .i64 bk 7) m))))).length := hv
    have h4 : (v : Int) < ((s.2.2.2.2.1 : Nat) : Int) := of_decide_eq_true h4
    exact inR64 (by show -9223372036854775808 ≤ (v : Int) + 1; omega) (by show (v : Int) + 1 ≤ 9223372036854775807; omega)
  · rename_i u0 hl y hy h1 z hz r hr u3 w hw h2 z2 hz2 r2 hr2 u5 s hs v hv h4 hp
    obtain ⟨i, yo, yb, yq, yl, yn, yc⟩ := y
    have hl : ¬ (120 : Int) < (n : Int) := of_decide_eq_false hl
    have hy : i ≤ (l.take n).length ∧ Gth (((l.take n).take i).map (updP (ibit .and .i64 bk 7) m)) (yo, yb, yq, yl, yn, yc) ∧ ∀ j, j < i → fstP (ibit .and .i64 bk 7) ((l.take n).getD j pg0) = true → ¬ (m.kind = 1 ∧ m.key = (ibit .and .i64 bk 7)) := hy
    have hR := hy.2.1.room
    have h1 : ¬ (i : Int) < (n : Int) := of_decide_eq_false h1
    have ei : i = (l.take n).length := by have := hy.1; rw [hL] at this ⊢; omega
    have hX : Gth ((l.take n).map (updP (ibit .and .i64 bk 7) m)) (yo, yb, yq, yl, yn, yc) := by
      have := hy.2.1
      rw [ei, List.take_of_length_le (Nat.le_refl _)] at this
      exact this
    have hXl : (((l.take n).map (updP (ibit .and .i64 bk 7) m))).length = n := by rw [List.length_map, hL]
    have hyn : yn = n := hX.n.trans hXl
    have hno : ¬ HdAt ((l.take n).map (updP (ibit .and .i64 bk 7) m)) (ibit .and .i64 bk 7) := heads_no fun j hj => hy.2.2 j (by omega)
    have hz : Gth ((l.take n).map (updP (ibit .and .i64 bk 7) m)) z := by
      have hz : Gth (yl.take yn) z := hz
      have e : yl.take yn = ((l.take n).map (updP (ibit .and .i64 bk 7) m)) := hX.1
      rw [e] at hz
      exact hz
    have ez : (Sq.li z : List Pg) = ((l.take n).map (updP (ibit .and .i64 bk 7) m)) := hz.1
    have hO : OfS ⟨8, 8, 16⟩ [] ((l.take n).map (updP (ibit .and .i64 bk 7) m)) r := by rw [← ez]; exact hr
    have hok : Okl 8 8 ((l.take n).map (updP (ibit .and .i64 bk 7) m)) := okl_iff.1 hO.1
    have D : Drops (ibit .and .i64 bk 7).toNat ((l.take n).map (updP (ibit .and .i64 bk 7) m)) (((l.take n).map (updP (ibit .and .i64 bk 7) m)).filter fun p => decide (p.pl.1 ≠ (ibit .and .i64 bk 7))) := by
      have := drops_of hB8 hok (by rw [hBB]; exact hno)
      rw [hBB] at this
      exact this
    have hS : Gth (sloS ⟨8, 8, 16⟩ 8 (gridL 8 ((l.take n).map (updP (ibit .and .i64 bk 7) m)))) r.1 := hO.2.1
    have hSl : ((sloS ⟨8, 8, 16⟩ 8 (gridL 8 ((l.take n).map (updP (ibit .and .i64 bk 7) m))))).length ≤ 536871100 := Nat.le_trans sloL_len (keyL_len ⟨by decide, by decide, by decide⟩)
    have hSn := hS.n
    obtain ⟨j, wo, wb, wq, wl, wn, wc⟩ := w
    have hw : j ≤ (((l.take n).map (updP (ibit .and .i64 bk 7) m))).length ∧ Gth ((((l.take n).map (updP (ibit .and .i64 bk 7) m)).take j).filter fun p => decide (p.pl.1 ≠ (ibit .and .i64 bk 7))) (wo, wb, wq, wl, wn, wc) := hw
    have hW := hw.2.room
    have h2 : ¬ (j : Int) < (yn : Int) := of_decide_eq_false h2
    have hY : Gth (((l.take n).map (updP (ibit .and .i64 bk 7) m)).filter fun p => decide (p.pl.1 ≠ (ibit .and .i64 bk 7))) (wo, wb, wq, wl, wn, wc) := by
      have := hw.2
      have ej : j = (((l.take n).map (updP (ibit .and .i64 bk 7) m))).length := by have := hw.1; omega
      rw [ej, List.take_of_length_le (Nat.le_refl _)] at this
      exact this
    have hYl : ((((l.take n).map (updP (ibit .and .i64 bk 7) m)).filter fun p => decide (p.pl.1 ≠ (ibit .and .i64 bk 7)))).length ≤ (((l.take n).map (updP (ibit .and .i64 bk 7) m))).length := List.length_filter_le _ _
    have hwY : wn = ((((l.take n).map (updP (ibit .and .i64 bk 7) m)).filter fun p => decide (p.pl.1 ≠ (ibit .and .i64 bk 7)))).length := hY.n
    have hz2 : Gth (((l.take n).map (updP (ibit .and .i64 bk 7) m)).filter fun p => decide (p.pl.1 ≠ (ibit .and .i64 bk 7))) z2 := by
      have hz2 : Gth (wl.take wn) z2 := hz2
      have e : wl.take wn = (((l.take n).map (updP (ibit .and .i64 bk 7) m)).filter fun p => decide (p.pl.1 ≠ (ibit .and .i64 bk 7))) := hY.1
      rw [e] at hz2
      exact hz2
    have ez2 : (Sq.li z2 : List Pg) = (((l.take n).map (updP (ibit .and .i64 bk 7) m)).filter fun p => decide (p.pl.1 ≠ (ibit .and .i64 bk 7))) := hz2.1
    have hO2 : OfS ⟨8, 8, 16⟩ [] (((l.take n).map (updP (ibit .and .i64 bk 7) m)).filter fun p => decide (p.pl.1 ≠ (ibit .and .i64 bk 7))) r2 := by rw [← ez2]; exact hr2
    have hs : Gth (sloS ⟨8, 8, 16⟩ 8 (gridL 8 ((l.take n).map (updP (ibit .and .i64 bk 7) m)))) s := by
      have hs : Gth (r.1.2.2.2.1.take r.1.2.2.2.2.1) s := hs
      rw [hS.tk] at hs
      exact hs
    have hsn := hs.n
    change Nat at v
    have hv : v ≤ ((sloS ⟨8, 8, 16⟩ 8 (gridL 8 ((l.take n).map (updP (ibit .and .i64 bk 7) m))))).length := hv
    have h4 : (v : Int) < ((s.2.2.2.2.1 : Nat) : Int) := of_decide_eq_true h4
    refine Stands.one (v + 1 : Nat) ⟨by show v + 1 ≤ ((sloS ⟨8, 8, 16⟩ 8 (gridL 8 ((l.take n).map (updP (ibit .and .i64 bk 7) m))))).length; omega, by show ((sloS ⟨8, 8, 16⟩ 8 (gridL 8 ((l.take n).map (updP (ibit .and .i64 bk 7) m))))).length - (v + 1) < ((sloS ⟨8, 8, 16⟩ 8 (gridL 8 ((l.take n).map (updP (ibit .and .i64 bk 7) m))))).length - v; omega, ?_⟩
    ((conv => (arg 1; reduce)); with_reducible repeat' (first | exact Tr.yes_h | refine Tr.and_h ?_ ?_ | refine Tr.imp_h fun _ => ?_ | refine Tr.all_h fun _ => ?_ | refine Tr.lf_h ?_))
    all_goals (first | first | (show Region.lexB _ _ = true; kernel_rfl) | (show planned _ _ = true; kernel_rfl) | exact rfl | exact True.intro | (first | exact key3 | exact zeroB | exact zeroR | exact zeroS | exact ⟨key3, zeroB⟩ | exact ⟨key3, zeroR⟩ | exact ⟨key3, zeroS⟩) | ((try dsimp only [imp, C0, cG, cInt, cPl, cSlot, cPg, gwCodec] at *); (try refine inR64 ?_ ?_) <;> (try simp only [List.length_set, List.length_append, List.length_take, List.length_drop]) <;> omega))
  · rename_i u0 hl y hy h1 z hz r hr u3 w hw h2 z2 hz2 r2 hr2 u5 s hs v hv h4 hc
    obtain ⟨i, yo, yb, yq, yl, yn, yc⟩ := y
    have hl : ¬ (120 : Int) < (n : Int) := of_decide_eq_false hl
    have hy : i ≤ (l.take n).length ∧ Gth (((l.take n).take i).map (updP (ibit .and .i64 bk 7) m)) (yo, yb, yq, yl, yn, yc) ∧ ∀ j, j < i → fstP (ibit .and .i64 bk 7) ((l.take n).getD j pg0) = true → ¬ (m.kind = 1 ∧ m.key = (ibit .and .i64 bk 7)) := hy
    have hR := hy.2.1.room
    have h1 : ¬ (i : Int) < (n : Int) := of_decide_eq_false h1
    have ei : i = (l.take n).length := by have := hy.1; rw [hL] at this ⊢; omega
    have hX : Gth ((l.take n).map (updP (ibit .and .i64 bk 7) m)) (yo, yb, yq, yl, yn, yc) := by
      have := hy.2.1
      rw [ei, List.take_of_length_le (Nat.le_refl _)] at this
      exact this
    have hXl : (((l.take n).map (updP (ibit .and .i64 bk 7) m))).length = n := by rw [List.length_map, hL]
    have hyn : yn = n := hX.n.trans hXl
    have hno : ¬ HdAt ((l.take n).map (updP (ibit .and .i64 bk 7) m)) (ibit .and .i64 bk 7) := heads_no fun j hj => hy.2.2 j (by omega)
    have hz : Gth ((l.take n).map (updP (ibit .and .i64 bk 7) m)) z := by
      have hz : Gth (yl.take yn) z := hz
      have e : yl.take yn = ((l.take n).map (updP (ibit .and .i64 bk 7) m)) := hX.1
      rw [e] at hz
      exact hz
    have ez : (Sq.li z : List Pg) = ((l.take n).map (updP (ibit .and .i64 bk 7) m)) := hz.1
    have hO : OfS ⟨8, 8, 16⟩ [] ((l.take n).map (updP (ibit .and .i64 bk 7) m)) r := by rw [← ez]; exact hr
    have hok : Okl 8 8 ((l.take n).map (updP (ibit .and .i64 bk 7) m)) := okl_iff.1 hO.1
    have D : Drops (ibit .and .i64 bk 7).toNat ((l.take n).map (updP (ibit .and .i64 bk 7) m)) (((l.take n).map (updP (ibit .and .i64 bk 7) m)).filter fun p => decide (p.pl.1 ≠ (ibit .and .i64 bk 7))) := by
      have := drops_of hB8 hok (by rw [hBB]; exact hno)
      rw [hBB] at this
      exact this
    have hS : Gth (sloS ⟨8, 8, 16⟩ 8 (gridL 8 ((l.take n).map (updP (ibit .and .i64 bk 7) m)))) r.1 := hO.2.1
    have hSl : ((sloS ⟨8, 8, 16⟩ 8 (gridL 8 ((l.take n).map (updP (ibit .and .i64 bk 7) m))))).length ≤ 536871100 := Nat.le_trans sloL_len (keyL_len ⟨by decide, by decide, by decide⟩)
    have hSn := hS.n
    obtain ⟨j, wo, wb, wq, wl, wn, wc⟩ := w
    have hw : j ≤ (((l.take n).map (updP (ibit .and .i64 bk 7) m))).length ∧ Gth ((((l.take n).map (updP (ibit .and .i64 bk 7) m)).take j).filter fun p => decide (p.pl.1 ≠ (ibit .and .i64 bk 7))) (wo, wb, wq, wl, wn, wc) := hw
    have hW := hw.2.room
    have h2 : ¬ (j : Int) < (yn : Int) := of_decide_eq_false h2
    have hY : Gth (((l.take n).map (updP (ibit .and .i64 bk 7) m)).filter fun p => decide (p.pl.1 ≠ (ibit .and .i64 bk 7))) (wo, wb, wq, wl, wn, wc) := by
      have := hw.2
      have ej : j = (((l.take n).map (updP (ibit .and .i64 bk 7) m))).length := by have := hw.1; omega
      rw [ej, List.take_of_length_le (Nat.le_refl _)] at this
      exact this
    have hYl : ((((l.take n).map (updP (ibit .and .i64 bk 7) m)).filter fun p => decide (p.pl.1 ≠ (ibit .and .i64 bk 7)))).length ≤ (((l.take n).map (updP (ibit .and .i64 bk 7) m))).length := List.length_filter_le _ _
    have hwY : wn = ((((l.take n).map (updP (ibit .and .i64 bk 7) m)).filter fun p => decide (p.pl.1 ≠ (ibit .and .i64 bk 7)))).length := hY.n
    have hz2 : Gth (((l.take n).map (updP (ibit .and .i64 bk 7) m)).filter fun p => decide (p.pl.1 ≠ (ibit .and .i64 bk 7))) z2 := by
      have hz2 : Gth (wl.take wn) z2 := hz2
      have e : wl.take wn = (((l.take n).map (updP (ibit .and .i64 bk 7) m)).filter fun p => decide (p.pl.1 ≠ (ibit .and .i64 bk 7))) := hY.1
      rw [e] at hz2
      exact hz2
    have ez2 : (Sq.li z2 : List Pg) = (((l.take n).map (updP (ibit .and .i64 bk 7) m)).filter fun p => decide (p.pl.1 ≠ (ibit .and .i64 bk 7))) := hz2.1
    have hO2 : OfS ⟨8, 8, 16⟩ [] (((l.take n).map (updP (ibit .and .i64 bk 7) m)).filter fun p => decide (p.pl.1 ≠ (ibit .and .i64 bk 7))) r2 := by rw [← ez2]; exact hr2
    have hs : Gth (sloS ⟨8, 8, 16⟩ 8 (gridL 8 ((l.take n).map (updP (ibit .and .i64 bk 7) m)))) s := by
      have hs : Gth (r.1.2.2.2.1.take r.1.2.2.2.2.1) s := hs
      rw [hS.tk] at hs
      exact hs
    have hsn := hs.n
    change Nat at v
    have hv : v ≤ ((sloS ⟨8, 8, 16⟩ 8 (gridL 8 ((l.take n).map (updP (ibit .and .i64 bk 7) m))))).length := hv
    have h4 : ¬ (v : Int) < ((s.2.2.2.2.1 : Nat) : Int) := of_decide_eq_false h4
    have hB1 : Gth (badL 8 (gridL 8 ((l.take n).map (updP (ibit .and .i64 bk 7) m)))) r.2.2.2.1 := hO.2.2.2.2.1
    have hB2 : Gth (badL 8 (gridL 8 ((l.take n).map (updP (ibit .and .i64 bk 7) m)))) r2.2.2.2.1 := by
      rw [badL_drop D.bad]
      exact hO2.2.2.2.2.1
    have hbl : (badL 8 (gridL 8 ((l.take n).map (updP (ibit .and .i64 bk 7) m)))).length ≤ 8 := badL_len
    exact ⟨hB1.le, hB2.le, Nat.lt_of_le_of_lt (Nat.le_trans (Nat.le_of_eq hB1.n) hbl) (by decide : 8 < 140737488355000), hB1.off, hB2.off⟩
  · rename_i u0 hl y hy h1 z hz r hr u3 w hw h2 z2 hz2 r2 hr2 u5 s hs v hv h4
    obtain ⟨i, yo, yb, yq, yl, yn, yc⟩ := y
    have hl : ¬ (120 : Int) < (n : Int) := of_decide_eq_false hl
    have hy : i ≤ (l.take n).length ∧ Gth (((l.take n).take i).map (updP (ibit .and .i64 bk 7) m)) (yo, yb, yq, yl, yn, yc) ∧ ∀ j, j < i → fstP (ibit .and .i64 bk 7) ((l.take n).getD j pg0) = true → ¬ (m.kind = 1 ∧ m.key = (ibit .and .i64 bk 7)) := hy
    have hR := hy.2.1.room
    have h1 : ¬ (i : Int) < (n : Int) := of_decide_eq_false h1
    have ei : i = (l.take n).length := by have := hy.1; rw [hL] at this ⊢; omega
    have hX : Gth ((l.take n).map (updP (ibit .and .i64 bk 7) m)) (yo, yb, yq, yl, yn, yc) := by
      have := hy.2.1
      rw [ei, List.take_of_length_le (Nat.le_refl _)] at this
      exact this
    have hXl : (((l.take n).map (updP (ibit .and .i64 bk 7) m))).length = n := by rw [List.length_map, hL]
    have hyn : yn = n := hX.n.trans hXl
    have hno : ¬ HdAt ((l.take n).map (updP (ibit .and .i64 bk 7) m)) (ibit .and .i64 bk 7) := heads_no fun j hj => hy.2.2 j (by omega)
    have hz : Gth ((l.take n).map (updP (ibit .and .i64 bk 7) m)) z := by
      have hz : Gth (yl.take yn) z := hz
      have e : yl.take yn = ((l.take n).map (updP (ibit .and .i64 bk 7) m)) := hX.1
      rw [e] at hz
      exact hz
    have ez : (Sq.li z : List Pg) = ((l.take n).map (updP (ibit .and .i64 bk 7) m)) := hz.1
    have hO : OfS ⟨8, 8, 16⟩ [] ((l.take n).map (updP (ibit .and .i64 bk 7) m)) r := by rw [← ez]; exact hr
    have hok : Okl 8 8 ((l.take n).map (updP (ibit .and .i64 bk 7) m)) := okl_iff.1 hO.1
    have D : Drops (ibit .and .i64 bk 7).toNat ((l.take n).map (updP (ibit .and .i64 bk 7) m)) (((l.take n).map (updP (ibit .and .i64 bk 7) m)).filter fun p => decide (p.pl.1 ≠ (ibit .and .i64 bk 7))) := by
      have := drops_of hB8 hok (by rw [hBB]; exact hno)
      rw [hBB] at this
      exact this
    have hS : Gth (sloS ⟨8, 8, 16⟩ 8 (gridL 8 ((l.take n).map (updP (ibit .and .i64 bk 7) m)))) r.1 := hO.2.1
    have hSl : ((sloS ⟨8, 8, 16⟩ 8 (gridL 8 ((l.take n).map (updP (ibit .and .i64 bk 7) m))))).length ≤ 536871100 := Nat.le_trans sloL_len (keyL_len ⟨by decide, by decide, by decide⟩)
    have hSn := hS.n
    obtain ⟨j, wo, wb, wq, wl, wn, wc⟩ := w
    have hw : j ≤ (((l.take n).map (updP (ibit .and .i64 bk 7) m))).length ∧ Gth ((((l.take n).map (updP (ibit .and .i64 bk 7) m)).take j).filter fun p => decide (p.pl.1 ≠ (ibit .and .i64 bk 7))) (wo, wb, wq, wl, wn, wc) := hw
    have hW := hw.2.room
    have h2 : ¬ (j : Int) < (yn : Int) := of_decide_eq_false h2
    have hY : Gth (((l.take n).map (updP (ibit .and .i64 bk 7) m)).filter fun p => decide (p.pl.1 ≠ (ibit .and .i64 bk 7))) (wo, wb, wq, wl, wn, wc) := by
      have := hw.2
      have ej : j = (((l.take n).map (updP (ibit .and .i64 bk 7) m))).length := by have := hw.1; omega
      rw [ej, List.take_of_length_le (Nat.le_refl _)] at this
      exact this
    have hYl : ((((l.take n).map (updP (ibit .and .i64 bk 7) m)).filter fun p => decide (p.pl.1 ≠ (ibit .and .i64 bk 7)))).length ≤ (((l.take n).map (updP (ibit .and .i64 bk 7) m))).length := List.length_filter_le _ _
    have hwY : wn = ((((l.take n).map (updP (ibit .and .i64 bk 7) m)).filter fun p => decide (p.pl.1 ≠ (ibit .and .i64 bk 7)))).length := hY.n
    have hz2 : Gth (((l.take n).map (updP (ibit .and .i64 bk 7) m)).filter fun p => decide (p.pl.1 ≠ (ibit .and .i64 bk 7))) z2 := by
      have hz2 : Gth (wl.take wn) z2 := hz2
      have e : wl.take wn = (((l.take n).map (updP (ibit .and .i64 bk 7) m)).filter fun p => decide (p.pl.1 ≠ (ibit .and .i64 bk 7))) := hY.1
      rw [e] at hz2
      exact hz2
    have ez2 : (Sq.li z2 : List Pg) = (((l.take n).map (updP (ibit .and .i64 bk 7) m)).filter fun p => decide (p.pl.1 ≠ (ibit .and .i64 bk 7))) := hz2.1
    have hO2 : OfS ⟨8, 8, 16⟩ [] (((l.take n).map (updP (ibit .and .i64 bk 7) m)).filter fun p => decide (p.pl.1 ≠ (ibit .and .i64 bk 7))) r2 := by rw [← ez2]; exact hr2
    have hs : Gth (sloS ⟨8, 8, 16⟩ 8 (gridL 8 ((l.take n).map (updP (ibit .and .i64 bk 7) m)))) s := by
      have hs : Gth (r.1.2.2.2.1.take r.1.2.2.2.2.1) s := hs
      rw [hS.tk] at hs
      exact hs
    have hsn := hs.n
    change Nat at v
    have hv : v ≤ ((sloS ⟨8, 8, 16⟩ 8 (gridL 8 ((l.take n).map (updP (ibit .and .i64 bk 7) m))))).length := hv
    have h4 : ¬ (v : Int) < ((s.2.2.2.2.1 : Nat) : Int) := of_decide_eq_false h4
    have hB1 : Gth (badL 8 (gridL 8 ((l.take n).map (updP (ibit .and .i64 bk 7) m)))) r.2.2.2.1 := hO.2.2.2.2.1
    have hB2 : Gth (badL 8 (gridL 8 ((l.take n).map (updP (ibit .and .i64 bk 7) m)))) r2.2.2.2.1 := by
      rw [badL_drop D.bad]
      exact hO2.2.2.2.2.1
    have hbl : (badL 8 (gridL 8 ((l.take n).map (updP (ibit .and .i64 bk 7) m)))).length ≤ 8 := badL_len
    have hS2 : Gth (sloS ⟨8, 8, 16⟩ 8 (gridL 8 ((l.take n).map (updP (ibit .and .i64 bk 7) m)))) r2.1 := by
      rw [sloS_drop D.cnt]
      exact hO2.2.1
    show (decide ((nmOf 8 (gridL 8 (Sq.li z))).f = (nmOf 8 (gridL 8 (Sq.li z2))).f) && decide (((r.1.2.2.2.2.1 : Nat) : Int) = ((r2.1.2.2.2.2.1 : Nat) : Int)) && ieq (r.2.2.2.1.2.2.2.1.take r.2.2.2.1.2.2.2.2.1) (r2.2.2.2.1.2.2.2.1.take r2.2.2.2.1.2.2.2.2.1)) = true
    rw [ez, ez2, floor_drop D.cnt, hS.n, hS2.n, hB1.tk, hB2.tk, ieq_yes rfl, decide_eq_true rfl, decide_eq_true rfl]; rfl
  · rename_i u0 hl y hy h1 z hz r hr u3 w hw h2 z2 hz2 r2 hr2 u5
    obtain ⟨i, yo, yb, yq, yl, yn, yc⟩ := y
    have hl : ¬ (120 : Int) < (n : Int) := of_decide_eq_false hl
    have hy : i ≤ (l.take n).length ∧ Gth (((l.take n).take i).map (updP (ibit .and .i64 bk 7) m)) (yo, yb, yq, yl, yn, yc) ∧ ∀ j, j < i → fstP (ibit .and .i64 bk 7) ((l.take n).getD j pg0) = true → ¬ (m.kind = 1 ∧ m.key = (ibit .and .i64 bk 7)) := hy
    have hR := hy.2.1.room
    have h1 : ¬ (i : Int) < (n : Int) := of_decide_eq_false h1
    have ei : i = (l.take n).length := by have := hy.1; rw [hL] at this ⊢; omega
    have hX : Gth ((l.take n).map (updP (ibit .and .i64 bk 7) m)) (yo, yb, yq, yl, yn, yc) := by
      have := hy.2.1
      rw [ei, List.take_of_length_le (Nat.le_refl _)] at this
      exact this
    have hXl : (((l.take n).map (updP (ibit .and .i64 bk 7) m))).length = n := by rw [List.length_map, hL]
    have hyn : yn = n := hX.n.trans hXl
    have hno : ¬ HdAt ((l.take n).map (updP (ibit .and .i64 bk 7) m)) (ibit .and .i64 bk 7) := heads_no fun j hj => hy.2.2 j (by omega)
    have hz : Gth ((l.take n).map (updP (ibit .and .i64 bk 7) m)) z := by
      have hz : Gth (yl.take yn) z := hz
      have e : yl.take yn = ((l.take n).map (updP (ibit .and .i64 bk 7) m)) := hX.1
      rw [e] at hz
      exact hz
    have ez : (Sq.li z : List Pg) = ((l.take n).map (updP (ibit .and .i64 bk 7) m)) := hz.1
    have hO : OfS ⟨8, 8, 16⟩ [] ((l.take n).map (updP (ibit .and .i64 bk 7) m)) r := by rw [← ez]; exact hr
    have hok : Okl 8 8 ((l.take n).map (updP (ibit .and .i64 bk 7) m)) := okl_iff.1 hO.1
    have D : Drops (ibit .and .i64 bk 7).toNat ((l.take n).map (updP (ibit .and .i64 bk 7) m)) (((l.take n).map (updP (ibit .and .i64 bk 7) m)).filter fun p => decide (p.pl.1 ≠ (ibit .and .i64 bk 7))) := by
      have := drops_of hB8 hok (by rw [hBB]; exact hno)
      rw [hBB] at this
      exact this
    have hS : Gth (sloS ⟨8, 8, 16⟩ 8 (gridL 8 ((l.take n).map (updP (ibit .and .i64 bk 7) m)))) r.1 := hO.2.1
    have hSl : ((sloS ⟨8, 8, 16⟩ 8 (gridL 8 ((l.take n).map (updP (ibit .and .i64 bk 7) m))))).length ≤ 536871100 := Nat.le_trans sloL_len (keyL_len ⟨by decide, by decide, by decide⟩)
    have hSn := hS.n
    obtain ⟨j, wo, wb, wq, wl, wn, wc⟩ := w
    have hw : j ≤ (((l.take n).map (updP (ibit .and .i64 bk 7) m))).length ∧ Gth ((((l.take n).map (updP (ibit .and .i64 bk 7) m)).take j).filter fun p => decide (p.pl.1 ≠ (ibit .and .i64 bk 7))) (wo, wb, wq, wl, wn, wc) := hw
    have hW := hw.2.room
    have h2 : ¬ (j : Int) < (yn : Int) := of_decide_eq_false h2
    have hY : Gth (((l.take n).map (updP (ibit .and .i64 bk 7) m)).filter fun p => decide (p.pl.1 ≠ (ibit .and .i64 bk 7))) (wo, wb, wq, wl, wn, wc) := by
      have := hw.2
      have ej : j = (((l.take n).map (updP (ibit .and .i64 bk 7) m))).length := by have := hw.1; omega
      rw [ej, List.take_of_length_le (Nat.le_refl _)] at this
      exact this
    have hYl : ((((l.take n).map (updP (ibit .and .i64 bk 7) m)).filter fun p => decide (p.pl.1 ≠ (ibit .and .i64 bk 7)))).length ≤ (((l.take n).map (updP (ibit .and .i64 bk 7) m))).length := List.length_filter_le _ _
    have hwY : wn = ((((l.take n).map (updP (ibit .and .i64 bk 7) m)).filter fun p => decide (p.pl.1 ≠ (ibit .and .i64 bk 7)))).length := hY.n
    have hz2 : Gth (((l.take n).map (updP (ibit .and .i64 bk 7) m)).filter fun p => decide (p.pl.1 ≠ (ibit .and .i64 bk 7))) z2 := by
      have hz2 : Gth (wl.take wn) z2 := hz2
      have e : wl.take wn = (((l.take n).map (updP (ibit .and .i64 bk 7) m)).filter fun p => decide (p.pl.1 ≠ (ibit .and .i64 bk 7))) := hY.1
      rw [e] at hz2
      exact hz2
    have ez2 : (Sq.li z2 : List Pg) = (((l.take n).map (updP (ibit .and .i64 bk 7) m)).filter fun p => decide (p.pl.1 ≠ (ibit .and .i64 bk 7))) := hz2.1
    exfalso
    obtain ⟨k, hk, hkb⟩ := hr2
    have hk : k < (Sq.li z2 : List Pg).length := hk
    have hkb : pgBad 8 8 [] (Sq.li z2) k = true := hkb
    rw [ez2] at hk hkb
    have := okl_iff.2 (hok.filter fun p => decide (p.pl.1 ≠ (ibit .and .i64 bk 7))) k hk
    rw [this] at hkb
    cases hkb
  · rename_i u0 hl y hy h1 z hz r hr u3 w hw h2 z2 hz2 r2 hr2 u5 s hs
    obtain ⟨i, yo, yb, yq, yl, yn, yc⟩ := y
    have hl : ¬ (120 : Int) < (n : Int) := of_decide_eq_false hl
    have hy : i ≤ (l.take n).length ∧ Gth (((l.take n).take i).map (updP (ibit .and .i64 bk 7) m)) (yo, yb, yq, yl, yn, yc) ∧ ∀ j, j < i → fstP (ibit .and .i64 bk 7) ((l.take n).getD j pg0) = true → ¬ (m.kind = 1 ∧ m.key = (ibit .and .i64 bk 7)) := hy
    have hR := hy.2.1.room
    have h1 : ¬ (i : Int) < (n : Int) := of_decide_eq_false h1
    have ei : i = (l.take n).length := by have := hy.1; rw [hL] at this ⊢; omega
    have hX : Gth ((l.take n).map (updP (ibit .and .i64 bk 7) m)) (yo, yb, yq, yl, yn, yc) := by
      have := hy.2.1
      rw [ei, List.take_of_length_le (Nat.le_refl _)] at this
      exact this
    have hXl : (((l.take n).map (updP (ibit .and .i64 bk 7) m))).length = n := by rw [List.length_map, hL]
    have hyn : yn = n := hX.n.trans hXl
    have hno : ¬ HdAt ((l.take n).map (updP (ibit .and .i64 bk 7) m)) (ibit .and .i64 bk 7) := heads_no fun j hj => hy.2.2 j (by omega)
    have hz : Gth ((l.take n).map (updP (ibit .and .i64 bk 7) m)) z := by
      have hz : Gth (yl.take yn) z := hz
      have e : yl.take yn = ((l.take n).map (updP (ibit .and .i64 bk 7) m)) := hX.1
      rw [e] at hz
      exact hz
    have ez : (Sq.li z : List Pg) = ((l.take n).map (updP (ibit .and .i64 bk 7) m)) := hz.1
    have hO : OfS ⟨8, 8, 16⟩ [] ((l.take n).map (updP (ibit .and .i64 bk 7) m)) r := by rw [← ez]; exact hr
    have hok : Okl 8 8 ((l.take n).map (updP (ibit .and .i64 bk 7) m)) := okl_iff.1 hO.1
    have D : Drops (ibit .and .i64 bk 7).toNat ((l.take n).map (updP (ibit .and .i64 bk 7) m)) (((l.take n).map (updP (ibit .and .i64 bk 7) m)).filter fun p => decide (p.pl.1 ≠ (ibit .and .i64 bk 7))) := by
      have := drops_of hB8 hok (by rw [hBB]; exact hno)
      rw [hBB] at this
      exact this
    have hS : Gth (sloS ⟨8, 8, 16⟩ 8 (gridL 8 ((l.take n).map (updP (ibit .and .i64 bk 7) m)))) r.1 := hO.2.1
    have hSl : ((sloS ⟨8, 8, 16⟩ 8 (gridL 8 ((l.take n).map (updP (ibit .and .i64 bk 7) m))))).length ≤ 536871100 := Nat.le_trans sloL_len (keyL_len ⟨by decide, by decide, by decide⟩)
    have hSn := hS.n
    obtain ⟨j, wo, wb, wq, wl, wn, wc⟩ := w
    have hw : j ≤ (((l.take n).map (updP (ibit .and .i64 bk 7) m))).length ∧ Gth ((((l.take n).map (updP (ibit .and .i64 bk 7) m)).take j).filter fun p => decide (p.pl.1 ≠ (ibit .and .i64 bk 7))) (wo, wb, wq, wl, wn, wc) := hw
    have hW := hw.2.room
    have h2 : ¬ (j : Int) < (yn : Int) := of_decide_eq_false h2
    have hY : Gth (((l.take n).map (updP (ibit .and .i64 bk 7) m)).filter fun p => decide (p.pl.1 ≠ (ibit .and .i64 bk 7))) (wo, wb, wq, wl, wn, wc) := by
      have := hw.2
      have ej : j = (((l.take n).map (updP (ibit .and .i64 bk 7) m))).length := by have := hw.1; omega
      rw [ej, List.take_of_length_le (Nat.le_refl _)] at this
      exact this
    have hYl : ((((l.take n).map (updP (ibit .and .i64 bk 7) m)).filter fun p => decide (p.pl.1 ≠ (ibit .and .i64 bk 7)))).length ≤ (((l.take n).map (updP (ibit .and .i64 bk 7) m))).length := List.length_filter_le _ _
    have hwY : wn = ((((l.take n).map (updP (ibit .and .i64 bk 7) m)).filter fun p => decide (p.pl.1 ≠ (ibit .and .i64 bk 7)))).length := hY.n
    have hz2 : Gth (((l.take n).map (updP (ibit .and .i64 bk 7) m)).filter fun p => decide (p.pl.1 ≠ (ibit .and .i64 bk 7))) z2 := by
      have hz2 : Gth (wl.take wn) z2 := hz2
      have e : wl.take wn = (((l.take n).map (updP (ibit .and .i64 bk 7) m)).filter fun p => decide (p.pl.1 ≠ (ibit .and .i64 bk 7))) := hY.1
      rw [e] at hz2
      exact hz2
    have ez2 : (Sq.li z2 : List Pg) = (((l.take n).map (updP (ibit .and .i64 bk 7) m)).filter fun p => decide (p.pl.1 ≠ (ibit .and .i64 bk 7))) := hz2.1
    exfalso
    obtain ⟨k, hk, hkb⟩ := hr2
    have hk : k < (Sq.li z2 : List Pg).length := hk
    have hkb : pgBad 8 8 [] (Sq.li z2) k = true := hkb
    rw [ez2] at hk hkb
    have := okl_iff.2 (hok.filter fun p => decide (p.pl.1 ≠ (ibit .and .i64 bk 7))) k hk
    rw [this] at hkb
    cases hkb
  · rename_i u0 hl y hy h1 z hz r hr u3 w hw h2 z2 hz2 r2 hr2 u5 s hs v hv h4
    obtain ⟨i, yo, yb, yq, yl, yn, yc⟩ := y
    have hl : ¬ (120 : Int) < (n : Int) := of_decide_eq_false hl
    have hy : i ≤ (l.take n).length ∧ Gth (((l.take n).take i).map (updP (ibit .and .i64 bk 7) m)) (yo, yb, yq, yl, yn, yc) ∧ ∀ j, j < i → fstP (ibit .and .i64 bk 7) ((l.take n).getD j pg0) = true → ¬ (m.kind = 1 ∧ m.key = (ibit .and .i64 bk 7)) := hy
    have hR := hy.2.1.room
    have h1 : ¬ (i : Int) < (n : Int) := of_decide_eq_false h1
    have ei : i = (l.take n).length := by have := hy.1; rw [hL] at this ⊢; omega
    have hX : Gth ((l.take n).map (updP (ibit .and .i64 bk 7) m)) (yo, yb, yq, yl, yn, yc) := by
      have := hy.2.1
      rw [ei, List.take_of_length_le (Nat.le_refl _)] at this
      exact this
    have hXl : (((l.take n).map (updP (ibit .and .i64 bk 7) m))).length = n := by rw [List.length_map, hL]
    have hyn : yn = n := hX.n.trans hXl
    have hno : ¬ HdAt ((l.take n).map (updP (ibit .and .i64 bk 7) m)) (ibit .and .i64 bk 7) := heads_no fun j hj => hy.2.2 j (by omega)
    have hz : Gth ((l.take n).map (updP (ibit .and .i64 bk 7) m)) z := by
      have hz : Gth (yl.take yn) z := hz
      have e : yl.take yn = ((l.take n).map (updP (ibit .and .i64 bk 7) m)) := hX.1
      rw [e] at hz
      exact hz
    have ez : (Sq.li z : List Pg) = ((l.take n).map (updP (ibit .and .i64 bk 7) m)) := hz.1
    have hO : OfS ⟨8, 8, 16⟩ [] ((l.take n).map (updP (ibit .and .i64 bk 7) m)) r := by rw [← ez]; exact hr
    have hok : Okl 8 8 ((l.take n).map (updP (ibit .and .i64 bk 7) m)) := okl_iff.1 hO.1
    have D : Drops (ibit .and .i64 bk 7).toNat ((l.take n).map (updP (ibit .and .i64 bk 7) m)) (((l.take n).map (updP (ibit .and .i64 bk 7) m)).filter fun p => decide (p.pl.1 ≠ (ibit .and .i64 bk 7))) := by
      have := drops_of hB8 hok (by rw [hBB]; exact hno)
      rw [hBB] at this
      exact this
    have hS : Gth (sloS ⟨8, 8, 16⟩ 8 (gridL 8 ((l.take n).map (updP (ibit .and .i64 bk 7) m)))) r.1 := hO.2.1
    have hSl : ((sloS ⟨8, 8, 16⟩ 8 (gridL 8 ((l.take n).map (updP (ibit .and .i64 bk 7) m))))).length ≤ 536871100 := Nat.le_trans sloL_len (keyL_len ⟨by decide, by decide, by decide⟩)
    have hSn := hS.n
    obtain ⟨j, wo, wb, wq, wl, wn, wc⟩ := w
    have hw : j ≤ (((l.take n).map (updP (ibit .and .i64 bk 7) m))).length ∧ Gth ((((l.take n).map (updP (ibit .and .i64 bk 7) m)).take j).filter fun p => decide (p.pl.1 ≠ (ibit .and .i64 bk 7))) (wo, wb, wq, wl, wn, wc) := hw
    have hW := hw.2.room
    have h2 : ¬ (j : Int) < (yn : Int) := of_decide_eq_false h2
    have hY : Gth (((l.take n).map (updP (ibit .and .i64 bk 7) m)).filter fun p => decide (p.pl.1 ≠ (ibit .and .i64 bk 7))) (wo, wb, wq, wl, wn, wc) := by
      have := hw.2
      have ej : j = (((l.take n).map (updP (ibit .and .i64 bk 7) m))).length := by have := hw.1; omega
      rw [ej, List.take_of_length_le (Nat.le_refl _)] at this
      exact this
    have hYl : ((((l.take n).map (updP (ibit .and .i64 bk 7) m)).filter fun p => decide (p.pl.1 ≠ (ibit .and .i64 bk 7)))).length ≤ (((l.take n).map (updP (ibit .and .i64 bk 7) m))).length := List.length_filter_le _ _
    have hwY : wn = ((((l.take n).map (updP (ibit .and .i64 bk 7) m)).filter fun p => decide (p.pl.1 ≠ (ibit .and .i64 bk 7)))).length := hY.n
    have hz2 : Gth (((l.take n).map (updP (ibit .and .i64 bk 7) m)).filter fun p => decide (p.pl.1 ≠ (ibit .and .i64 bk 7))) z2 := by
      have hz2 : Gth (wl.take wn) z2 := hz2
      have e : wl.take wn = (((l.take n).map (updP (ibit .and .i64 bk 7) m)).filter fun p => decide (p.pl.1 ≠ (ibit .and .i64 bk 7))) := hY.1
      rw [e] at hz2
      exact hz2
    have ez2 : (Sq.li z2 : List Pg) = (((l.take n).map (updP (ibit .and .i64 bk 7) m)).filter fun p => decide (p.pl.1 ≠ (ibit .and .i64 bk 7))) := hz2.1
    exfalso
    obtain ⟨k, hk, hkb⟩ := hr2
    have hk : k < (Sq.li z2 : List Pg).length := hk
    have hkb : pgBad 8 8 [] (Sq.li z2) k = true := hkb
    rw [ez2] at hk hkb
    have := okl_iff.2 (hok.filter fun p => decide (p.pl.1 ≠ (ibit .and .i64 bk 7))) k hk
    rw [this] at hkb
    cases hkb
  · rename_i u0 hl y hy h1 z hz r hr u3 w hw h2 z2 hz2 r2 hr2 u5 s hs v hv h4
    obtain ⟨i, yo, yb, yq, yl, yn, yc⟩ := y
    have hl : ¬ (120 : Int) < (n : Int) := of_decide_eq_false hl
    have hy : i ≤ (l.take n).length ∧ Gth (((l.take n).take i).map (updP (ibit .and .i64 bk 7) m)) (yo, yb, yq, yl, yn, yc) ∧ ∀ j, j < i → fstP (ibit .and .i64 bk 7) ((l.take n).getD j pg0) = true → ¬ (m.kind = 1 ∧ m.key = (ibit .and .i64 bk 7)) := hy
    have hR := hy.2.1.room
    have h1 : ¬ (i : Int) < (n : Int) := of_decide_eq_false h1
    have ei : i = (l.take n).length := by have := hy.1; rw [hL] at this ⊢; omega
    have hX : Gth ((l.take n).map (updP (ibit .and .i64 bk 7) m)) (yo, yb, yq, yl, yn, yc) := by
      have := hy.2.1
      rw [ei, List.take_of_length_le (Nat.le_refl _)] at this
      exact this
    have hXl : (((l.take n).map (updP (ibit .and .i64 bk 7) m))).length = n := by rw [List.length_map, hL]
    have hyn : yn = n := hX.n.trans hXl
    have hno : ¬ HdAt ((l.take n).map (updP (ibit .and .i64 bk 7) m)) (ibit .and .i64 bk 7) := heads_no fun j hj => hy.2.2 j (by omega)
    have hz : Gth ((l.take n).map (updP (ibit .and .i64 bk 7) m)) z := by
      have hz : Gth (yl.take yn) z := hz
      have e : yl.take yn = ((l.take n).map (updP (ibit .and .i64 bk 7) m)) := hX.1
      rw [e] at hz
      exact hz
    have ez : (Sq.li z : List Pg) = ((l.take n).map (updP (ibit .and .i64 bk 7) m)) := hz.1
    have hO : OfS ⟨8, 8, 16⟩ [] ((l.take n).map (updP (ibit .and .i64 bk 7) m)) r := by rw [← ez]; exact hr
    have hok : Okl 8 8 ((l.take n).map (updP (ibit .and .i64 bk 7) m)) := okl_iff.1 hO.1
    have D : Drops (ibit .and .i64 bk 7).toNat ((l.take n).map (updP (ibit .and .i64 bk 7) m)) (((l.take n).map (updP (ibit .and .i64 bk 7) m)).filter fun p => decide (p.pl.1 ≠ (ibit .and .i64 bk 7))) := by
      have := drops_of hB8 hok (by rw [hBB]; exact hno)
      rw [hBB] at this
      exact this
    have hS : Gth (sloS ⟨8, 8, 16⟩ 8 (gridL 8 ((l.take n).map (updP (ibit .and .i64 bk 7) m)))) r.1 := hO.2.1
    have hSl : ((sloS ⟨8, 8, 16⟩ 8 (gridL 8 ((l.take n).map (updP (ibit .and .i64 bk 7) m))))).length ≤ 536871100 := Nat.le_trans sloL_len (keyL_len ⟨by decide, by decide, by decide⟩)
    have hSn := hS.n
    obtain ⟨j, wo, wb, wq, wl, wn, wc⟩ := w
    have hw : j ≤ (((l.take n).map (updP (ibit .and .i64 bk 7) m))).length ∧ Gth ((((l.take n).map (updP (ibit .and .i64 bk 7) m)).take j).filter fun p => decide (p.pl.1 ≠ (ibit .and .i64 bk 7))) (wo, wb, wq, wl, wn, wc) := hw
    have hW := hw.2.room
    have h2 : ¬ (j : Int) < (yn : Int) := of_decide_eq_false h2
    have hY : Gth (((l.take n).map (updP (ibit .and .i64 bk 7) m)).filter fun p => decide (p.pl.1 ≠ (ibit .and .i64 bk 7))) (wo, wb, wq, wl, wn, wc) := by
      have := hw.2
      have ej : j = (((l.take n).map (updP (ibit .and .i64 bk 7) m))).length := by have := hw.1; omega
      rw [ej, List.take_of_length_le (Nat.le_refl _)] at this
      exact this
    have hYl : ((((l.take n).map (updP (ibit .and .i64 bk 7) m)).filter fun p => decide (p.pl.1 ≠ (ibit .and .i64 bk 7)))).length ≤ (((l.take n).map (updP (ibit .and .i64 bk 7) m))).length := List.length_filter_le _ _
    have hwY : wn = ((((l.take n).map (updP (ibit .and .i64 bk 7) m)).filter fun p => decide (p.pl.1 ≠ (ibit .and .i64 bk 7)))).length := hY.n
    have hz2 : Gth (((l.take n).map (updP (ibit .and .i64 bk 7) m)).filter fun p => decide (p.pl.1 ≠ (ibit .and .i64 bk 7))) z2 := by
      have hz2 : Gth (wl.take wn) z2 := hz2
      have e : wl.take wn = (((l.take n).map (updP (ibit .and .i64 bk 7) m)).filter fun p => decide (p.pl.1 ≠ (ibit .and .i64 bk 7))) := hY.1
      rw [e] at hz2
      exact hz2
    have ez2 : (Sq.li z2 : List Pg) = (((l.take n).map (updP (ibit .and .i64 bk 7) m)).filter fun p => decide (p.pl.1 ≠ (ibit .and .i64 bk 7))) := hz2.1
    exfalso
    obtain ⟨k, hk, hkb⟩ := hr2
    have hk : k < (Sq.li z2 : List Pg).length := hk
    have hkb : pgBad 8 8 [] (Sq.li z2) k = true := hkb
    rw [ez2] at hk hkb
    have := okl_iff.2 (hok.filter fun p => decide (p.pl.1 ≠ (ibit .and .i64 bk 7))) k hk
    rw [this] at hkb
    cases hkb
  · rename_i u0 hl y hy h1 z hz r hr u3 w hw h2 z2 hz2 r2 hr2 u5 s hs v hv h4
    obtain ⟨i, yo, yb, yq, yl, yn, yc⟩ := y
    have hl : ¬ (120 : Int) < (n : Int) := of_decide_eq_false hl
    have hy : i ≤ (l.take n).length ∧ Gth (((l.take n).take i).map (updP (ibit .and .i64 bk 7) m)) (yo, yb, yq, yl, yn, yc) ∧ ∀ j, j < i → fstP (ibit .and .i64 bk 7) ((l.take n).getD j pg0) = true → ¬ (m.kind = 1 ∧ m.key = (ibit .and .i64 bk 7)) := hy
    have hR := hy.2.1.room
    have h1 : ¬ (i : Int) < (n : Int) := of_decide_eq_false h1
    have ei : i = (l.take n).length := by have := hy.1; rw [hL] at this ⊢; omega
    have hX : Gth ((l.take n).map (updP (ibit .and .i64 bk 7) m)) (yo, yb, yq, yl, yn, yc) := by
      have := hy.2.1
      rw [ei, List.take_of_length_le (Nat.le_refl _)] at this
      exact this
    have hXl : (((l.take n).map (updP (ibit .and .i64 bk 7) m))).length = n := by rw [List.length_map, hL]
    have hyn : yn = n := hX.n.trans hXl
    have hno : ¬ HdAt ((l.take n).map (updP (ibit .and .i64 bk 7) m)) (ibit .and .i64 bk 7) := heads_no fun j hj => hy.2.2 j (by omega)
    have hz : Gth ((l.take n).map (updP (ibit .and .i64 bk 7) m)) z := by
      have hz : Gth (yl.take yn) z := hz
      have e : yl.take yn = ((l.take n).map (updP (ibit .and .i64 bk 7) m)) := hX.1
      rw [e] at hz
      exact hz
    have ez : (Sq.li z : List Pg) = ((l.take n).map (updP (ibit .and .i64 bk 7) m)) := hz.1
    have hO : OfS ⟨8, 8, 16⟩ [] ((l.take n).map (updP (ibit .and .i64 bk 7) m)) r := by rw [← ez]; exact hr
    have hok : Okl 8 8 ((l.take n).map (updP (ibit .and .i64 bk 7) m)) := okl_iff.1 hO.1
    have D : Drops (ibit .and .i64 bk 7).toNat ((l.take n).map (updP (ibit .and .i64 bk 7) m)) (((l.take n).map (updP (ibit .and .i64 bk 7) m)).filter fun p => decide (p.pl.1 ≠ (ibit .and .i64 bk 7))) := by
      have := drops_of hB8 hok (by rw [hBB]; exact hno)
      rw [hBB] at this
      exact this
    have hS : Gth (sloS ⟨8, 8, 16⟩ 8 (gridL 8 ((l.take n).map (updP (ibit .and .i64 bk 7) m)))) r.1 := hO.2.1
    have hSl : ((sloS ⟨8, 8, 16⟩ 8 (gridL 8 ((l.take n).map (updP (ibit .and .i64 bk 7) m))))).length ≤ 536871100 := Nat.le_trans sloL_len (keyL_len ⟨by decide, by decide, by decide⟩)
    have hSn := hS.n
    obtain ⟨j, wo, wb, wq, wl, wn, wc⟩ := w
    have hw : j ≤ (((l.take n).map (updP (ibit .and .i64 bk 7) m))).length ∧ Gth ((((l.take n).map (updP (ibit .and .i64 bk 7) m)).take j).filter fun p => decide (p.pl.1 ≠ (ibit .and .i64 bk 7))) (wo, wb, wq, wl, wn, wc) := hw
    have hW := hw.2.room
    have h2 : ¬ (j : Int) < (yn : Int) := of_decide_eq_false h2
    have hY : Gth (((l.take n).map (updP (ibit .and .i64 bk 7) m)).filter fun p => decide (p.pl.1 ≠ (ibit .and .i64 bk 7))) (wo, wb, wq, wl, wn, wc) := by
      have := hw.2
      have ej : j = (((l.take n).map (updP (ibit .and .i64 bk 7) m))).length := by have := hw.1; omega
      rw [ej, List.take_of_length_le (Nat.le_refl _)] at this
      exact this
    have hYl : ((((l.take n).map (updP (ibit .and .i64 bk 7) m)).filter fun p => decide (p.pl.1 ≠ (ibit .and .i64 bk 7)))).length ≤ (((l.take n).map (updP (ibit .and .i64 bk 7) m))).length := List.length_filter_le _ _
    have hwY : wn = ((((l.take n).map (updP (ibit .and .i64 bk 7) m)).filter fun p => decide (p.pl.1 ≠ (ibit .and .i64 bk 7)))).length := hY.n
    have hz2 : Gth (((l.take n).map (updP (ibit .and .i64 bk 7) m)).filter fun p => decide (p.pl.1 ≠ (ibit .and .i64 bk 7))) z2 := by
      have hz2 : Gth (wl.take wn) z2 := hz2
      have e : wl.take wn = (((l.take n).map (updP (ibit .and .i64 bk 7) m)).filter fun p => decide (p.pl.1 ≠ (ibit .and .i64 bk 7))) := hY.1
      rw [e] at hz2
      exact hz2
    have ez2 : (Sq.li z2 : List Pg) = (((l.take n).map (updP (ibit .and .i64 bk 7) m)).filter fun p => decide (p.pl.1 ≠ (ibit .and .i64 bk 7))) := hz2.1
    exfalso
    obtain ⟨k, hk, hkb⟩ := hr2
    have hk : k < (Sq.li z2 : List Pg).length := hk
    have hkb : pgBad 8 8 [] (Sq.li z2) k = true := hkb
    rw [ez2] at hk hkb
    have := okl_iff.2 (hok.filter fun p => decide (p.pl.1 ≠ (ibit .and .i64 bk 7))) k hk
    rw [this] at hkb
    cases hkb
  · rename_i u0 hl y hy h1 z hz r hr u3 w hw h2 z2 hz2 r2 hr2 u5 s hs v hv h4
    obtain ⟨i, yo, yb, yq, yl, yn, yc⟩ := y
    have hl : ¬ (120 : Int) < (n : Int) := of_decide_eq_false hl
    have hy : i ≤ (l.take n).length ∧ Gth (((l.take n).take i).map (updP (ibit .and .i64 bk 7) m)) (yo, yb, yq, yl, yn, yc) ∧ ∀ j, j < i → fstP (ibit .and .i64 bk 7) ((l.take n).getD j pg0) = true → ¬ (m.kind = 1 ∧ m.key = (ibit .and .i64 bk 7)) := hy
    have hR := hy.2.1.room
    have h1 : ¬ (i : Int) < (n : Int) := of_decide_eq_false h1
    have ei : i = (l.take n).length := by have := hy.1; rw [hL] at this ⊢; omega
    have hX : Gth ((l.take n).map (updP (ibit .and .i64 bk 7) m)) (yo, yb, yq, yl, yn, yc) := by
      have := hy.2.1
      rw [ei, List.take_of_length_le (Nat.le_refl _)] at this
      exact this
    have hXl : (((l.take n).map (updP (ibit .and .i64 bk 7) m))).length = n := by rw [List.length_map, hL]
    have hyn : yn = n := hX.n.trans hXl
    have hno : ¬ HdAt ((l.take n).map (updP (ibit .and .i64 bk 7) m)) (ibit .and .i64 bk 7) := heads_no fun j hj => hy.2.2 j (by omega)
    have hz : Gth ((l.take n).map (updP (ibit .and .i64 bk 7) m)) z := by
      have hz : Gth (yl.take yn) z := hz
      have e : yl.take yn = ((l.take n).map (updP (ibit .and .i64 bk 7) m)) := hX.1
      rw [e] at hz
      exact hz
    have ez : (Sq.li z : List Pg) = ((l.take n).map (updP (ibit .and .i64 bk 7) m)) := hz.1
    have hO : OfS ⟨8, 8, 16⟩ [] ((l.take n).map (updP (ibit .and .i64 bk 7) m)) r := by rw [← ez]; exact hr
    have hok : Okl 8 8 ((l.take n).map (updP (ibit .and .i64 bk 7) m)) := okl_iff.1 hO.1
    have D : Drops (ibit .and .i64 bk 7).toNat ((l.take n).map (updP (ibit .and .i64 bk 7) m)) (((l.take n).map (updP (ibit .and .i64 bk 7) m)).filter fun p => decide (p.pl.1 ≠ (ibit .and .i64 bk 7))) := by
      have := drops_of hB8 hok (by rw [hBB]; exact hno)
      rw [hBB] at this
      exact this
    have hS : Gth (sloS ⟨8, 8, 16⟩ 8 (gridL 8 ((l.take n).map (updP (ibit .and .i64 bk 7) m)))) r.1 := hO.2.1
    have hSl : ((sloS ⟨8, 8, 16⟩ 8 (gridL 8 ((l.take n).map (updP (ibit .and .i64 bk 7) m))))).length ≤ 536871100 := Nat.le_trans sloL_len (keyL_len ⟨by decide, by decide, by decide⟩)
    have hSn := hS.n
    obtain ⟨j, wo, wb, wq, wl, wn, wc⟩ := w
    have hw : j ≤ (((l.take n).map (updP (ibit .and .i64 bk 7) m))).length ∧ Gth ((((l.take n).map (updP (ibit .and .i64 bk 7) m)).take j).filter fun p => decide (p.pl.1 ≠ (ibit .and .i64 bk 7))) (wo, wb, wq, wl, wn, wc) := hw
    have hW := hw.2.room
    have h2 : ¬ (j : Int) < (yn : Int) := of_decide_eq_false h2
    have hY : Gth (((l.take n).map (updP (ibit .and .i64 bk 7) m)).filter fun p => decide (p.pl.1 ≠ (ibit .and .i64 bk 7))) (wo, wb, wq, wl, wn, wc) := by
      have := hw.2
      have ej : j = (((l.take n).map (updP (ibit .and .i64 bk 7) m))).length := by have := hw.1; omega
      rw [ej, List.take_of_length_le (Nat.le_refl _)] at this
      exact this
    have hYl : ((((l.take n).map (updP (ibit .and .i64 bk 7) m)).filter fun p => decide (p.pl.1 ≠ (ibit .and .i64 bk 7)))).length ≤ (((l.take n).map (updP (ibit .and .i64 bk 7) m))).length := List.length_filter_le _ _
    have hwY : wn = ((((l.take n).map (updP (ibit .and .i64 bk 7) m)).filter fun p => decide (p.pl.1 ≠ (ibit .and .i64 bk 7)))).length := hY.n
    have hz2 : Gth (((l.take n).map (updP (ibit .and .i64 bk 7) m)).filter fun p => decide (p.pl.1 ≠ (ibit .and .i64 bk 7))) z2 := by
      have hz2 : Gth (wl.take wn) z2 := hz2
      have e : wl.take wn = (((l.take n).map (updP (ibit .and .i64 bk 7) m)).filter fun p => decide (p.pl.1 ≠ (ibit .and .i64 bk 7))) := hY.1
      rw [e] at hz2
      exact hz2
    have ez2 : (Sq.li z2 : List Pg) = (((l.take n).map (updP (ibit .and .i64 bk 7) m)).filter fun p => decide (p.pl.1 ≠ (ibit .and .i64 bk 7))) := hz2.1
    exfalso
    obtain ⟨k, hk, hkb⟩ := hr2
    have hk : k < (Sq.li z2 : List Pg).length := hk
    have hkb : pgBad 8 8 [] (Sq.li z2) k = true := hkb
    rw [ez2] at hk hkb
    have := okl_iff.2 (hok.filter fun p => decide (p.pl.1 ≠ (ibit .and .i64 bk 7))) k hk
    rw [this] at hkb
    cases hkb
  · rename_i u0 hl y hy h1 z hz r hr u3 w hw h2 z2 hz2 r2 hr2 u5 s hs v hv h4 hp
    obtain ⟨i, yo, yb, yq, yl, yn, yc⟩ := y
    have hl : ¬ (120 : Int) < (n : Int) := of_decide_eq_false hl
    have hy : i ≤ (l.take n).length ∧ Gth (((l.take n).take i).map (updP (ibit .and .i64 bk 7) m)) (yo, yb, yq, yl, yn, yc) ∧ ∀ j, j < i → fstP (ibit .and .i64 bk 7) ((l.take n).getD j pg0) = true → ¬ (m.kind = 1 ∧ m.key = (ibit .and .i64 bk 7)) := hy
    have hR := hy.2.1.room
    have h1 : ¬ (i : Int) < (n : Int) := of_decide_eq_false h1
    have ei : i = (l.take n).length := by have := hy.1; rw [hL] at this ⊢; omega
    have hX : Gth ((l.take n).map (updP (ibit .and .i64 bk 7) m)) (yo, yb, yq, yl, yn, yc) := by
      have := hy.2.1
      rw [ei, List.take_of_length_le (Nat.le_refl _)] at this
      exact this
    have hXl : (((l.take n).map (updP (ibit .and .i64 bk 7) m))).length = n := by rw [List.length_map, hL]
    have hyn : yn = n := hX.n.trans hXl
    have hno : ¬ HdAt ((l.take n).map (updP (ibit .and .i64 bk 7) m)) (ibit .and .i64 bk 7) := heads_no fun j hj => hy.2.2 j (by omega)
    have hz : Gth ((l.take n).map (updP (ibit .and .i64 bk 7) m)) z := by
      have hz : Gth (yl.take yn) z := hz
      have e : yl.take yn = ((l.take n).map (updP (ibit .and .i64 bk 7) m)) := hX.1
      rw [e] at hz
      exact hz
    have ez : (Sq.li z : List Pg) = ((l.take n).map (updP (ibit .and .i64 bk 7) m)) := hz.1
    have hO : OfS ⟨8, 8, 16⟩ [] ((l.take n).map (updP (ibit .and .i64 bk 7) m)) r := by rw [← ez]; exact hr
    have hok : Okl 8 8 ((l.take n).map (updP (ibit .and .i64 bk 7) m)) := okl_iff.1 hO.1
    have D : Drops (ibit .and .i64 bk 7).toNat ((l.take n).map (updP (ibit .and .i64 bk 7) m)) (((l.take n).map (updP (ibit .and .i64 bk 7) m)).filter fun p => decide (p.pl.1 ≠ (ibit .and .i64 bk 7))) := by
      have := drops_of hB8 hok (by rw [hBB]; exact hno)
      rw [hBB] at this
      exact this
    have hS : Gth (sloS ⟨8, 8, 16⟩ 8 (gridL 8 ((l.take n).map (updP (ibit .and .i64 bk 7) m)))) r.1 := hO.2.1
    have hSl : ((sloS ⟨8, 8, 16⟩ 8 (gridL 8 ((l.take n).map (updP (ibit .and .i64 bk 7) m))))).length ≤ 536871100 := Nat.le_trans sloL_len (keyL_len ⟨by decide, by decide, by decide⟩)
    have hSn := hS.n
    obtain ⟨j, wo, wb, wq, wl, wn, wc⟩ := w
    have hw : j ≤ (((l.take n).map (updP (ibit .and .i64 bk 7) m))).length ∧ Gth ((((l.take n).map (updP (ibit .and .i64 bk 7) m)).take j).filter fun p => decide (p.pl.1 ≠ (ibit .and .i64 bk 7))) (wo, wb, wq, wl, wn, wc) := hw
    have hW := hw.2.room
    have h2 : ¬ (j : Int) < (yn : Int) := of_decide_eq_false h2
    have hY : Gth (((l.take n).map (updP (ibit .and .i64 bk 7) m)).filter fun p => decide (p.pl.1 ≠ (ibit .and .i64 bk 7))) (wo, wb, wq, wl, wn, wc) := by
      have := hw.2
      have ej : j = (((l.take n).map (updP (ibit .and .i64 bk 7) m))).length := by have := hw.1; omega
      rw [ej, List.take_of_length_le (Nat.le_refl _)] at this
      exact this
    have hYl : ((((l.take n).map (updP (ibit .and .i64 bk 7) m)).filter fun p => decide (p.pl.1 ≠ (ibit .and .i64 bk 7)))).length ≤ (((l.take n).map (updP (ibit .and .i64 bk 7) m))).length := List.length_filter_le _ _
    have hwY : wn = ((((l.take n).map (updP (ibit .and .i64 bk 7) m)).filter fun p => decide (p.pl.1 ≠ (ibit .and .i64 bk 7)))).length := hY.n
    have hz2 : Gth (((l.take n).map (updP (ibit .and .i64 bk 7) m)).filter fun p => decide (p.pl.1 ≠ (ibit .and .i64 bk 7))) z2 := by
      have hz2 : Gth (wl.take wn) z2 := hz2
      have e : wl.take wn = (((l.take n).map (updP (ibit .and .i64 bk 7) m)).filter fun p => decide (p.pl.1 ≠ (ibit .and .i64 bk 7))) := hY.1
      rw [e] at hz2
      exact hz2
    have ez2 : (Sq.li z2 : List Pg) = (((l.take n).map (updP (ibit .and .i64 bk 7) m)).filter fun p => decide (p.pl.1 ≠ (ibit .and .i64 bk 7))) := hz2.1
    exfalso
    obtain ⟨k, hk, hkb⟩ := hr2
    have hk : k < (Sq.li z2 : List Pg).length := hk
    have hkb : pgBad 8 8 [] (Sq.li z2) k = true := hkb
    rw [ez2] at hk hkb
    have := okl_iff.2 (hok.filter fun p => decide (p.pl.1 ≠ (ibit .and .i64 bk 7))) k hk
    rw [this] at hkb
    cases hkb
  · rename_i u0 hl y hy h1 z hz r hr u3 w hw h2 z2 hz2 r2 hr2 u5 s hs v hv h4 hp
    obtain ⟨i, yo, yb, yq, yl, yn, yc⟩ := y
    have hl : ¬ (120 : Int) < (n : Int) := of_decide_eq_false hl
    have hy : i ≤ (l.take n).length ∧ Gth (((l.take n).take i).map (updP (ibit .and .i64 bk 7) m)) (yo, yb, yq, yl, yn, yc) ∧ ∀ j, j < i → fstP (ibit .and .i64 bk 7) ((l.take n).getD j pg0) = true → ¬ (m.kind = 1 ∧ m.key = (ibit .and .i64 bk 7)) := hy
    have hR := hy.2.1.room
    have h1 : ¬ (i : Int) < (n : Int) := of_decide_eq_false h1
    have ei : i = (l.take n).length := by have := hy.1; rw [hL] at this ⊢; omega
    have hX : Gth ((l.take n).map (updP (ibit .and .i64 bk 7) m)) (yo, yb, yq, yl, yn, yc) := by
      have := hy.2.1
      rw [ei, List.take_of_length_le (Nat.le_refl _)] at this
      exact this
    have hXl : (((l.take n).map (updP (ibit .and .i64 bk 7) m))).length = n := by rw [List.length_map, hL]
    have hyn : yn = n := hX.n.trans hXl
    have hno : ¬ HdAt ((l.take n).map (updP (ibit .and .i64 bk 7) m)) (ibit .and .i64 bk 7) := heads_no fun j hj => hy.2.2 j (by omega)
    have hz : Gth ((l.take n).map (updP (ibit .and .i64 bk 7) m)) z := by
      have hz : Gth (yl.take yn) z := hz
      have e : yl.take yn = ((l.take n).map (updP (ibit .and .i64 bk 7) m)) := hX.1
      rw [e] at hz
      exact hz
    have ez : (Sq.li z : List Pg) = ((l.take n).map (updP (ibit .and .i64 bk 7) m)) := hz.1
    have hO : OfS ⟨8, 8, 16⟩ [] ((l.take n).map (updP (ibit .and .i64 bk 7) m)) r := by rw [← ez]; exact hr
    have hok : Okl 8 8 ((l.take n).map (updP (ibit .and .i64 bk 7) m)) := okl_iff.1 hO.1
    have D : Drops (ibit .and .i64 bk 7).toNat ((l.take n).map (updP (ibit .and .i64 bk 7) m)) (((l.take n).map (updP (ibit .and .i64 bk 7) m)).filter fun p => decide (p.pl.1 ≠ (ibit .and .i64 bk 7))) := by
      have := drops_of hB8 hok (by rw [hBB]; exact hno)
      rw [hBB] at this
      exact this
    have hS : Gth (sloS ⟨8, 8, 16⟩ 8 (gridL 8 ((l.take n).map (updP (ibit .and .i64 bk 7) m)))) r.1 := hO.2.1
    have hSl : ((sloS ⟨8, 8, 16⟩ 8 (gridL 8 ((l.take n).map (updP (ibit .and .i64 bk 7) m))))).length ≤ 536871100 := Nat.le_trans sloL_len (keyL_len ⟨by decide, by decide, by decide⟩)
    have hSn := hS.n
    obtain ⟨j, wo, wb, wq, wl, wn, wc⟩ := w
    have hw : j ≤ (((l.take n).map (updP (ibit .and .i64 bk 7) m))).length ∧ Gth ((((l.take n).map (updP (ibit .and .i64 bk 7) m)).take j).filter fun p => decide (p.pl.1 ≠ (ibit .and .i64 bk 7))) (wo, wb, wq, wl, wn, wc) := hw
    have hW := hw.2.room
    have h2 : ¬ (j : Int) < (yn : Int) := of_decide_eq_false h2
    have hY : Gth (((l.take n).map (updP (ibit .and .i64 bk 7) m)).filter fun p => decide (p.pl.1 ≠ (ibit .and .i64 bk 7))) (wo, wb, wq, wl, wn, wc) := by
      have := hw.2
      have ej : j = (((l.take n).map (updP (ibit .and .i64 bk 7) m))).length := by have := hw.1; omega
      rw [ej, List.take_of_length_le (Nat.le_refl _)] at this
      exact this
    have hYl : ((((l.take n).map (updP (ibit .and .i64 bk 7) m)).filter fun p => decide (p.pl.1 ≠ (ibit .and .i64 bk 7)))).length ≤ (((l.take n).map (updP (ibit .and .i64 bk 7) m))).length := List.length_filter_le _ _
    have hwY : wn = ((((l.take n).map (updP (ibit .and .i64 bk 7) m)).filter fun p => decide (p.pl.1 ≠ (ibit .and .i64 bk 7)))).length := hY.n
    have hz2 : Gth (((l.take n).map (updP (ibit .and .i64 bk 7) m)).filter fun p => decide (p.pl.1 ≠ (ibit .and .i64 bk 7))) z2 := by
      have hz2 : Gth (wl.take wn) z2 := hz2
      have e : wl.take wn = (((l.take n).map (updP (ibit .and .i64 bk 7) m)).filter fun p => decide (p.pl.1 ≠ (ibit .and .i64 bk 7))) := hY.1
      rw [e] at hz2
      exact hz2
    have ez2 : (Sq.li z2 : List Pg) = (((l.take n).map (updP (ibit .and .i64 bk 7) m)).filter fun p => decide (p.pl.1 ≠ (ibit .and .i64 bk 7))) := hz2.1
    exfalso
    obtain ⟨k, hk, hkb⟩ := hr2
    have hk : k < (Sq.li z2 : List Pg).length := hk
    have hkb : pgBad 8 8 [] (Sq.li z2) k = true := hkb
    rw [ez2] at hk hkb
    have := okl_iff.2 (hok.filter fun p => decide (p.pl.1 ≠ (ibit .and .i64 bk 7))) k hk
    rw [this] at hkb
    cases hkb
  · rename_i u0 hl y hy h1 z hz r hr u3 w hw h2 z2 hz2 r2 hr2 u5 s hs v hv h4 hp
    obtain ⟨i, yo, yb, yq, yl, yn, yc⟩ := y
    have hl : ¬ (120 : Int) < (n : Int) := of_decide_eq_false hl
    have hy : i ≤ (l.take n).length ∧ Gth (((l.take n).take i).map (updP (ibit .and .i64 bk 7) m)) (yo, yb, yq, yl, yn, yc) ∧ ∀ j, j < i → fstP (ibit .and .i64 bk 7) ((l.take n).getD j pg0) = true → ¬ (m.kind = 1 ∧ m.key = (ibit .and .i64 bk 7)) := hy
    have hR := hy.2.1.room
    have h1 : ¬ (i : Int) < (n : Int) := of_decide_eq_false h1
    have ei : i = (l.take n).length := by have := hy.1; rw [hL] at this ⊢; omega
    have hX : Gth ((l.take n).map (updP (ibit .and .i64 bk 7) m)) (yo, yb, yq, yl, yn, yc) := by
      have := hy.2.1
      rw [ei, List.take_of_length_le (Nat.le_refl _)] at this
      exact this
    have hXl : (((l.take n).map (updP (ibit .and .i64 bk 7) m))).length = n := by rw [List.length_map, hL]
    have hyn : yn = n := hX.n.trans hXl
    have hno : ¬ HdAt ((l.take n).map (updP (ibit .and .i64 bk 7) m)) (ibit .and .i64 bk 7) := heads_no fun j hj => hy.2.2 j (by omega)
    have hz : Gth ((l.take n).map (updP (ibit .and .i64 bk 7) m)) z := by
      have hz : Gth (yl.take yn) z := hz
      have e : yl.take yn = ((l.take n).map (updP (ibit .and .i64 bk 7) m)) := hX.1
      rw [e] at hz
      exact hz
    have ez : (Sq.li z : List Pg) = ((l.take n).map (updP (ibit .and .i64 bk 7) m)) := hz.1
    have hO : OfS ⟨8, 8, 16⟩ [] ((l.take n).map (updP (ibit .and .i64 bk 7) m)) r := by rw [← ez]; exact hr
    have hok : Okl 8 8 ((l.take n).map (updP (ibit .and .i64 bk 7) m)) := okl_iff.1 hO.1
    have D : Drops (ibit .and .i64 bk 7).toNat ((l.take n).map (updP (ibit .and .i64 bk 7) m)) (((l.take n).map (updP (ibit .and .i64 bk 7) m)).filter fun p => decide (p.pl.1 ≠ (ibit .and .i64 bk 7))) := by
      have := drops_of hB8 hok (by rw [hBB]; exact hno)
      rw [hBB] at this
      exact this
    have hS : Gth (sloS ⟨8, 8, 16⟩ 8 (gridL 8 ((l.take n).map (updP (ibit .and .i64 bk 7) m)))) r.1 := hO.2.1
    have hSl : ((sloS ⟨8, 8, 16⟩ 8 (gridL 8 ((l.take n).map (updP (ibit .and .i64 bk 7) m))))).length ≤ 536871100 := Nat.le_trans sloL_len (keyL_len ⟨by decide, by decide, by decide⟩)
    have hSn := hS.n
    obtain ⟨j, wo, wb, wq, wl, wn, wc⟩ := w
    have hw : j ≤ (((l.take n).map (updP (ibit .and .i64 bk 7) m))).length ∧ Gth ((((l.take n).map (updP (ibit .and .i64 bk 7) m)).take j).filter fun p => decide (p.pl.1 ≠ (ibit .and .i64 bk 7))) (wo, wb, wq, wl, wn, wc) := hw
    have hW := hw.2.room
    have h2 : ¬ (j : Int) < (yn : Int) := of_decide_eq_false h2
    have hY : Gth (((l.take n).map (updP (ibit .and .i64 bk 7) m)).filter fun p => decide (p.pl.1 ≠ (ibit .and .i64 bk 7))) (wo, wb, wq, wl, wn, wc) := by
      have := hw.2
      have ej : j = (((l.take n).map (updP (ibit .and .i64 bk 7) m))).length := by have := hw.1; omega
      rw [ej, List.take_of_length_le (Nat.le_refl _)] at this
      exact this
    have hYl : ((((l.take n).map (updP (ibit .and .i64 bk 7) m)).filter fun p => decide (p.pl.1 ≠ (ibit .and .i64 bk 7)))).length ≤ (((l.take n).map (updP (ibit .and .i64 bk 7) m))).length := List.length_filter_le _ _
    have hwY : wn = ((((l.take n).map (updP (ibit .and .i64 bk 7) m)).filter fun p => decide (p.pl.1 ≠ (ibit .and .i64 bk 7)))).length := hY.n
    have hz2 : Gth (((l.take n).map (updP (ibit .and .i64 bk 7) m)).filter fun p => decide (p.pl.1 ≠ (ibit .and .i64 bk 7))) z2 := by
      have hz2 : Gth (wl.take wn) z2 := hz2
      have e : wl.take wn = (((l.take n).map (updP (ibit .and .i64 bk 7) m)).filter fun p => decide (p.pl.1 ≠ (ibit .and .i64 bk 7))) := hY.1
      rw [e] at hz2
      exact hz2
    have ez2 : (Sq.li z2 : List Pg) = (((l.take n).map (updP (ibit .and .i64 bk 7) m)).filter fun p => decide (p.pl.1 ≠ (ibit .and .i64 bk 7))) := hz2.1
    exfalso
    obtain ⟨k, hk, hkb⟩ := hr2
    have hk : k < (Sq.li z2 : List Pg).length := hk
    have hkb : pgBad 8 8 [] (Sq.li z2) k = true := hkb
    rw [ez2] at hk hkb
    have := okl_iff.2 (hok.filter fun p => decide (p.pl.1 ≠ (ibit .and .i64 bk 7))) k hk
    rw [this] at hkb
    cases hkb
  · rename_i u0 hl y hy h1 z hz r hr u3 w hw h2 z2 hz2 r2 hr2 u5 s hs v hv h4
    obtain ⟨i, yo, yb, yq, yl, yn, yc⟩ := y
    have hl : ¬ (120 : Int) < (n : Int) := of_decide_eq_false hl
    have hy : i ≤ (l.take n).length ∧ Gth (((l.take n).take i).map (updP (ibit .and .i64 bk 7) m)) (yo, yb, yq, yl, yn, yc) ∧ ∀ j, j < i → fstP (ibit .and .i64 bk 7) ((l.take n).getD j pg0) = true → ¬ (m.kind = 1 ∧ m.key = (ibit .and .i64 bk 7)) := hy
    have hR := hy.2.1.room
    have h1 : ¬ (i : Int) < (n : Int) := of_decide_eq_false h1
    have ei : i = (l.take n).length := by have := hy.1; rw [hL] at this ⊢; omega
    have hX : Gth ((l.take n).map (updP (ibit .and .i64 bk 7) m)) (yo, yb, yq, yl, yn, yc) := by
      have := hy.2.1
      rw [ei, List.take_of_length_le (Nat.le_refl _)] at this
      exact this
    have hXl : (((l.take n).map (updP (ibit .and .i64 bk 7) m))).length = n := by rw [List.length_map, hL]
    have hyn : yn = n := hX.n.trans hXl
    have hno : ¬ HdAt ((l.take n).map (updP (ibit .and .i64 bk 7) m)) (ibit .and .i64 bk 7) := heads_no fun j hj => hy.2.2 j (by omega)
    have hz : Gth ((l.take n).map (updP (ibit .and .i64 bk 7) m)) z := by
      have hz : Gth (yl.take yn) z := hz
      have e : yl.take yn = ((l.take n).map (updP (ibit .and .i64 bk 7) m)) := hX.1
      rw [e] at hz
      exact hz
    have ez : (Sq.li z : List Pg) = ((l.take n).map (updP (ibit .and .i64 bk 7) m)) := hz.1
    have hO : OfS ⟨8, 8, 16⟩ [] ((l.take n).map (updP (ibit .and .i64 bk 7) m)) r := by rw [← ez]; exact hr
    have hok : Okl 8 8 ((l.take n).map (updP (ibit .and .i64 bk 7) m)) := okl_iff.1 hO.1
    have D : Drops (ibit .and .i64 bk 7).toNat ((l.take n).map (updP (ibit .and .i64 bk 7) m)) (((l.take n).map (updP (ibit .and .i64 bk 7) m)).filter fun p => decide (p.pl.1 ≠ (ibit .and .i64 bk 7))) := by
      have := drops_of hB8 hok (by rw [hBB]; exact hno)
      rw [hBB] at this
      exact this
    have hS : Gth (sloS ⟨8, 8, 16⟩ 8 (gridL 8 ((l.take n).map (updP (ibit .and .i64 bk 7) m)))) r.1 := hO.2.1
    have hSl : ((sloS ⟨8, 8, 16⟩ 8 (gridL 8 ((l.take n).map (updP (ibit .and .i64 bk 7) m))))).length ≤ 536871100 := Nat.le_trans sloL_len (keyL_len ⟨by decide, by decide, by decide⟩)
    have hSn := hS.n
    obtain ⟨j, wo, wb, wq, wl, wn, wc⟩ := w
    have hw : j ≤ (((l.take n).map (updP (ibit .and .i64 bk 7) m))).length ∧ Gth ((((l.take n).map (updP (ibit .and .i64 bk 7) m)).take j).filter fun p => decide (p.pl.1 ≠ (ibit .and .i64 bk 7))) (wo, wb, wq, wl, wn, wc) := hw
    have hW := hw.2.room
    have h2 : ¬ (j : Int) < (yn : Int) := of_decide_eq_false h2
    have hY : Gth (((l.take n).map (updP (ibit .and .i64 bk 7) m)).filter fun p => decide (p.pl.1 ≠ (ibit .and .i64 bk 7))) (wo, wb, wq, wl, wn, wc) := by
      have := hw.2
      have ej : j = (((l.take n).map (updP (ibit .and .i64 bk 7) m))).length := by have := hw.1; omega
      rw [ej, List.take_of_length_le (Nat.le_refl _)] at this
      exact this
    have hYl : ((((l.take n).map (updP (ibit .and .i64 bk 7) m)).filter fun p => decide (p.pl.1 ≠ (ibit .and .i64 bk 7)))).length ≤ (((l.take n).map (updP (ibit .and .i64 bk 7) m))).length := List.length_filter_le _ _
    have hwY : wn = ((((l.take n).map (updP (ibit .and .i64 bk 7) m)).filter fun p => decide (p.pl.1 ≠ (ibit .and .i64 bk 7)))).length := hY.n
    have hz2 : Gth (((l.take n).map (updP (ibit .and .i64 bk 7) m)).filter fun p => decide (p.pl.1 ≠ (ibit .and .i64 bk 7))) z2 := by
      have hz2 : Gth (wl.take wn) z2 := hz2
      have e : wl.take wn = (((l.take n).map (updP (ibit .and .i64 bk 7) m)).filter fun p => decide (p.pl.1 ≠ (ibit .and .i64 bk 7))) := hY.1
      rw [e] at hz2
      exact hz2
    have ez2 : (Sq.li z2 : List Pg) = (((l.take n).map (updP (ibit .and .i64 bk 7) m)).filter fun p => decide (p.pl.1 ≠ (ibit .and .i64 bk 7))) := hz2.1
    exfalso
    obtain ⟨k, hk, hkb⟩ := hr2
    have hk : k < (Sq.li z2 : List Pg).length := hk
    have hkb : pgBad 8 8 [] (Sq.li z2) k = true := hkb
    rw [ez2] at hk hkb
    have := okl_iff.2 (hok.filter fun p => decide (p.pl.1 ≠ (ibit .and .i64 bk 7))) k hk
    rw [this] at hkb
    cases hkb
end Go.Vx
set_option maxRecDepth 100000
namespace Go.Vx
open Go Go.Proofs Go.ChangeShapes Go.WideShapes Go.Deep Go.RowKit Go.Proofs.YtnihemjnhbickaaDoor

theorem c3 : Tryd.prog.cellsOf 3 = 1 := by kernel_rfl
theorem c9 : Tryd.prog.cellsOf 9 = 1 := by kernel_rfl
theorem c36 : Tryd.prog.cellsOf 36 = 2 := by kernel_rfl
theorem c38 : Tryd.prog.cellsOf 38 = 6 := by kernel_rfl
theorem c42 : Tryd.prog.cellsOf 42 = 9 := by kernel_rfl
theorem c160 : Tryd.prog.cellsOf 160 = 1 := by kernel_rfl
/-! The errors. -/
theorem star : "*" ++ "errors.errorString" = "*errors.errorString" := by decide
theorem row142 (u : TypeId) (h : Tryd.prog.typeName? 3 u = some "*errors.errorString") : u = 142 :=
  typeName_ptr_named (nm := "errors.errorString") (by rw [star]; kernel_rfl) (by kernel_rfl) (by decide) u (by rw [star]; exact h)
def pos2 (g : Nat) : Nat := match g with
  | 0 => 1
  | 1 => 0
  | g => g
theorem pos2_ok : ∀ g, g < 2 → pos2 g < [1, 0].length ∧ [1, 0].getD (pos2 g) 0 = g := by decide
/-- The errors of a list lie there, no two at one place. -/
theorem gl_of {W : World} {L : List (String × DataW Unit)} (hL : SentL Tryd.prog "*errors.errorString" 30 L [1, 0]) (h : laidMet Tryd.prog L W) :
    ∃ G : Gl, (∀ i j, i < 2 → j < 2 → @Gl.A G i = @Gl.A G j → i = j) ∧ ∀ g, g < 2 →
    W.cell? ⟨g, 0, none⟩ = some (.iface 142 (.pointer (some (@Gl.A G g)))) ∧ W.heap[(@Gl.A G g).block]? = some (.cells (@Gl.c G g) (@Gl.t G g) (0, 0)) := by
  obtain ⟨ps, hv, hnd, hrows⟩ := h
  obtain ⟨az, hs, _⟩ := laid_all Tryd.underlying30 row142 Tryd.underlying142 Tryd.underlying160 rfl rfl Tryd.underlying9 c160 c9 _ _ _ hL hv hnd hrows
  have hex : ∀ g, ∃ p : Array Value × TypeId, g < 2 → W.heap[(az.getD (pos2 g) default).block]? = some (.cells p.1 p.2 (0, 0)) := by
    intro g
    by_cases hg : g < 2
    · obtain ⟨_, c, t, h2⟩ := hs.get (pos2 g) (pos2_ok g hg).1
      exact ⟨(c, t), fun _ => h2⟩
    · exact ⟨(#[], 0), fun h => absurd h hg⟩
  refine ⟨⟨fun g => az.getD (pos2 g) default, fun g => (Classical.choose (hex g)).1, fun g => (Classical.choose (hex g)).2⟩, ?_, ?_⟩
  · intro i j hi hj he
    have := hs.one (pos2_ok i hi).1 (pos2_ok j hj).1 he
    rw [← (pos2_ok i hi).2, ← (pos2_ok j hj).2, this]
  · intro g hg
    obtain ⟨h1, _⟩ := hs.get (pos2 g) (pos2_ok g hg).1
    rw [(pos2_ok g hg).2] at h1
    exact ⟨h1, Classical.choose_spec (hex g) hg⟩
theorem gv_is [Gl] (g : Nat) : (C0 g).gv = glV g := by unfold C0; split <;> rfl
theorem gp_is [Gl] (g : Nat) : (C0 g).gpins = glP g := by unfold C0; split <;> rfl
theorem glB_lt {g : Nat} (h : glB g = true) : g < 2 := by
  unfold glB at h
  simpa using h
abbrev LaidAt [Gl] (W : World) : Prop := ∀ g, g < 2 → W.cell? ⟨g, 0, none⟩ = some (.iface 142 (.pointer (some (Gl.A g)))) ∧ W.heap[(Gl.A g).block]? = some (.cells (Gl.c g) (Gl.t g) (0, 0))
theorem more_of [Gl] {W : World} (h : LaidAt W)
    {mem : List (Ck C0)} (hnw : noWr mem = true) (hd : ∀ c ∈ mem, ∀ t x, c.cells.Has t x → (C0 t).good W x ∧ ∀ b ∈ (C0 t).blks x, b < W.heap.size) : More (wrS mem) W W mem where
  gv g v hv := by
    rw [gv_is] at hv
    unfold glV at hv
    split at hv
    · rename_i hb
      have hg := glB_lt hb
      simp only [Option.some.injEq] at hv
      subst hv
      obtain ⟨h1, _⟩ := h g hg
      refine ⟨h1, ?_, ?_⟩
      · rcases Nat.lt_or_ge g W.heap.size with h' | h'
        · exact h'
        · simp [World.cell?, Array.getElem?_eq_none h'] at h1
      · rintro ⟨c, hc, hw, _⟩
        rw [noWr_ok hnw c hc] at hw; cases hw
    · cases hv
  gp g p hp := by
    rw [gp_is] at hp
    unfold glP at hp
    split at hp
    · rename_i hb
      have hg := glB_lt hb
      rw [List.mem_singleton] at hp
      subst hp
      obtain ⟨_, h2⟩ := h g hg
      refine ⟨h2, heap_size_of h2, ?_⟩
      rintro ⟨c, hc, hw, _⟩
      rw [noWr_ok hnw c hc] at hw; cases hw
    · cases hp
  pin p hp := by cases hp
  nod := List.nodup_nil
  deep := deep_ro hnw hd
/-! What comes in. -/
theorem place_open {H : Type} {enc : TypeId × Value → H} {w : World} {base : Nat} {spare : Nat → Bool} {held : Bool} {fuel : Nat} {cs : List Value} {y : DataW H × List MemPlace} (h : DataW.trod enc Tryd.prog w base spare held fuel 36 cs = some y) :
    ∃ b : Pl, cs[0]? = some (.int .i64 b.1) ∧ cs[1]? = some (.int .i64 b.2) := by
  obtain ⟨y0, y1, n, _, _, h0, h1⟩ := trod_struct2 Tryd.underlying36 h
  simp only [c3] at h0 h1
  obtain ⟨n0, e0, _, _⟩ := DataW.trod_int Tryd.underlying3 h0
  obtain ⟨n1, e1, _, _⟩ := DataW.trod_int Tryd.underlying3 h1
  exact ⟨(n0, n1), one_at e0, one_at e1⟩
theorem meta_open {H : Type} {enc : TypeId × Value → H} {w : World} {base : Nat} {spare : Nat → Bool} {held : Bool} {fuel : Nat} {cs : List Value} {y : DataW H × List MemPlace} (h : DataW.trod enc Tryd.prog w base spare held fuel 38 cs = some y) :
    ∃ m : Me, cs[0]? = some (.int .i64 m.kind) ∧ cs[1]? = some (.int .i64 m.key) ∧ cs[2]? = some (.int .i64 m.seq) ∧ cs[3]? = some (.int .i64 m.stamp) ∧ cs[4]? = some (.int .i64 m.batch) ∧ cs[5]? = some (.int .i64 m.floor) := by
  obtain ⟨xs, n, _, rfl, hl, hlen, hf⟩ := DataW.trod_struct Tryd.underlying38 h
  match xs, hlen with
  | [y0, y1, y2, y3, y4, y5], _ =>
    have h0 : DataW.trod enc Tryd.prog w base spare held n 3 ((cs.drop 0).take (Tryd.prog.cellsOf 3)) = some y0 := hf 0 _ rfl
    have h1 : DataW.trod enc Tryd.prog w base spare held n 3 ((cs.drop 1).take (Tryd.prog.cellsOf 3)) = some y1 := hf 1 _ rfl
    have h2 : DataW.trod enc Tryd.prog w base spare held n 3 ((cs.drop 2).take (Tryd.prog.cellsOf 3)) = some y2 := hf 2 _ rfl
    have h3 : DataW.trod enc Tryd.prog w base spare held n 3 ((cs.drop 3).take (Tryd.prog.cellsOf 3)) = some y3 := hf 3 _ rfl
    have h4 : DataW.trod enc Tryd.prog w base spare held n 3 ((cs.drop 4).take (Tryd.prog.cellsOf 3)) = some y4 := hf 4 _ rfl
    have h5 : DataW.trod enc Tryd.prog w base spare held n 3 ((cs.drop 5).take (Tryd.prog.cellsOf 3)) = some y5 := hf 5 _ rfl
    simp only [c3] at h0 h1 h2 h3 h4 h5
    obtain ⟨n0, e0, _, _⟩ := DataW.trod_int Tryd.underlying3 h0
    obtain ⟨n1, e1, _, _⟩ := DataW.trod_int Tryd.underlying3 h1
    obtain ⟨n2, e2, _, _⟩ := DataW.trod_int Tryd.underlying3 h2
    obtain ⟨n3, e3, _, _⟩ := DataW.trod_int Tryd.underlying3 h3
    obtain ⟨n4, e4, _, _⟩ := DataW.trod_int Tryd.underlying3 h4
    obtain ⟨n5, e5, _, _⟩ := DataW.trod_int Tryd.underlying3 h5
    exact ⟨⟨n0, n1, n2, n3, n4, n5⟩, one_at e0, one_at e1, one_at e2, one_at e3, one_at e4, one_at e5⟩
theorem page_open {H : Type} {enc : TypeId × Value → H} {w : World} {base : Nat} {spare : Nat → Bool} {held : Bool} {fuel : Nat} {cs : List Value} {y : DataW H × List MemPlace} (h : DataW.trod enc Tryd.prog w base spare held fuel 42 cs = some y) :
    ∃ b : Pg, ∀ f, f < 9 → cs[f]? = some (cellV cPg b f) := by
  obtain ⟨y0, y1, y2, n, _, _, h0, h1, h2⟩ := Go.Deep.trod_struct3 Tryd.underlying42 h
  simp only [c3, c36, c38] at h0 h1 h2
  obtain ⟨p, hp0, hp1⟩ := place_open h0
  obtain ⟨n0, e0, _, _⟩ := DataW.trod_int Tryd.underlying3 h1
  obtain ⟨m, m0, m1, m2, m3, m4, m5⟩ := meta_open h2
  refine ⟨⟨p, n0, m⟩, fun f hf => ?_⟩
  have p0 := part_at hp0
  have p1 := part_at hp1
  have k0 := part_at m0
  have k1 := part_at m1
  have k2 := part_at m2
  have k3 := part_at m3
  have k4 := part_at m4
  have k5 := part_at m5
  rcases f with _ | _ | _ | _ | _ | _ | _ | _ | _ | f
  · exact p0
  · exact p1
  · exact one_at e0
  · exact k0
  · exact k1
  · exact k2
  · exact k3
  · exact k4
  · exact k5
  · omega
/-- Pages that came in. -/
theorem pages_open {H : Type} {enc : TypeId × Value → H} {W : World} {base b0 : Nat} {r : Reach} {v : Value} {d : DataW H} {p : List MemPlace} (hv : Value.okWide Tryd.prog W r b0 22 v)
    (h : DataW.Trod enc Tryd.prog W base (fun _ => true) true 22 v d p) : ∃ (a : Option Addr) (n c : Nat) (l : List Pg), v = .slice a n c ∧ IsPart cPg W a n c l := by
  obtain ⟨a, n, c, rfl⟩ := okWide_slice Tryd.underlying22 hv
  obtain ⟨fuel, hf⟩ := h
  have hf : DataW.trod enc Tryd.prog W base (fun _ => true) true fuel 22 [.slice a n c] = some (d, p) := by simpa [Value.cells] using hf
  obtain ⟨zs, hz⟩ := rows_open2 cPg Tryd.underlying22 c42 (fun _ _ _ h => page_open h) (fun x hx => okWide_at Tryd.underlying22 (a := x) (by rw [hx] at hv; exact hv)) hf
  exact ⟨a, n, c, zs, rfl, hz.part⟩
/-- A record that came in. -/
theorem record_open {H : Type} {enc : TypeId × Value → H} {W : World} {base b0 : Nat} {r : Reach} {v : Value} {d : DataW H} {p : List MemPlace} (hv : Value.okWide Tryd.prog W r b0 38 v)
    (h : DataW.Trod enc Tryd.prog W base (fun _ => true) true 38 v d p) : ∃ m : Me, v = .agg #[.int .i64 m.kind, .int .i64 m.key, .int .i64 m.seq, .int .i64 m.stamp, .int .i64 m.batch, .int .i64 m.floor] := by
  obtain ⟨cs, rfl, hsz⟩ := okWide_struct Tryd.underlying38 hv
  obtain ⟨fuel, hf⟩ := h
  rw [c38] at hsz
  obtain ⟨l⟩ := cs
  match l, hsz with
  | [v0, v1, v2, v3, v4, v5], _ =>
    have hf : DataW.trod enc Tryd.prog W base (fun _ => true) true fuel 38 [v0, v1, v2, v3, v4, v5] = some (d, p) := hf
    obtain ⟨m, h0, h1, h2, h3, h4, h5⟩ := meta_open hf
    cases h0; cases h1; cases h2; cases h3; cases h4; cases h5
    exact ⟨m, rfl⟩
theorem pages_mem [Gl] {w : World} {a : Option Addr} {n c : Nat} {l : List Pg} (b1 : IsPart (C0 42) w a n c l) (hG : LaidAt w) : MemOK (C := C0) (wrS (C := C0) [inCk 42 a l]) w w [inCk 42 a l] := by
  refine memRo rfl (fun x hx ho => ?_) (fun x hx ho => ?_) (more_of hG rfl fun x hx t y hy => ?_)
  · rw [List.mem_singleton.1 hx] at ho ⊢
    exact b1.ok _ ho
  · rw [List.mem_singleton.1 hx] at ho ⊢
    exact b1.lt ho
  · rw [List.mem_singleton.1 hx] at hy
    obtain ⟨e, _⟩ := Cells.Has.inv hy
    subst e
    exact ⟨trivial, fun b hb => by cases hb⟩
/-- Two lists of pages that came in. -/
theorem pages_mem2 [Gl] {w : World} {a : Option Addr} {n c : Nat} {l : List Pg} {a2 : Option Addr} {n2 c2 : Nat} {l2 : List Pg} (b1 : IsPart (C0 42) w a n c l) (b2 : IsPart (C0 42) w a2 n2 c2 l2) (hG : LaidAt w) :
    MemOK (C := C0) (wrS (C := C0) [inCk 42 a l, inCk 42 a2 l2]) w w [inCk 42 a l, inCk 42 a2 l2] := by
  refine memRo rfl (fun x hx ho => ?_) (fun x hx ho => ?_) (more_of hG rfl fun x hx t y hy => ?_)
  · simp only [List.mem_cons, List.not_mem_nil, or_false] at hx
    rcases hx with rfl | rfl
    · exact b1.ok _ ho
    · exact b2.ok _ ho
  · simp only [List.mem_cons, List.not_mem_nil, or_false] at hx
    rcases hx with rfl | rfl
    · exact b1.lt ho
    · exact b2.lt ho
  · simp only [List.mem_cons, List.not_mem_nil, or_false] at hx
    rcases hx with rfl | rfl
    all_goals
      obtain ⟨e, _⟩ := Cells.Has.inv hy
      subst e
      exact ⟨trivial, fun b hb => by cases hb⟩
end Go.Vx
