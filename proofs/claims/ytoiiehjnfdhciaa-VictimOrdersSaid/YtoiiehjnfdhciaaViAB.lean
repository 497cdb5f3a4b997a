/-
  Round 21: the reference's order.
  Conditions: none.
-/
import Derived.Test.YtoiiehjnfdhciaaViAA
set_option maxRecDepth 100000
set_option linter.unusedVariables false
set_option linter.unusedSimpArgs false
namespace Go.Vi
open Go Go.Vx Go.Proofs

structure Sx where
  b : Nat
  q : Nat
  o : List Blk
  c : Nat
  i : Nat
/-- The first i of them, in order, lie in o. -/
abbrev InO (bl : List Blk) (x : Sx) : Prop := x.i ≤ x.c ∧ x.c ≤ x.o.length ∧ (x.o.take x.i).Perm (bl.take x.i) ∧ SrB (x.o.take x.i)
abbrev sC (x : Sx) : Ck C1 := ⟨x.b, x.q, 4, true, none, .rows 39 x.o⟩
def Pa (N : Nat) : Inv' C1 := ⟨3, Unit, fun _ => [(3, .nils), (4, .int .i64 0)], fun _ m => m, fun _ => True, fun _ => N + 1⟩
def Pb (bl : List Blk) (N : Nat) : Inv' C1 := ⟨3, Sx, fun x => [(3, .sl 1 0 x.i x.c), (4, .int .i64 x.i)], fun x m => m.take 1 ++ [sC x], fun x => x.i ≤ N ∧ 0 < x.i ∧ InO bl x, fun x => N - x.i⟩
def Pn : Inv' C1 := ⟨6, Unit, fun _ => [(3, .nils), (4, .int .i64 0), (5, .int .i64 0)], fun _ m => m, fun _ => True, fun _ => 0⟩
def Pk (bl : List Blk) (N : Nat) : Inv' C1 := ⟨6, Sx × Nat, fun x => [(3, .sl 1 0 x.1.i x.1.c), (4, .int .i64 x.1.i), (5, .int .i64 x.2)], fun x m => m.take 1 ++ [sC x.1],
  fun x => x.1.i < N ∧ 0 < x.1.i ∧ InO bl x.1 ∧ x.2 ≤ x.1.i ∧ ∀ j, x.2 ≤ j → j < x.1.i → ah (bl.getD x.1.i z0) (x.1.o.getD j z0) = true, fun x => x.2⟩
theorem by39 : Try.prog.types[39].bytes = 32 := by kernel_rfl
theorem Pk.no {bl : List Blk} {N : Nat} {x : Sx × Nat} (hx : (Pk bl N).inv x) (h : (0 : Int) = (x.1.i : Int)) : False := by
  have := hx.2.1
  omega
theorem Pn.no {bl : List Blk} {N : Nat} {x : Sx} (hx : (Pb bl N).inv x) (h : (x.i : Int) = 0) : False := by
  have := hx.2.1
  omega
theorem Pk.rd {bl : List Blk} {N : Nat} {x : Sx × Nat} (hx : (Pk bl N).inv x) (hc : decide ((0 : Int) < (x.2 : Int)) = true) (hN : N ≤ bl.length) (hb : N < 524288) :
    0 ≤ (x.1.i : Int) ∧ (x.1.i : Int) < (N : Int) ∧ (x.1.i : Int).toNat + 0 < bl.length ∧ inR .i64 ((x.2 : Int) - 1) ∧ 0 ≤ (x.2 : Int) - 1 ∧ (x.2 : Int) - 1 < (x.1.i : Int) ∧ ((x.2 : Int) - 1).toNat + 0 < x.1.o.length := by
  have hc := of_decide_eq_true hc
  obtain ⟨h1, h2, ⟨h3, h4, h5, h6⟩, h7, h8⟩ := hx
  exact ⟨by omega, by omega, by omega, inR64 (by omega) (by omega), by omega, by omega, by omega⟩
theorem Pk.rd' {bl : List Blk} {N : Nat} {x : Sx × Nat} (hx : (Pk bl N).inv x) (hN : N ≤ bl.length) (hb : N < 524288) :
    0 ≤ (x.1.i : Int) ∧ (x.1.i : Int) < (N : Int) ∧ (x.1.i : Int).toNat + 0 < bl.length ∧ inR .i64 ((x.1.i : Int) + 1) ∧ 0 ≤ (x.2 : Int) ∧ (x.2 : Int) ≤ (x.1.c : Int) ∧ (x.2 : Int) ≤ (x.1.i : Int) := by
  obtain ⟨h1, h2, ⟨h3, h4, h5, h6⟩, h7, h8⟩ := hx
  exact ⟨by omega, by omega, by omega, inR64 (by omega) (by omega), by omega, by omega, by omega⟩
/-- Is the place ahead of k still behind it? -/
def asksB (bl : List Blk) (x : Sx × Nat) : Bool := decide ((0 : Int) < (x.2 : Int)) && ah (bl.getD ((x.1.i : Int).toNat + 0) z0) (x.1.o.getD (((x.2 : Int) - 1).toNat + 0) z0)
theorem Pk.step {bl : List Blk} {N : Nat} {x : Sx × Nat} (hx : (Pk bl N).inv x) (hc : asksB bl x = true) : 0 < x.2 ∧ (Pk bl N).inv (x.1, x.2 - 1) ∧ (Pk bl N).meas (x.1, x.2 - 1) < (Pk bl N).meas x := by
  unfold asksB at hc
  rw [Bool.and_eq_true, decide_eq_true_eq] at hc
  obtain ⟨hc, ha⟩ := hc
  obtain ⟨h1, h2, h3, h7, h8⟩ := hx
  refine ⟨by omega, ⟨h1, h2, h3, by show x.2 - 1 ≤ x.1.i; omega, fun j hj hj' => ?_⟩, by show x.2 - 1 < x.2; omega⟩
  have hj : x.2 - 1 ≤ j := hj
  by_cases e : x.2 ≤ j
  · exact h8 j e hj'
  · rw [show ((x.1.i : Int).toNat + 0) = x.1.i by omega, show (((x.2 : Int) - 1).toNat + 0) = j by omega] at ha
    exact ha
theorem Pk.inr {bl : List Blk} {N : Nat} {x : Sx × Nat} (hx : (Pk bl N).inv x) (hc : asksB bl x = true) (hb : N < 524288) : inR .i64 ((x.2 : Int) - 1) := by
  have := (Pk.step hx hc).1
  have h1 := hx.1
  have h2 := hx.2.2.2.1
  exact inR64 (by omega) (by omega)
theorem len1 {r o sp : List Blk} {k c : Nat} (hk : k ≤ o.length) (h : c ≤ 0 + k + sp.length) : 0 + c ≤ ((r.drop 0).take 0 ++ (o.drop 0).take k ++ sp).length := by
  simp only [List.length_append, List.length_take, List.length_drop]
  omega
theorem len2 {a x sp : List Blk} {k c : Nat} (hk : 0 + k ≤ a.length) (hx : x.length = 1) (h : c ≤ 0 + k + 1 + sp.length) : 0 + c ≤ ((a.drop 0).take (0 + k) ++ (x.drop 0).take 1 ++ sp).length := by
  simp only [List.length_append, List.length_take, List.length_drop]
  omega
theorem srow_le {c k i n l : Nat} (hk : k ≤ i) (hi : i ≤ c) (hc : c ≤ l) (h : n = i - k) : srow c k 0 + n ≤ l := by
  unfold srow
  split <;> omega
theorem srow_take {l : List Blk} {c k i : Nat} (hk : k ≤ i) (hi : i ≤ c) : (l.drop (srow c k 0)).take (i - k) = (l.drop k).take (i - k) := by
  unfold srow
  split
  · rw [show i - k = 0 by omega, List.take_zero, List.take_zero]
  · rfl
theorem ins3 {α : Type} {o r sp1 sp2 sp3 : List α} {x : α} {i k : Nat} (hk : k ≤ i) (hi : i ≤ o.length) :
    (((((r.drop 0).take 0 ++ (o.drop 0).take k ++ sp1).drop 0).take (0 + k) ++ [x] ++ sp2).drop 0).take (0 + k + 1) ++ (o.drop k).take (i - k) ++ sp3 = (o.take i).take k ++ [x] ++ (o.take i).drop k ++ sp3 := by
  have e1 : ((r.drop 0).take 0 ++ (o.drop 0).take k ++ sp1).take (0 + k) = (o.take i).take k := by
    simp only [List.drop_zero, List.take_zero, List.nil_append, Nat.zero_add]
    rw [List.take_append_of_le_length (by simp; omega), List.take_of_length_le (by simp; omega), List.take_take, Nat.min_eq_left hk]
  simp only [List.drop_zero] at e1 ⊢
  rw [e1]
  have e2 : ((o.take i).take k ++ [x] ++ sp2).take (0 + k + 1) = (o.take i).take k ++ [x] := by
    rw [List.take_append_of_le_length (by simp; omega), List.take_of_length_le (by simp; omega)]
  rw [e2, List.drop_take]
theorem ins3_take {α : Type} {s sp : List α} {x : α} {k : Nat} (hk : k ≤ s.length) : (s.take k ++ [x] ++ s.drop k ++ sp).take (s.length + 1) = s.take k ++ [x] ++ s.drop k := by
  rw [List.take_append_of_le_length (by simp; omega), List.take_of_length_le (by simp; omega)]
/-- One more lies in the list. -/
theorem Pk.done {bl : List Blk} {N : Nat} {x : Sx × Nat} (hx : (Pk bl N).inv x) (hc : asksB bl x = false) (hN : N ≤ bl.length) {b q c : Nat} {sp : List Blk} (h1 : x.1.i + 1 ≤ c) (h2 : c ≤ x.1.i + 1 + sp.length) :
    (Pb bl N).inv ⟨b, q, (x.1.o.take x.1.i).take x.2 ++ [bl.getD x.1.i z0] ++ (x.1.o.take x.1.i).drop x.2 ++ sp, c, x.1.i + 1⟩ := by
  obtain ⟨g1, g2, ⟨g3, g4, g5, g6⟩, g7, g8⟩ := hx
  have hl : (x.1.o.take x.1.i).length = x.1.i := by rw [List.length_take]; omega
  have hg : ∀ j, j < x.1.i → (x.1.o.take x.1.i).getD j z0 = x.1.o.getD j z0 := by
    intro j hj
    simp only [List.getD_eq_getElem?_getD, List.getElem?_take]
    rw [if_pos hj]
  have e : ((x.1.o.take x.1.i).take x.2 ++ [bl.getD x.1.i z0] ++ (x.1.o.take x.1.i).drop x.2 ++ sp).take (x.1.i + 1) = (x.1.o.take x.1.i).take x.2 ++ [bl.getD x.1.i z0] ++ (x.1.o.take x.1.i).drop x.2 := by
    have := ins3_take (s := x.1.o.take x.1.i) (sp := sp) (x := bl.getD x.1.i z0) (k := x.2) (by omega)
    rwa [hl] at this
  refine ⟨by show x.1.i + 1 ≤ N; omega, Nat.succ_pos _, h1, ?_, ?_, ?_⟩
  · show c ≤ ((x.1.o.take x.1.i).take x.2 ++ [bl.getD x.1.i z0] ++ (x.1.o.take x.1.i).drop x.2 ++ sp).length
    simp only [List.length_append, List.length_take, List.length_drop, List.length_cons, List.length_nil]
    omega
  · show (List.take (x.1.i + 1) _).Perm (bl.take (x.1.i + 1))
    rw [e, take_snoc (d := z0) (by omega)]
    exact ins_perm.trans (g5.append_right _)
  · show SrB (List.take (x.1.i + 1) _)
    rw [e]
    refine ins_srt g6 (by omega) (fun j hj hj' => ?_) (fun h0 => ?_)
    · rw [hl] at hj'
      rw [hg j hj']
      exact g8 j hj hj'
    · unfold asksB at hc
      rw [hg _ (by omega)]
      rw [show ((x.1.i : Int).toNat + 0) = x.1.i by omega, show (((x.2 : Int) - 1).toNat + 0) = x.2 - 1 by omega, decide_eq_true (show (0 : Int) < (x.2 : Int) by omega), Bool.true_and] at hc
      exact hc
set_option maxHeartbeats 8000000 in
theorem rorder_ok (b q : Nat) (bl : List Blk) (N m : Nat) (hN : N ≤ bl.length) (hb : N < 524288) :
    Does (C := C1) Try.prog (.fn 11) [⟨b, q, 4, false, none, .rows 39 bl⟩] [.sl 0 0 N m]
     [⟨Unit, fun _ => N = 0, fun _ => .nils, fun y => [⟨b, q, 4, false, none, .rows 39 bl⟩]⟩,
      ⟨Nat × Nat × List Blk × Nat, fun y => 0 < N ∧ N ≤ y.2.2.2 ∧ y.2.2.2 ≤ y.2.2.1.length ∧ (y.2.2.1.take N).Perm (bl.take N) ∧ SrB (y.2.2.1.take N), fun y => .sl 1 0 N y.2.2.2, fun y => [⟨b, q, 4, false, none, .rows 39 bl⟩, ⟨y.1, y.2.1, 4, true, none, .rows 39 y.2.2.1⟩]⟩] := by
  refine loc_fn (P := Try.prog) (E := ⟨[], [pcAhead], 52, [(8, [], [.p 0, .p 1, .p 2, .p 4, .p 5, .p 6, .e 3, .e 7, .p 8])]⟩) (L := [Pa N, Pb bl N, Pn, Pk bl N]) mix Try.func11 rfl (by kernel_rfl) (by kernel_rfl) rfl rfl ?_
  ((conv => (arg 1; reduce)); with_reducible repeat' (first | exact Tr.yes_h | refine Tr.and_h ?_ ?_ | refine Tr.imp_h fun _ => ?_ | refine Tr.all_h fun _ => ?_ | refine Tr.lf_h ?_))
  all_goals try first | (show Region.lexB _ _ = true; kernel_rfl) | (show planned _ _ = true; kernel_rfl) | exact rfl | exact True.intro
  all_goals try exact absurd ‹decide ((0 : Int) < 0) = true› (by decide)
  all_goals try (intro h; exact absurd h (by decide))
  all_goals try exact (Pk.no ‹(Pk bl N).inv _› (by assumption)).elim
  all_goals try exact (Pn.no ‹(Pb bl N).inv _› (by assumption)).elim
  all_goals try (have hh := Pk.rd ‹(Pk bl N).inv _› ‹decide ((0 : Int) < _) = true› hN hb; first | exact hh.1 | exact hh.2.1 | exact hh.2.2.1 | exact hh.2.2.2.1 | exact hh.2.2.2.2.1 | exact hh.2.2.2.2.2.1 | exact hh.2.2.2.2.2.2)
  all_goals try (have hh := Pk.rd' ‹(Pk bl N).inv _› hN hb; first | exact hh.1 | exact hh.2.1 | exact hh.2.2.1 | exact hh.2.2.2.1 | exact hh.2.2.2.2.1 | exact hh.2.2.2.2.2.1 | exact hh.2.2.2.2.2.2)
  · refine Stands.one () ⟨trivial, ?_⟩
    ((conv => (arg 1; reduce)); with_reducible repeat' (first | exact Tr.yes_h | refine Tr.and_h ?_ ?_ | refine Tr.imp_h fun _ => ?_ | refine Tr.all_h fun _ => ?_ | refine Tr.lf_h ?_))
    all_goals (first | first | (show Region.lexB _ _ = true; kernel_rfl) | (show planned _ _ = true; kernel_rfl) | exact rfl | exact True.intro | ((try dsimp only [imp, C1, cBlk, cItm] at *); (try refine inR64 ?_ ?_) <;> (try simp only [List.length_set, List.length_append, List.length_take, List.length_drop]) <;> omega))
  · refine Stands.one () ⟨trivial, ?_⟩
    ((conv => (arg 1; reduce)); with_reducible repeat' (first | exact Tr.yes_h | refine Tr.and_h ?_ ?_ | refine Tr.imp_h fun _ => ?_ | refine Tr.all_h fun _ => ?_ | refine Tr.lf_h ?_))
    all_goals (first | first | (show Region.lexB _ _ = true; kernel_rfl) | (show planned _ _ = true; kernel_rfl) | exact rfl | exact True.intro | ((try dsimp only [imp, C1, cBlk, cItm] at *); (try refine inR64 ?_ ?_) <;> (try simp only [List.length_set, List.length_append, List.length_take, List.length_drop]) <;> omega))
  · rw [by39]; omega
  · omega
  · omega
  · rename_i hc _ _ _ _
    exact of_decide_eq_true hc
  · rename_i hc _ _ _ _
    have hc := of_decide_eq_true hc
    omega
  · refine ⟨by omega, by simp, Nat.le_refl 1, by rw [by39]; omega⟩
  · rename_i h1 h2
    exact h1
  · rename_i hc u hu hl b1 b2 b3 base3 sp cap h1 h2
    have hc := of_decide_eq_true hc
    refine Stands.next (Stands.one ⟨b3, base3, bl.getD 0 z0 :: sp, cap, 1⟩ ⟨⟨by show 1 ≤ N; omega, Nat.one_pos, h1, ?_, ?_, ?_⟩, ?_, ?_⟩)
    · show cap ≤ (bl.getD 0 z0 :: sp).length
      rw [List.length_cons]; omega
    · have e := take_snoc (d := z0) (l := bl) (n := 0) (by omega)
      show (List.take 1 (bl.getD 0 z0 :: sp)).Perm (bl.take 1)
      rw [e]
      exact List.Perm.refl _
    · exact List.pairwise_singleton _ _
    · show N - 1 < N + 1; omega
    ((conv => (arg 1; reduce)); with_reducible repeat' (first | exact Tr.yes_h | refine Tr.and_h ?_ ?_ | refine Tr.imp_h fun _ => ?_ | refine Tr.all_h fun _ => ?_ | refine Tr.lf_h ?_))
    all_goals (first | first | (show Region.lexB _ _ = true; kernel_rfl) | (show planned _ _ = true; kernel_rfl) | exact rfl | exact True.intro | ((try dsimp only [imp, C1, cBlk, cItm] at *); (try refine inR64 ?_ ?_) <;> (try simp only [List.length_set, List.length_append, List.length_take, List.length_drop]) <;> omega))
  · rename_i hc
    have hc := of_decide_eq_false hc
    refine Ends.one () (by omega) ?_
    ((conv => (arg 1; reduce)); with_reducible repeat' (first | exact Tr.yes_h | refine Tr.and_h ?_ ?_ | refine Tr.imp_h fun _ => ?_ | refine Tr.all_h fun _ => ?_ | refine Tr.lf_h ?_))
    all_goals (first | first | (show Region.lexB _ _ = true; kernel_rfl) | (show planned _ _ = true; kernel_rfl) | exact rfl | exact True.intro | ((try dsimp only [imp, C1, cBlk, cItm] at *); (try refine inR64 ?_ ?_) <;> (try simp only [List.length_set, List.length_append, List.length_take, List.length_drop]) <;> omega))
  · rename_i x hx hc
    have hc := of_decide_eq_true hc
    refine Stands.next (Stands.one (x, x.i) ⟨⟨by show x.i < N; omega, hx.2.1, hx.2.2, Nat.le_refl _, fun j h1 h2 => absurd h2 (Nat.not_lt.2 h1)⟩, ?_⟩)
    ((conv => (arg 1; reduce)); with_reducible repeat' (first | exact Tr.yes_h | refine Tr.and_h ?_ ?_ | refine Tr.imp_h fun _ => ?_ | refine Tr.all_h fun _ => ?_ | refine Tr.lf_h ?_))
    all_goals (first | first | (show Region.lexB _ _ = true; kernel_rfl) | (show planned _ _ = true; kernel_rfl) | exact rfl | exact True.intro | ((try dsimp only [imp, C1, cBlk, cItm] at *); (try refine inR64 ?_ ?_) <;> (try simp only [List.length_set, List.length_append, List.length_take, List.length_drop]) <;> omega))
  · rename_i x hx hc y hy hl hd
    exact Pk.inr hy hd hb
  · rename_i x hx hc y hy hl hd
    obtain ⟨h0, h1, h2⟩ := Pk.step hy hd
    refine Stands.next (Stands.one (y.1, y.2 - 1) ⟨h1, h2, ?_⟩)
    have e : (y.2 : Int) - 1 = ((y.2 - 1 : Nat) : Int) := by omega
    ((conv => (arg 1; reduce)); with_reducible repeat' (first | exact Tr.yes_h | refine Tr.and_h ?_ ?_ | refine Tr.imp_h fun _ => ?_ | refine Tr.all_h fun _ => ?_ | refine Tr.lf_h ?_))
    all_goals first | (first | first | (show Region.lexB _ _ = true; kernel_rfl) | (show planned _ _ = true; kernel_rfl) | exact rfl | exact True.intro | ((try dsimp only [imp, C1, cBlk, cItm] at *); (try refine inR64 ?_ ?_) <;> (try simp only [List.length_set, List.length_append, List.length_take, List.length_drop]) <;> omega)) | exact e | exact hl
  · rename_i x hx hc y hy hl hd
    have h1 := hy.1
    rw [by39]
    exact ⟨Int.le_refl 0, by omega, by omega, by omega⟩
  · rename_i x hx hc y hy hl hd b1
    obtain ⟨g1, g2, ⟨g3, g4, g5, g6⟩, g7, g8⟩ := hy
    rw [by39]
    exact ⟨by omega, by simp, by omega, by omega⟩
  · rename_i x hx hc y hy hl hd b1 b2 base2 sp cap h1 h2 b3
    obtain ⟨g1, g2, ⟨g3, g4, g5, g6⟩, g7, g8⟩ := hy
    rw [by39]
    exact ⟨h1, len1 (k := y.2) (Nat.le_trans g7 (Nat.le_trans g3 g4)) h2, Nat.le_refl 1, by omega⟩
  · rename_i x hx hc y hy hl hd b1 b2 base2 sp cap h1 h2 b3 b4 base4 sp2 cap2 h3 h4
    obtain ⟨g1, g2, ⟨g3, g4, g5, g6⟩, g7, g8⟩ := hy
    rw [by39]
    refine ⟨h3, len2 (k := y.2) ?_ rfl h4, srow_le g7 g3 g4 rfl, ?_⟩
    · exact Nat.le_trans h1 (Nat.le_trans (Nat.le_of_eq (Nat.zero_add _).symm) (len1 (k := y.2) (Nat.le_trans g7 (Nat.le_trans g3 g4)) h2))
    · show (Int.toNat 0 + (y.2 : Int).toNat + 1 + (y.1.i - (y.2 : Int).toNat)) * 32 ≤ 140737488355328
      omega
  · rename_i x hx hc y hy hl hd b1 b2 base2 sp cap h1 h2 b3 b4 base4 sp2 cap2 h3 h4 b5 base5 sp3 cap3 h5 h6
    have hhi := hy.2.2.1.1
    have hle := Nat.le_trans hhi hy.2.2.1.2.1
    have hk := hy.2.2.2.1
    have h5 : 0 + y.2 + 1 + (y.1.i - y.2) ≤ cap3 := h5
    have h6 : cap3 ≤ 0 + y.2 + 1 + (y.1.i - y.2) + sp3.length := h6
    have e1 : 0 + y.2 + 1 + (y.1.i - y.2) = y.1.i + 1 := by omega
    have hl : (x.i : Int) = (y.1.i : Int) := hl
    have hl : x.i = y.1.i := by omega
    rw [e1] at h5 h6
    have hi1 := hy.1
    have e2 := ins3 (o := y.1.o) (r := List.replicate ((y.1.i : Int) + 1).toNat z0) (sp1 := sp) (sp2 := sp2) (sp3 := sp3) (x := bl.getD y.1.i z0) hk hle
    rw [← srow_take hk hhi] at e2
    refine Stands.next (Stands.one ⟨b5, base5, (y.1.o.take y.1.i).take y.2 ++ [bl.getD y.1.i z0] ++ (y.1.o.take y.1.i).drop y.2 ++ sp3, cap3, y.1.i + 1⟩ ⟨Pk.done hy hd hN h5 h6, ?_, ?_⟩)
    · show N - (y.1.i + 1) < N - x.i
      omega
    ((conv => (arg 1; reduce)); with_reducible repeat' (first | exact Tr.yes_h | refine Tr.and_h ?_ ?_ | refine Tr.imp_h fun _ => ?_ | refine Tr.all_h fun _ => ?_ | refine Tr.lf_h ?_))
    all_goals first | (first | first | (show Region.lexB _ _ = true; kernel_rfl) | (show planned _ _ = true; kernel_rfl) | exact rfl | exact True.intro | ((try dsimp only [imp, C1, cBlk, cItm] at *); (try refine inR64 ?_ ?_) <;> (try simp only [List.length_set, List.length_append, List.length_take, List.length_drop]) <;> omega)) | exact e1 | exact e2 | exact e1.symm | exact e2.symm
  · rename_i x hx hc
    have hc := of_decide_eq_false hc
    obtain ⟨h1, h2, h3, h4, h5, h6⟩ := hx
    have e : x.i = N := by omega
    rw [e] at h2 h3 h5 h6
    refine Ends.next (Ends.one (x.b, x.q, x.o, x.c) ⟨h2, h3, h4, h5, h6⟩ ?_)
    rw [e]
    ((conv => (arg 1; reduce)); with_reducible repeat' (first | exact Tr.yes_h | refine Tr.and_h ?_ ?_ | refine Tr.imp_h fun _ => ?_ | refine Tr.all_h fun _ => ?_ | refine Tr.lf_h ?_))
    all_goals (first | first | (show Region.lexB _ _ = true; kernel_rfl) | (show planned _ _ = true; kernel_rfl) | exact rfl | exact True.intro | ((try dsimp only [imp, C1, cBlk, cItm] at *); (try refine inR64 ?_ ?_) <;> (try simp only [List.length_set, List.length_append, List.length_take, List.length_drop]) <;> omega))
end Go.Vi
