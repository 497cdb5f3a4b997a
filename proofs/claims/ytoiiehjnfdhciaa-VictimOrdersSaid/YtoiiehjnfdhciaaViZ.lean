/-
  Round 21: the reference's gap.
  Conditions: none.
-/
import Derived.Test.YtoiiehjnfdhciaaViY
set_option maxRecDepth 100000
set_option linter.unusedVariables false
set_option linter.unusedSimpArgs false
namespace Go.Vi
open Go Go.Vx Go.Proofs

theorem Does.tells {P : Program} {tg : Tg} {mem : List (Ck C1)} {args : List SV} {res : SV} {Y : Type} {post : Y → Prop} (h : Does P tg mem args [⟨Y, post, fun _ => res, fun _ => mem⟩]) : Tells P tg mem args res := by
  intro w hm
  obtain ⟨f, vals, h1, h2⟩ := h w hm
  refine ⟨f, vals, h1, h2.mono ?_⟩
  rintro e w' ⟨r, m', he, hm', hx, A, hA, y, hy, hr, ho⟩
  rcases List.mem_singleton.1 hA with rfl
  exact ⟨r, m', he, hm', hx, hr, ho⟩
def R1 (p : Nat) (fr : List Int) (bl : List Blk) (N : Nat) : Inv' C1 := ⟨5, Gx, fun x => [(8, .int .i64 x.i), (7, .sl p 0 x.n x.c), (12, .junk)], fun x m => m.take p ++ [⟨x.ab, x.aq, 1, true, none, .rows 3 x.a⟩],
  fun x => x.i ≤ N ∧ x.n ≤ x.c ∧ x.c ≤ x.a.length ∧ x.a.take x.n = fr ++ worns (bl.take x.i) ∧ x.n = (fr ++ worns (bl.take x.i)).length, fun x => N - x.i⟩
def R2 (a : List Int) : Inv' C1 := ⟨10, Nat, fun j => [(9, .int .i64 j), (5, .int .i64 (lo a j)), (6, .int .i64 (hi a j))], fun _ m => m, fun j => j ≤ a.length, fun j => a.length - j⟩
theorem R1.bds {p : Nat} {fr : List Int} {bl : List Blk} {N : Nat} {x : Gx} (hx : (R1 p fr bl N).inv x) (hc : decide ((x.i : Int) < (N : Int)) = true) (hN : N ≤ bl.length) (hb : N < 524288) : (0 ≤ (x.i : Int) ∧ (x.i : Int) < (N : Int) ∧ (x.i : Int).toNat + 0 < bl.length) ∧ inR .i64 ((x.i : Int) + 1) := by
  have hc := of_decide_eq_true hc
  exact ⟨by omega, inR64 (by omega) (by omega)⟩
theorem R1.fin {p : Nat} {fr : List Int} {bl : List Blk} {N : Nat} {x : Gx} (h : (R1 p fr bl N).inv x) (hc : decide ((x.i : Int) < (N : Int)) = false) : x.n = (fr ++ worns (bl.take N)).length ∧ x.n ≤ x.c ∧ x.c ≤ x.a.length ∧ x.a.take x.n = fr ++ worns (bl.take N) := by
  have hc := of_decide_eq_false hc
  obtain ⟨g1, g2, g3, g4, g5⟩ := h
  have e : x.i = N := by omega
  rw [e] at g4 g5
  exact ⟨g5, g2, g3, g4⟩
theorem R1.ask {p : Nat} {fr : List Int} {F : Nat} {bl : List Blk} {N : Nat} {x : Gx} (hx : (R1 p (fr.take F) bl N).inv x) (hc : decide ((x.i : Int) < (N : Int)) = true) (hN : N ≤ bl.length) (hF : F ≤ fr.length) (hb : N < 524288) (hf : F < 524288) :
    x.n ≤ x.c ∧ 0 + x.c ≤ x.a.length ∧ 0 + 1 ≤ 1 ∧ (x.n + 1) * 8 ≤ 140737488355328 := by
  have hc := of_decide_eq_true hc
  obtain ⟨g1, g2, g3, g4, g5⟩ := hx
  have := worns_len bl x.i
  rw [List.length_append] at g5
  have h5 : (fr.take F).length ≤ F := by rw [List.length_take]; omega
  exact ⟨g2, by omega, Nat.le_refl 1, by omega⟩
theorem R2.bds {p : Nat} {fr : List Int} {F : Nat} {bl : List Blk} {N : Nat} {x : Gx} {j : Nat} (hx : (R1 p (fr.take F) bl N).inv x) (hc : decide ((x.i : Int) < (N : Int)) = false)
    (hd : decide ((j : Int) < (x.n : Int)) = true) (hF : F ≤ fr.length) (hb : N + F < 1048576) : (0 ≤ (j : Int) ∧ (j : Int) < x.n ∧ (j : Int).toNat + 0 < x.a.length) ∧ inR .i64 ((j : Int) + 1) := by
  obtain ⟨k1, k2, k3, k4⟩ := R1.fin hx hc
  have hd := of_decide_eq_true hd
  have h4 := worns_len bl N
  have h5 : (fr.take F).length ≤ F := by rw [List.length_take]; omega
  have k5 := k1
  rw [List.length_append] at k5
  exact ⟨by omega, inR64 (by omega) (by omega)⟩
/-- What is looked at next. -/
theorem R2.at {p : Nat} {fr : List Int} {bl : List Blk} {N : Nat} {x : Gx} {j : Nat} (hx : (R1 p fr bl N).inv x) (hc : decide ((x.i : Int) < (N : Int)) = false)
    (hd : decide ((j : Int) < (x.n : Int)) = true) : j < (fr ++ worns (bl.take N)).length ∧ min (max 0 (x.a.getD j 0)) 1073741824 = cl ((fr ++ worns (bl.take N)).getD j 0) := by
  obtain ⟨k1, k2, k3, k4⟩ := R1.fin hx hc
  have hd := of_decide_eq_true hd
  refine ⟨by omega, ?_⟩
  rw [within_cl, ← k4, getD_take (by omega)]
theorem R2.end {p : Nat} {fr : List Int} {bl : List Blk} {N : Nat} {x : Gx} {j : Nat} (hx : (R1 p fr bl N).inv x) (hc : decide ((x.i : Int) < (N : Int)) = false)
    (hj : (R2 (fr ++ worns (bl.take N))).inv j) (hd : decide ((j : Int) < (x.n : Int)) = false) : hi (fr ++ worns (bl.take N)) j - lo (fr ++ worns (bl.take N)) j = gapv (fr ++ worns (bl.take N)) := by
  obtain ⟨k1, k2, k3, k4⟩ := R1.fin hx hc
  have hd := of_decide_eq_false hd
  have hj : j ≤ (fr ++ worns (bl.take N)).length := hj
  rw [show j = (fr ++ worns (bl.take N)).length by omega, gap_hilo]
theorem R2.more {p : Nat} {fr : List Int} {bl : List Blk} {N : Nat} {x : Gx} {j : Nat} (hx : (R1 p fr bl N).inv x) (hc : decide ((x.i : Int) < (N : Int)) = false)
    (hd : decide ((j : Int) < (x.n : Int)) = true) : (R2 (fr ++ worns (bl.take N))).inv (Nat.succ j) ∧ (R2 (fr ++ worns (bl.take N))).meas (Nat.succ j) < (R2 (fr ++ worns (bl.take N))).meas j ∧
    max (hi (fr ++ worns (bl.take N)) j) (min (max 0 (x.a.getD j 0)) 1073741824) = hi (fr ++ worns (bl.take N)) (Nat.succ j) := by
  obtain ⟨k1, k2⟩ := R2.at hx hc hd
  exact ⟨k1, Nat.sub_succ_lt_self _ _ k1, by rw [k2]; exact hi_step k1⟩
theorem R2.new {p : Nat} {fr : List Int} {bl : List Blk} {N : Nat} {x : Gx} {j : Nat} (hx : (R1 p fr bl N).inv x) (hc : decide ((x.i : Int) < (N : Int)) = false)
    (hd : decide ((j : Int) < (x.n : Int)) = true) (he : (decide (lo (fr ++ worns (bl.take N)) j < 0) || decide (min (max 0 (x.a.getD j 0)) 1073741824 < lo (fr ++ worns (bl.take N)) j)) = true) :
    min (max 0 (x.a.getD j 0)) 1073741824 = lo (fr ++ worns (bl.take N)) (Nat.succ j) := by
  obtain ⟨k1, k2⟩ := R2.at hx hc hd
  rw [k2] at he ⊢
  rw [Bool.or_eq_true, decide_eq_true_eq, decide_eq_true_eq] at he
  exact lo_new k1 he
theorem R2.old {p : Nat} {fr : List Int} {bl : List Blk} {N : Nat} {x : Gx} {j : Nat} (hx : (R1 p fr bl N).inv x) (hc : decide ((x.i : Int) < (N : Int)) = false)
    (hd : decide ((j : Int) < (x.n : Int)) = true) (he : (decide (lo (fr ++ worns (bl.take N)) j < 0) || decide (min (max 0 (x.a.getD j 0)) 1073741824 < lo (fr ++ worns (bl.take N)) j)) = false) :
    lo (fr ++ worns (bl.take N)) j = lo (fr ++ worns (bl.take N)) (Nat.succ j) := by
  obtain ⟨k1, k2⟩ := R2.at hx hc hd
  rw [k2] at he
  refine lo_old k1 fun g => ?_
  rw [← decide_eq_true_eq (p := _ < (0 : Int)), ← decide_eq_true_eq (p := _ < lo _ _), ← Bool.or_eq_true, he] at g
  exact absurd g (by decide)
theorem hilo_r (a : List Int) (k : Nat) : inR .i64 (hi a k - lo a k) := by
  have := hilo_in (a := a) (k := k)
  exact inR64 (by omega) (by omega)
set_option maxHeartbeats 8000000 in
theorem rgap_ok (b q : Nat) (bl : List Blk) (N m : Nat) (hN : N ≤ bl.length) (hb : N < 524288) (fb fq : Nat) (fr : List Int) (F fm : Nat) (hF : F ≤ fr.length) (hf : F < 524288) : Does (C := C1) Try.prog (.fn 18) [⟨b, q, 4, false, none, .rows 39 bl⟩, ⟨fb, fq, 1, false, none, .rows 3 fr⟩] [.sl 0 0 N m, .sl 1 0 F fm]
     [⟨Unit, fun _ => True, fun _ => .int .i64 (gapv (fr.take F ++ worns (bl.take N))), fun y => [⟨b, q, 4, false, none, .rows 39 bl⟩, ⟨fb, fq, 1, false, none, .rows 3 fr⟩]⟩] := by
  refine loc_fn (P := Try.prog) (E := ⟨[fcInts, fcInts0], [pcWithin], 58, []⟩) (L := [R1 2 (fr.take F) bl N, R2 (fr.take F ++ worns (bl.take N))]) mix Try.func18 rfl (by kernel_rfl) (by kernel_rfl) rfl rfl ?_
  ((conv => (arg 1; reduce)); with_reducible repeat' (first | exact Tr.yes_h | refine Tr.and_h ?_ ?_ | refine Tr.imp_h fun _ => ?_ | refine Tr.all_h fun _ => ?_ | refine Tr.lf_h ?_))
  all_goals try first | (show Region.lexB _ _ = true; kernel_rfl) | (show planned _ _ = true; kernel_rfl) | exact rfl | exact True.intro
  all_goals try (have hh := R1.bds ‹(R1 2 (fr.take F) bl N).inv _› ‹decide (_ < (N : Int)) = true› hN hb; first | exact hh.2 | exact hh.1.1 | exact hh.1.2.1 | exact hh.1.2.2)
  all_goals try (rename_i y hy x hx hc j hj hd; have hh := R2.bds hx hc hd hF (by omega); first | exact hh.2 | exact hh.1.1 | exact hh.1.2.1 | exact hh.1.2.2)
  all_goals try (rename_i y hy x hx hc j hj hd he; have hh := R2.bds hx hc hd hF (by omega); first | exact hh.2)
  all_goals try (exact hilo_r _ _)
  · exact ⟨hF, hf⟩
  · rename_i y hy
    refine Stands.one ⟨y.1, y.2.1, y.2.2.1, F, y.2.2.2, 0⟩ ⟨⟨Nat.zero_le _, hy.1, hy.2.1, ?_, ?_⟩, ?_⟩
    · rw [hy.2.2]; simp [worns]
    · simp [worns]; omega
    ((conv => (arg 1; reduce)); with_reducible repeat' (first | exact Tr.yes_h | refine Tr.and_h ?_ ?_ | refine Tr.imp_h fun _ => ?_ | refine Tr.all_h fun _ => ?_ | refine Tr.lf_h ?_))
    all_goals (first | first | (show Region.lexB _ _ = true; kernel_rfl) | (show planned _ _ = true; kernel_rfl) | exact rfl | exact True.intro | ((try dsimp only [imp, C1, cBlk, cItm] at *); (try refine inR64 ?_ ?_) <;> (try simp only [List.length_set, List.length_append, List.length_take, List.length_drop]) <;> omega))
  · rename_i y hy x hx hc hf bs
    rw [by3]
    exact R1.ask hx hc hN hF hb (by assumption)
  · rename_i y hy x hx hc hf bs b2 base2 sp cap h1 h2
    have hc := of_decide_eq_true hc
    obtain ⟨g1, g2, g3, g4, g5⟩ := hx
    obtain ⟨k1, k2⟩ := G1.good (sp := sp) (by omega) (by omega) g4 g5 hf
    refine Stands.one ⟨b2, base2, List.append (x.a.take x.n ++ [(bl.getD x.i z0).2.2.1]) sp, x.n + 1, cap, x.i + 1⟩ ⟨⟨by show x.i + 1 ≤ N; omega, h1, ?_, k1, k2⟩, ?_, ?_⟩
    · show cap ≤ (x.a.take x.n ++ [(bl.getD x.i z0).2.2.1] ++ sp).length
      simp; omega
    · show N - (x.i + 1) < N - x.i; omega
    ((conv => (arg 1; reduce)); with_reducible repeat' (first | exact Tr.yes_h | refine Tr.and_h ?_ ?_ | refine Tr.imp_h fun _ => ?_ | refine Tr.all_h fun _ => ?_ | refine Tr.lf_h ?_))
    all_goals (first | first | (show Region.lexB _ _ = true; kernel_rfl) | (show planned _ _ = true; kernel_rfl) | exact rfl | exact True.intro | ((try dsimp only [imp, C1, cBlk, cItm] at *); (try refine inR64 ?_ ?_) <;> (try simp only [List.length_set, List.length_append, List.length_take, List.length_drop]) <;> omega))
  · rename_i y hy x hx hc hf
    have hc := of_decide_eq_true hc
    obtain ⟨g1, g2, g3, g4, g5⟩ := hx
    have e := worns_skip (bl := bl) (i := x.i) (by omega) hf
    refine Stands.one ⟨x.ab, x.aq, x.a, x.n, x.c, x.i + 1⟩ ⟨⟨by show x.i + 1 ≤ N; omega, g2, g3, by rw [e]; exact g4, by rw [e]; exact g5⟩, ?_, ?_⟩
    · show N - (x.i + 1) < N - x.i; omega
    ((conv => (arg 1; reduce)); with_reducible repeat' (first | exact Tr.yes_h | refine Tr.and_h ?_ ?_ | refine Tr.imp_h fun _ => ?_ | refine Tr.all_h fun _ => ?_ | refine Tr.lf_h ?_))
    all_goals (first | first | (show Region.lexB _ _ = true; kernel_rfl) | (show planned _ _ = true; kernel_rfl) | exact rfl | exact True.intro | ((try dsimp only [imp, C1, cBlk, cItm] at *); (try refine inR64 ?_ ?_) <;> (try simp only [List.length_set, List.length_append, List.length_take, List.length_drop]) <;> omega))
  · rename_i y hy x hx hc
    refine Stands.one (0 : Nat) ⟨Nat.zero_le _, ?_⟩
    ((conv => (arg 1; reduce)); with_reducible repeat' (first | exact Tr.yes_h | refine Tr.and_h ?_ ?_ | refine Tr.imp_h fun _ => ?_ | refine Tr.all_h fun _ => ?_ | refine Tr.lf_h ?_))
    all_goals (first | first | (show Region.lexB _ _ = true; kernel_rfl) | (show planned _ _ = true; kernel_rfl) | exact rfl | exact True.intro | ((try dsimp only [imp, C1, cBlk, cItm] at *); (try refine inR64 ?_ ?_) <;> (try simp only [List.length_set, List.length_append, List.length_take, List.length_drop]) <;> omega))
  · rename_i y hy x hx hc j hj hd he
    obtain ⟨e1, e2, e6⟩ := R2.more hx hc hd
    have e5 := R2.new hx hc hd he
    refine Stands.one (Nat.succ j) ⟨e1, e2, ?_⟩
    ((conv => (arg 1; reduce)); with_reducible repeat' (first | exact Tr.yes_h | refine Tr.and_h ?_ ?_ | refine Tr.imp_h fun _ => ?_ | refine Tr.all_h fun _ => ?_ | refine Tr.lf_h ?_))
    all_goals first | (first | first | (show Region.lexB _ _ = true; kernel_rfl) | (show planned _ _ = true; kernel_rfl) | exact rfl | exact True.intro | ((try dsimp only [imp, C1, cBlk, cItm] at *); (try refine inR64 ?_ ?_) <;> (try simp only [List.length_set, List.length_append, List.length_take, List.length_drop]) <;> omega)) | exact e5 | exact e6 | exact e5.symm | exact e6.symm
  · rename_i y hy x hx hc j hj hd he
    obtain ⟨e1, e2, e6⟩ := R2.more hx hc hd
    have e5 := R2.old hx hc hd he
    refine Stands.one (Nat.succ j) ⟨e1, e2, ?_⟩
    ((conv => (arg 1; reduce)); with_reducible repeat' (first | exact Tr.yes_h | refine Tr.and_h ?_ ?_ | refine Tr.imp_h fun _ => ?_ | refine Tr.all_h fun _ => ?_ | refine Tr.lf_h ?_))
    all_goals first | (first | first | (show Region.lexB _ _ = true; kernel_rfl) | (show planned _ _ = true; kernel_rfl) | exact rfl | exact True.intro | ((try dsimp only [imp, C1, cBlk, cItm] at *); (try refine inR64 ?_ ?_) <;> (try simp only [List.length_set, List.length_append, List.length_take, List.length_drop]) <;> omega)) | exact e5 | exact e6 | exact e5.symm | exact e6.symm
  · rename_i y hy x hx hc j hj hd
    have e := R2.end hx hc hj hd
    refine Ends.one () trivial ?_
    ((conv => (arg 1; reduce)); with_reducible repeat' (first | exact Tr.yes_h | refine Tr.and_h ?_ ?_ | refine Tr.imp_h fun _ => ?_ | refine Tr.all_h fun _ => ?_ | refine Tr.lf_h ?_))
    all_goals first | (first | first | (show Region.lexB _ _ = true; kernel_rfl) | (show planned _ _ = true; kernel_rfl) | exact rfl | exact True.intro | ((try dsimp only [imp, C1, cBlk, cItm] at *); (try refine inR64 ?_ ?_) <;> (try simp only [List.length_set, List.length_append, List.length_take, List.length_drop]) <;> omega)) | exact e | exact e.symm
set_option maxHeartbeats 8000000 in
theorem rgap_ok0 (b q : Nat) (bl : List Blk) (N m : Nat) (hN : N ≤ bl.length) (hb : N < 524288) : Does (C := C1) Try.prog (.fn 18) [⟨b, q, 4, false, none, .rows 39 bl⟩] [.sl 0 0 N m, .nils]
     [⟨Unit, fun _ => True, fun _ => .int .i64 (gapv (([] : List Int).take 0 ++ worns (bl.take N))), fun y => [⟨b, q, 4, false, none, .rows 39 bl⟩]⟩] := by
  refine loc_fn (P := Try.prog) (E := ⟨[fcInts, fcInts0], [pcWithin], 58, []⟩) (L := [R1 1 (([] : List Int).take 0) bl N, R2 (([] : List Int).take 0 ++ worns (bl.take N))]) mix Try.func18 rfl (by kernel_rfl) (by kernel_rfl) rfl rfl ?_
  ((conv => (arg 1; reduce)); with_reducible repeat' (first | exact Tr.yes_h | refine Tr.and_h ?_ ?_ | refine Tr.imp_h fun _ => ?_ | refine Tr.all_h fun _ => ?_ | refine Tr.lf_h ?_))
  all_goals try first | (show Region.lexB _ _ = true; kernel_rfl) | (show planned _ _ = true; kernel_rfl) | exact rfl | exact True.intro
  all_goals try (have hh := R1.bds ‹(R1 1 (([] : List Int).take 0) bl N).inv _› ‹decide (_ < (N : Int)) = true› hN hb; first | exact hh.2 | exact hh.1.1 | exact hh.1.2.1 | exact hh.1.2.2)
  all_goals try (rename_i y hy x hx hc j hj hd; have hh := R2.bds hx hc hd (Nat.zero_le _) (by omega); first | exact hh.2 | exact hh.1.1 | exact hh.1.2.1 | exact hh.1.2.2)
  all_goals try (rename_i y hy x hx hc j hj hd he; have hh := R2.bds hx hc hd (Nat.zero_le _) (by omega); first | exact hh.2)
  all_goals try (exact hilo_r _ _)
  · rename_i y hy
    refine Stands.one ⟨y.1, y.2.1, y.2.2.1, 0, y.2.2.2, 0⟩ ⟨⟨Nat.zero_le _, Nat.zero_le _, hy, by simp [worns], by simp [worns]⟩, ?_⟩
    ((conv => (arg 1; reduce)); with_reducible repeat' (first | exact Tr.yes_h | refine Tr.and_h ?_ ?_ | refine Tr.imp_h fun _ => ?_ | refine Tr.all_h fun _ => ?_ | refine Tr.lf_h ?_))
    all_goals (first | first | (show Region.lexB _ _ = true; kernel_rfl) | (show planned _ _ = true; kernel_rfl) | exact rfl | exact True.intro | ((try dsimp only [imp, C1, cBlk, cItm] at *); (try refine inR64 ?_ ?_) <;> (try simp only [List.length_set, List.length_append, List.length_take, List.length_drop]) <;> omega))
  · rename_i y hy x hx hc hf bs
    rw [by3]
    exact R1.ask hx hc hN (Nat.zero_le _) hb (by omega)
  · rename_i y hy x hx hc hf bs b2 base2 sp cap h1 h2
    have hc := of_decide_eq_true hc
    obtain ⟨g1, g2, g3, g4, g5⟩ := hx
    obtain ⟨k1, k2⟩ := G1.good (sp := sp) (by omega) (by omega) g4 g5 hf
    refine Stands.one ⟨b2, base2, List.append (x.a.take x.n ++ [(bl.getD x.i z0).2.2.1]) sp, x.n + 1, cap, x.i + 1⟩ ⟨⟨by show x.i + 1 ≤ N; omega, h1, ?_, k1, k2⟩, ?_, ?_⟩
    · show cap ≤ (x.a.take x.n ++ [(bl.getD x.i z0).2.2.1] ++ sp).length
      simp; omega
    · show N - (x.i + 1) < N - x.i; omega
    ((conv => (arg 1; reduce)); with_reducible repeat' (first | exact Tr.yes_h | refine Tr.and_h ?_ ?_ | refine Tr.imp_h fun _ => ?_ | refine Tr.all_h fun _ => ?_ | refine Tr.lf_h ?_))
    all_goals (first | first | (show Region.lexB _ _ = true; kernel_rfl) | (show planned _ _ = true; kernel_rfl) | exact rfl | exact True.intro | ((try dsimp only [imp, C1, cBlk, cItm] at *); (try refine inR64 ?_ ?_) <;> (try simp only [List.length_set, List.length_append, List.length_take, List.length_drop]) <;> omega))
  · rename_i y hy x hx hc hf
    have hc := of_decide_eq_true hc
    obtain ⟨g1, g2, g3, g4, g5⟩ := hx
    have e := worns_skip (bl := bl) (i := x.i) (by omega) hf
    refine Stands.one ⟨x.ab, x.aq, x.a, x.n, x.c, x.i + 1⟩ ⟨⟨by show x.i + 1 ≤ N; omega, g2, g3, by rw [e]; exact g4, by rw [e]; exact g5⟩, ?_, ?_⟩
    · show N - (x.i + 1) < N - x.i; omega
    ((conv => (arg 1; reduce)); with_reducible repeat' (first | exact Tr.yes_h | refine Tr.and_h ?_ ?_ | refine Tr.imp_h fun _ => ?_ | refine Tr.all_h fun _ => ?_ | refine Tr.lf_h ?_))
    all_goals (first | first | (show Region.lexB _ _ = true; kernel_rfl) | (show planned _ _ = true; kernel_rfl) | exact rfl | exact True.intro | ((try dsimp only [imp, C1, cBlk, cItm] at *); (try refine inR64 ?_ ?_) <;> (try simp only [List.length_set, List.length_append, List.length_take, List.length_drop]) <;> omega))
  · rename_i y hy x hx hc
    refine Stands.one (0 : Nat) ⟨Nat.zero_le _, ?_⟩
    ((conv => (arg 1; reduce)); with_reducible repeat' (first | exact Tr.yes_h | refine Tr.and_h ?_ ?_ | refine Tr.imp_h fun _ => ?_ | refine Tr.all_h fun _ => ?_ | refine Tr.lf_h ?_))
    all_goals (first | first | (show Region.lexB _ _ = true; kernel_rfl) | (show planned _ _ = true; kernel_rfl) | exact rfl | exact True.intro | ((try dsimp only [imp, C1, cBlk, cItm] at *); (try refine inR64 ?_ ?_) <;> (try simp only [List.length_set, List.length_append, List.length_take, List.length_drop]) <;> omega))
  · rename_i y hy x hx hc j hj hd he
    obtain ⟨e1, e2, e6⟩ := R2.more hx hc hd
    have e5 := R2.new hx hc hd he
    refine Stands.one (Nat.succ j) ⟨e1, e2, ?_⟩
    ((conv => (arg 1; reduce)); with_reducible repeat' (first | exact Tr.yes_h | refine Tr.and_h ?_ ?_ | refine Tr.imp_h fun _ => ?_ | refine Tr.all_h fun _ => ?_ | refine Tr.lf_h ?_))
    all_goals first | (first | first | (show Region.lexB _ _ = true; kernel_rfl) | (show planned _ _ = true; kernel_rfl) | exact rfl | exact True.intro | ((try dsimp only [imp, C1, cBlk, cItm] at *); (try refine inR64 ?_ ?_) <;> (try simp only [List.length_set, List.length_append, List.length_take, List.length_drop]) <;> omega)) | exact e5 | exact e6 | exact e5.symm | exact e6.symm
  · rename_i y hy x hx hc j hj hd he
    obtain ⟨e1, e2, e6⟩ := R2.more hx hc hd
    have e5 := R2.old hx hc hd he
    refine Stands.one (Nat.succ j) ⟨e1, e2, ?_⟩
    ((conv => (arg 1; reduce)); with_reducible repeat' (first | exact Tr.yes_h | refine Tr.and_h ?_ ?_ | refine Tr.imp_h fun _ => ?_ | refine Tr.all_h fun _ => ?_ | refine Tr.lf_h ?_))
    all_goals first | (first | first | (show Region.lexB _ _ = true; kernel_rfl) | (show planned _ _ = true; kernel_rfl) | exact rfl | exact True.intro | ((try dsimp only [imp, C1, cBlk, cItm] at *); (try refine inR64 ?_ ?_) <;> (try simp only [List.length_set, List.length_append, List.length_take, List.length_drop]) <;> omega)) | exact e5 | exact e6 | exact e5.symm | exact e6.symm
  · rename_i y hy x hx hc j hj hd
    have e := R2.end hx hc hj hd
    refine Ends.one () trivial ?_
    ((conv => (arg 1; reduce)); with_reducible repeat' (first | exact Tr.yes_h | refine Tr.and_h ?_ ?_ | refine Tr.imp_h fun _ => ?_ | refine Tr.all_h fun _ => ?_ | refine Tr.lf_h ?_))
    all_goals first | (first | first | (show Region.lexB _ _ = true; kernel_rfl) | (show planned _ _ = true; kernel_rfl) | exact rfl | exact True.intro | ((try dsimp only [imp, C1, cBlk, cItm] at *); (try refine inR64 ?_ ?_) <;> (try simp only [List.length_set, List.length_append, List.length_take, List.length_drop]) <;> omega)) | exact e | exact e.symm
set_option maxHeartbeats 8000000 in
theorem rgap_0ok (fb fq : Nat) (fr : List Int) (F fm : Nat) (hF : F ≤ fr.length) (hf : F < 524288) : Does (C := C1) Try.prog (.fn 18) [⟨fb, fq, 1, false, none, .rows 3 fr⟩] [.nils, .sl 0 0 F fm]
     [⟨Unit, fun _ => True, fun _ => .int .i64 (gapv (fr.take F ++ worns (([] : List Blk).take 0))), fun y => [⟨fb, fq, 1, false, none, .rows 3 fr⟩]⟩] := by
  refine loc_fn (P := Try.prog) (E := ⟨[fcInts, fcInts0], [pcWithin], 58, []⟩) (L := [R1 1 (fr.take F) ([] : List Blk) 0, R2 (fr.take F ++ worns (([] : List Blk).take 0))]) mix Try.func18 rfl (by kernel_rfl) (by kernel_rfl) rfl rfl ?_
  ((conv => (arg 1; reduce)); with_reducible repeat' (first | exact Tr.yes_h | refine Tr.and_h ?_ ?_ | refine Tr.imp_h fun _ => ?_ | refine Tr.all_h fun _ => ?_ | refine Tr.lf_h ?_))
  all_goals try first | (show Region.lexB _ _ = true; kernel_rfl) | (show planned _ _ = true; kernel_rfl) | exact rfl | exact True.intro
  all_goals try (have hh := R1.bds ‹(R1 1 (fr.take F) ([] : List Blk) 0).inv _› ‹decide (_ < (0 : Int)) = true› (Nat.zero_le _) (by omega); first | exact hh.2 | exact hh.1.1 | exact hh.1.2.1 | exact hh.1.2.2)
  all_goals try (exfalso; have h9 : _ < (0 : Int) := of_decide_eq_true ‹decide (_ < (0 : Int)) = true›; omega)
  all_goals try (rename_i y hy x hx hc j hj hd; have hh := R2.bds hx hc hd hF (by omega); first | exact hh.2 | exact hh.1.1 | exact hh.1.2.1 | exact hh.1.2.2)
  all_goals try (rename_i y hy x hx hc j hj hd he; have hh := R2.bds hx hc hd hF (by omega); first | exact hh.2)
  all_goals try (exact hilo_r _ _)
  · exact ⟨hF, hf⟩
  · rename_i y hy
    refine Stands.one ⟨y.1, y.2.1, y.2.2.1, F, y.2.2.2, 0⟩ ⟨⟨Nat.zero_le _, hy.1, hy.2.1, ?_, ?_⟩, ?_⟩
    · rw [hy.2.2]; simp [worns]
    · simp [worns]; omega
    ((conv => (arg 1; reduce)); with_reducible repeat' (first | exact Tr.yes_h | refine Tr.and_h ?_ ?_ | refine Tr.imp_h fun _ => ?_ | refine Tr.all_h fun _ => ?_ | refine Tr.lf_h ?_))
    all_goals (first | first | (show Region.lexB _ _ = true; kernel_rfl) | (show planned _ _ = true; kernel_rfl) | exact rfl | exact True.intro | ((try dsimp only [imp, C1, cBlk, cItm] at *); (try refine inR64 ?_ ?_) <;> (try simp only [List.length_set, List.length_append, List.length_take, List.length_drop]) <;> omega))
  · rename_i y hy x hx hc
    refine Stands.one (0 : Nat) ⟨Nat.zero_le _, ?_⟩
    ((conv => (arg 1; reduce)); with_reducible repeat' (first | exact Tr.yes_h | refine Tr.and_h ?_ ?_ | refine Tr.imp_h fun _ => ?_ | refine Tr.all_h fun _ => ?_ | refine Tr.lf_h ?_))
    all_goals (first | first | (show Region.lexB _ _ = true; kernel_rfl) | (show planned _ _ = true; kernel_rfl) | exact rfl | exact True.intro | ((try dsimp only [imp, C1, cBlk, cItm] at *); (try refine inR64 ?_ ?_) <;> (try simp only [List.length_set, List.length_append, List.length_take, List.length_drop]) <;> omega))
  · rename_i y hy x hx hc j hj hd he
    obtain ⟨e1, e2, e6⟩ := R2.more hx hc hd
    have e5 := R2.new hx hc hd he
    refine Stands.one (Nat.succ j) ⟨e1, e2, ?_⟩
    ((conv => (arg 1; reduce)); with_reducible repeat' (first | exact Tr.yes_h | refine Tr.and_h ?_ ?_ | refine Tr.imp_h fun _ => ?_ | refine Tr.all_h fun _ => ?_ | refine Tr.lf_h ?_))
    all_goals first | (first | first | (show Region.lexB _ _ = true; kernel_rfl) | (show planned _ _ = true; kernel_rfl) | exact rfl | exact True.intro | ((try dsimp only [imp, C1, cBlk, cItm] at *); (try refine inR64 ?_ ?_) <;> (try simp only [List.length_set, List.length_append, List.length_take, List.length_drop]) <;> omega)) | exact e5 | exact e6 | exact e5.symm | exact e6.symm
  · rename_i y hy x hx hc j hj hd he
    obtain ⟨e1, e2, e6⟩ := R2.more hx hc hd
    have e5 := R2.old hx hc hd he
    refine Stands.one (Nat.succ j) ⟨e1, e2, ?_⟩
    ((conv => (arg 1; reduce)); with_reducible repeat' (first | exact Tr.yes_h | refine Tr.and_h ?_ ?_ | refine Tr.imp_h fun _ => ?_ | refine Tr.all_h fun _ => ?_ | refine Tr.lf_h ?_))
    all_goals first | (first | first | (show Region.lexB _ _ = true; kernel_rfl) | (show planned _ _ = true; kernel_rfl) | exact rfl | exact True.intro | ((try dsimp only [imp, C1, cBlk, cItm] at *); (try refine inR64 ?_ ?_) <;> (try simp only [List.length_set, List.length_append, List.length_take, List.length_drop]) <;> omega)) | exact e5 | exact e6 | exact e5.symm | exact e6.symm
  · rename_i y hy x hx hc j hj hd
    have e := R2.end hx hc hj hd
    refine Ends.one () trivial ?_
    ((conv => (arg 1; reduce)); with_reducible repeat' (first | exact Tr.yes_h | refine Tr.and_h ?_ ?_ | refine Tr.imp_h fun _ => ?_ | refine Tr.all_h fun _ => ?_ | refine Tr.lf_h ?_))
    all_goals first | (first | first | (show Region.lexB _ _ = true; kernel_rfl) | (show planned _ _ = true; kernel_rfl) | exact rfl | exact True.intro | ((try dsimp only [imp, C1, cBlk, cItm] at *); (try refine inR64 ?_ ?_) <;> (try simp only [List.length_set, List.length_append, List.length_take, List.length_drop]) <;> omega)) | exact e | exact e.symm
set_option maxHeartbeats 8000000 in
theorem rgap_00 : Does (C := C1) Try.prog (.fn 18) [] [.nils, .nils]
     [⟨Unit, fun _ => True, fun _ => .int .i64 (gapv (([] : List Int).take 0 ++ worns (([] : List Blk).take 0))), fun y => []⟩] := by
  refine loc_fn (P := Try.prog) (E := ⟨[fcInts, fcInts0], [pcWithin], 58, []⟩) (L := [R1 0 (([] : List Int).take 0) ([] : List Blk) 0, R2 (([] : List Int).take 0 ++ worns (([] : List Blk).take 0))]) mix Try.func18 rfl (by kernel_rfl) (by kernel_rfl) rfl rfl ?_
  ((conv => (arg 1; reduce)); with_reducible repeat' (first | exact Tr.yes_h | refine Tr.and_h ?_ ?_ | refine Tr.imp_h fun _ => ?_ | refine Tr.all_h fun _ => ?_ | refine Tr.lf_h ?_))
  all_goals try first | (show Region.lexB _ _ = true; kernel_rfl) | (show planned _ _ = true; kernel_rfl) | exact rfl | exact True.intro
  all_goals try (have hh := R1.bds ‹(R1 0 (([] : List Int).take 0) ([] : List Blk) 0).inv _› ‹decide (_ < (0 : Int)) = true› (Nat.zero_le _) (by omega); first | exact hh.2 | exact hh.1.1 | exact hh.1.2.1 | exact hh.1.2.2)
  all_goals try (exfalso; have h9 : _ < (0 : Int) := of_decide_eq_true ‹decide (_ < (0 : Int)) = true›; omega)
  all_goals try (rename_i y hy x hx hc j hj hd; have hh := R2.bds hx hc hd (Nat.zero_le _) (by omega); first | exact hh.2 | exact hh.1.1 | exact hh.1.2.1 | exact hh.1.2.2)
  all_goals try (rename_i y hy x hx hc j hj hd he; have hh := R2.bds hx hc hd (Nat.zero_le _) (by omega); first | exact hh.2)
  all_goals try (exact hilo_r _ _)
  · rename_i y hy
    refine Stands.one ⟨y.1, y.2.1, y.2.2.1, 0, y.2.2.2, 0⟩ ⟨⟨Nat.zero_le _, Nat.zero_le _, hy, by simp [worns], by simp [worns]⟩, ?_⟩
    ((conv => (arg 1; reduce)); with_reducible repeat' (first | exact Tr.yes_h | refine Tr.and_h ?_ ?_ | refine Tr.imp_h fun _ => ?_ | refine Tr.all_h fun _ => ?_ | refine Tr.lf_h ?_))
    all_goals (first | first | (show Region.lexB _ _ = true; kernel_rfl) | (show planned _ _ = true; kernel_rfl) | exact rfl | exact True.intro | ((try dsimp only [imp, C1, cBlk, cItm] at *); (try refine inR64 ?_ ?_) <;> (try simp only [List.length_set, List.length_append, List.length_take, List.length_drop]) <;> omega))
  · rename_i y hy x hx hc
    refine Stands.one (0 : Nat) ⟨Nat.zero_le _, ?_⟩
    ((conv => (arg 1; reduce)); with_reducible repeat' (first | exact Tr.yes_h | refine Tr.and_h ?_ ?_ | refine Tr.imp_h fun _ => ?_ | refine Tr.all_h fun _ => ?_ | refine Tr.lf_h ?_))
    all_goals (first | first | (show Region.lexB _ _ = true; kernel_rfl) | (show planned _ _ = true; kernel_rfl) | exact rfl | exact True.intro | ((try dsimp only [imp, C1, cBlk, cItm] at *); (try refine inR64 ?_ ?_) <;> (try simp only [List.length_set, List.length_append, List.length_take, List.length_drop]) <;> omega))
  · rename_i y hy x hx hc j hj hd he
    obtain ⟨e1, e2, e6⟩ := R2.more hx hc hd
    have e5 := R2.new hx hc hd he
    refine Stands.one (Nat.succ j) ⟨e1, e2, ?_⟩
    ((conv => (arg 1; reduce)); with_reducible repeat' (first | exact Tr.yes_h | refine Tr.and_h ?_ ?_ | refine Tr.imp_h fun _ => ?_ | refine Tr.all_h fun _ => ?_ | refine Tr.lf_h ?_))
    all_goals first | (first | first | (show Region.lexB _ _ = true; kernel_rfl) | (show planned _ _ = true; kernel_rfl) | exact rfl | exact True.intro | ((try dsimp only [imp, C1, cBlk, cItm] at *); (try refine inR64 ?_ ?_) <;> (try simp only [List.length_set, List.length_append, List.length_take, List.length_drop]) <;> omega)) | exact e5 | exact e6 | exact e5.symm | exact e6.symm
  · rename_i y hy x hx hc j hj hd he
    obtain ⟨e1, e2, e6⟩ := R2.more hx hc hd
    have e5 := R2.old hx hc hd he
    refine Stands.one (Nat.succ j) ⟨e1, e2, ?_⟩
    ((conv => (arg 1; reduce)); with_reducible repeat' (first | exact Tr.yes_h | refine Tr.and_h ?_ ?_ | refine Tr.imp_h fun _ => ?_ | refine Tr.all_h fun _ => ?_ | refine Tr.lf_h ?_))
    all_goals first | (first | first | (show Region.lexB _ _ = true; kernel_rfl) | (show planned _ _ = true; kernel_rfl) | exact rfl | exact True.intro | ((try dsimp only [imp, C1, cBlk, cItm] at *); (try refine inR64 ?_ ?_) <;> (try simp only [List.length_set, List.length_append, List.length_take, List.length_drop]) <;> omega)) | exact e5 | exact e6 | exact e5.symm | exact e6.symm
  · rename_i y hy x hx hc j hj hd
    have e := R2.end hx hc hj hd
    refine Ends.one () trivial ?_
    ((conv => (arg 1; reduce)); with_reducible repeat' (first | exact Tr.yes_h | refine Tr.and_h ?_ ?_ | refine Tr.imp_h fun _ => ?_ | refine Tr.all_h fun _ => ?_ | refine Tr.lf_h ?_))
    all_goals first | (first | first | (show Region.lexB _ _ = true; kernel_rfl) | (show planned _ _ = true; kernel_rfl) | exact rfl | exact True.intro | ((try dsimp only [imp, C1, cBlk, cItm] at *); (try refine inR64 ?_ ?_) <;> (try simp only [List.length_set, List.length_append, List.length_take, List.length_drop]) <;> omega)) | exact e | exact e.symm
end Go.Vi
