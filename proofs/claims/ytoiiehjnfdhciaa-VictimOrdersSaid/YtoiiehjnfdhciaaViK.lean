/-
  Round 21: the gap, no free ones given.
  Conditions: none.
-/
import Derived.Test.YtoiiehjnfdhciaaViJ
set_option maxRecDepth 100000
set_option linter.unusedVariables false
set_option linter.unusedSimpArgs false
namespace Go.Vi
open Go Go.Vx Go.Proofs

noncomputable def fcGap : Fc Try.prog C1 where
  tg := .fn 17
  X := (Nat × Nat × Nat × Nat) × (List Blk × Nat × Nat) × List Int × Nat × Nat
  args := fun (_, (_, N, m), _, F, fm) => [.sl 0 0 N m, .sl 1 0 F fm]
  mem := fun ((b, q, fb, fq), (bl, _, _), fr, _, _) => [⟨b, q, 4, false, none, .rows 27 bl⟩, ⟨fb, fq, 1, false, none, .rows 3 fr⟩]
  pre := fun (_, (bl, N, _), fr, F, _) => N ≤ bl.length ∧ F ≤ fr.length ∧ N < 524288 ∧ F < 524288
  alts := fun ((b, q, fb, fq), (bl, N, _), fr, F, _) => [⟨Unit, fun _ => True, fun _ => .int .i64 (gapv (fr.take F ++ worns (bl.take N))), fun y => [⟨b, q, 4, false, none, .rows 27 bl⟩, ⟨fb, fq, 1, false, none, .rows 3 fr⟩]⟩]
  mat vs m := match vs with
    | [.sl k _ n c, .sl j _ f g] => match nth m k with
      | ⟨b, q, _, _, _, .rows 27 l⟩ => match nth m j with
        | ⟨fb, fq, _, _, _, .rows 3 fr⟩ => some (((b, q, fb, fq), (l, n, c), fr, f, g), [k, j])
        | _ => none
      | _ => none
    | _ => none
  ok := fun ((_, _, _, _), (_, _, _), _, _, _) h => gap_ok _ _ _ _ _ _ _ _ _ _ h.1 h.2.1 h.2.2.1 h.2.2.2
theorem G1.bds {p : Nat} {fr : List Int} {bl : List Blk} {N : Nat} {x : Gx} (hx : (G1 p fr bl N).inv x) (hc : decide ((x.i : Int) < (N : Int)) = true) (hN : N ≤ bl.length) (hb : N < 524288) : (0 ≤ (x.i : Int) ∧ (x.i : Int) < (N : Int) ∧ (x.i : Int).toNat + 0 < bl.length) ∧ inR .i64 ((x.i : Int) + 1) := by
  have hc := of_decide_eq_true hc
  exact ⟨by omega, inR64 (by omega) (by omega)⟩
theorem G1n.bds {bl : List Blk} {N : Nat} {i : Nat} (hx : (G1n bl N).inv i) (hc : decide ((i : Int) < (N : Int)) = true) (hN : N ≤ bl.length) (hb : N < 524288) : (0 ≤ (i : Int) ∧ (i : Int) < (N : Int) ∧ (i : Int).toNat + 0 < bl.length) ∧ inR .i64 ((i : Int) + 1) := by
  have hc := of_decide_eq_true hc
  exact ⟨by omega, inR64 (by omega) (by omega)⟩
theorem G1n.fin {bl : List Blk} {N i : Nat} (h : (G1n bl N).inv i) (hc : decide ((i : Int) < (N : Int)) = false) : ([] : List Int).take 0 ++ worns (bl.take N) = [] := by
  have hc := of_decide_eq_false hc
  obtain ⟨g1, g2⟩ := h
  have e : i = N := by omega
  rw [e] at g2
  exact g2
theorem G2n.no {p : Nat} {fr : List Int} {bl : List Blk} {N : Nat} {x : Gx} {z : Unit} (hx : (G1 p fr bl N).inv x) (hc : decide ((x.i : Int) < (N : Int)) = false) (hz : (G2n (fr ++ worns (bl.take N))).inv z) (hd : decide ((0 : Int) < (x.n : Int)) = true) : False := by
  obtain ⟨k1, k2, k3, k4⟩ := G1.fin hx hc
  have hz : fr ++ worns (bl.take N) = [] := hz
  have hd := of_decide_eq_true hd
  rw [hz] at k1
  have : ([] : List Int).length = 0 := rfl
  omega
theorem G2n.no' {p : Nat} {fr : List Int} {bl : List Blk} {N : Nat} {x : Gx} {z : Unit} (hx : (G1 p fr bl N).inv x) (hc : decide ((x.i : Int) < (N : Int)) = false) (hz : (G2n (fr ++ worns (bl.take N))).inv z) (hd : decide ((x.n : Int) = 0) = false) : False := by
  obtain ⟨k1, k2, k3, k4⟩ := G1.fin hx hc
  have hz : fr ++ worns (bl.take N) = [] := hz
  have hd := of_decide_eq_false hd
  rw [hz] at k1
  have : ([] : List Int).length = 0 := rfl
  omega
set_option maxHeartbeats 8000000 in
theorem gap_ok0 (b q : Nat) (bl : List Blk) (N m : Nat) (hN : N ≤ bl.length) (hb : N < 524288) :
    Does (C := C1) Try.prog (.fn 17) [⟨b, q, 4, false, none, .rows 27 bl⟩] [.sl 0 0 N m, .nils]
     [⟨Unit, fun _ => True, fun _ => .int .i64 (gapv (([] : List Int).take 0 ++ worns (bl.take N))), fun y => [⟨b, q, 4, false, none, .rows 27 bl⟩]⟩] := by
  refine loc_fn (P := Try.prog) (E := ⟨[fc_clonei, fc_clonei0], [pc_mx, pc_mn], 49, []⟩) (L := [G1n bl N, G1 1 (([] : List Int).take 0) bl N, G2n (([] : List Int).take 0 ++ worns (bl.take N)), G2 1 (([] : List Int).take 0 ++ worns (bl.take N))]) mix Try.func17 rfl (by kernel_rfl) (by kernel_rfl) rfl rfl ?_
  ((conv => (arg 1; reduce)); with_reducible repeat' (first | exact Tr.yes_h | refine Tr.and_h ?_ ?_ | refine Tr.imp_h fun _ => ?_ | refine Tr.all_h fun _ => ?_ | refine Tr.lf_h ?_))
  all_goals try first | (show Region.lexB _ _ = true; kernel_rfl) | (show planned _ _ = true; kernel_rfl) | exact rfl | exact True.intro
  all_goals try exact absurd ‹(1 : Nat) = 0› (by decide)
  all_goals try exact absurd ‹decide ((0 : Int) < 0) = true› (by decide)
  all_goals try exact absurd ‹decide ((0 : Int) = 0) = false› (by decide)
  all_goals try (exfalso; have h9 : _ < (0 : Int) := of_decide_eq_true ‹decide (_ < (0 : Int)) = true›; omega)
  all_goals try (rename_i u hu x hx hc z hz hd; exact (G2n.no (p := 1) hx hc hz hd).elim)
  all_goals try (rename_i u hu x hx hc z hz hd he; exact (G2n.no' (p := 1) hx hc hz he).elim)
  all_goals try (rename_i y hy x hx hc z hz hd; have hh := G2.bds hx hc hz hd (Nat.zero_le _) (by omega); first | exact hh.2 | exact hh.1.1 | exact hh.1.2.1 | exact hh.1.2.2)
  all_goals try (first | exact (G1.bds ‹(G1 1 (([] : List Int).take 0) bl N).inv _› ‹decide (_ < (N : Int)) = true› hN hb).2 | exact (G1.bds ‹(G1 1 (([] : List Int).take 0) bl N).inv _› ‹decide (_ < (N : Int)) = true› hN hb).1.1 | exact (G1.bds ‹(G1 1 (([] : List Int).take 0) bl N).inv _› ‹decide (_ < (N : Int)) = true› hN hb).1.2.1 | exact (G1.bds ‹(G1 1 (([] : List Int).take 0) bl N).inv _› ‹decide (_ < (N : Int)) = true› hN hb).1.2.2)
  all_goals try (first | exact (G1n.bds ‹(G1n bl N).inv _› ‹decide (_ < (N : Int)) = true› hN hb).2 | exact (G1n.bds ‹(G1n bl N).inv _› ‹decide (_ < (N : Int)) = true› hN hb).1.1 | exact (G1n.bds ‹(G1n bl N).inv _› ‹decide (_ < (N : Int)) = true› hN hb).1.2.1 | exact (G1n.bds ‹(G1n bl N).inv _› ‹decide (_ < (N : Int)) = true› hN hb).1.2.2)
  · refine Stands.one (0 : Nat) ⟨⟨Nat.zero_le _, rfl⟩, ?_⟩
    ((conv => (arg 1; reduce)); with_reducible repeat' (first | exact Tr.yes_h | refine Tr.and_h ?_ ?_ | refine Tr.imp_h fun _ => ?_ | refine Tr.all_h fun _ => ?_ | refine Tr.lf_h ?_))
    all_goals (first | first | (show Region.lexB _ _ = true; kernel_rfl) | (show planned _ _ = true; kernel_rfl) | exact rfl | exact True.intro | ((try dsimp only [imp, C1, cBlk, cItm] at *); (try refine inR64 ?_ ?_) <;> (try simp only [List.length_set, List.length_append, List.length_take, List.length_drop]) <;> omega))
  · rw [by3]; exact ⟨Nat.le_refl 1, by decide⟩
  · rename_i u hu i hi hc cb hf bs h01 b2 sp
    have hc := of_decide_eq_true hc
    obtain ⟨g1, g2⟩ := hi
    change Nat at i
    have g2 : worns (bl.take i) = [] := g2
    have e := worns_snoc (bl := bl) (i := i) (by omega)
    have hf : nf (bl.getD i z0) = true := hf
    rw [g2, if_pos hf] at e
    refine Stands.next (Stands.one ⟨b2, 0, List.append [(bl.getD i z0).2.2.1] sp, 1, 1 + sp.length, i + 1⟩ ⟨⟨by show i + 1 ≤ N; omega, Nat.le_add_right _ _, by show 1 + sp.length ≤ (_ :: sp).length; simp; omega, ?_, ?_⟩, ?_, ?_⟩)
    · show List.take 1 (_ :: sp) = _; rw [e]; simp
    · show 1 = _; rw [e]; simp
    · show N - (i + 1) < N - i; omega
    ((conv => (arg 1; reduce)); with_reducible repeat' (first | exact Tr.yes_h | refine Tr.and_h ?_ ?_ | refine Tr.imp_h fun _ => ?_ | refine Tr.all_h fun _ => ?_ | refine Tr.lf_h ?_))
    all_goals (first | first | (show Region.lexB _ _ = true; kernel_rfl) | (show planned _ _ = true; kernel_rfl) | exact rfl | exact True.intro | ((try dsimp only [imp, C1, cBlk, cItm] at *); (try refine inR64 ?_ ?_) <;> (try simp only [List.length_set, List.length_append, List.length_take, List.length_drop]) <;> omega))
  · rename_i u hu i hi hc cb hf
    have hc := of_decide_eq_true hc
    obtain ⟨g1, g2⟩ := hi
    change Nat at i
    have e := worns_skip (bl := bl) (i := i) (by omega) hf
    refine Stands.one (i + 1) ⟨⟨by show i + 1 ≤ N; omega, e.trans g2⟩, ?_, ?_⟩
    · show N - (i + 1) < N - i; omega
    ((conv => (arg 1; reduce)); with_reducible repeat' (first | exact Tr.yes_h | refine Tr.and_h ?_ ?_ | refine Tr.imp_h fun _ => ?_ | refine Tr.all_h fun _ => ?_ | refine Tr.lf_h ?_))
    all_goals (first | first | (show Region.lexB _ _ = true; kernel_rfl) | (show planned _ _ = true; kernel_rfl) | exact rfl | exact True.intro | ((try dsimp only [imp, C1, cBlk, cItm] at *); (try refine inR64 ?_ ?_) <;> (try simp only [List.length_set, List.length_append, List.length_take, List.length_drop]) <;> omega))
  · rename_i u hu i hi hc
    refine Stands.one () ⟨G1n.fin hi hc, ?_⟩
    ((conv => (arg 1; reduce)); with_reducible repeat' (first | exact Tr.yes_h | refine Tr.and_h ?_ ?_ | refine Tr.imp_h fun _ => ?_ | refine Tr.all_h fun _ => ?_ | refine Tr.lf_h ?_))
    all_goals (first | first | (show Region.lexB _ _ = true; kernel_rfl) | (show planned _ _ = true; kernel_rfl) | exact rfl | exact True.intro | ((try dsimp only [imp, C1, cBlk, cItm] at *); (try refine inR64 ?_ ?_) <;> (try simp only [List.length_set, List.length_append, List.length_take, List.length_drop]) <;> omega))
  · rename_i u hu i hi hc z hz hd he
    refine Ends.one () trivial ?_
    have e : gapv (([] : List Int).take 0 ++ worns (bl.take N)) = 0 := by rw [G1n.fin hi hc]; rfl
    ((conv => (arg 1; reduce)); with_reducible repeat' (first | exact Tr.yes_h | refine Tr.and_h ?_ ?_ | refine Tr.imp_h fun _ => ?_ | refine Tr.all_h fun _ => ?_ | refine Tr.lf_h ?_))
    all_goals first | (first | first | (show Region.lexB _ _ = true; kernel_rfl) | (show planned _ _ = true; kernel_rfl) | exact rfl | exact True.intro | ((try dsimp only [imp, C1, cBlk, cItm] at *); (try refine inR64 ?_ ?_) <;> (try simp only [List.length_set, List.length_append, List.length_take, List.length_drop]) <;> omega)) | exact e.symm | exact e
  · rename_i u hu i hi hc z hz hd he
    refine Ends.one () trivial ?_
    have e : gapv (([] : List Int).take 0 ++ worns (bl.take N)) = 0 := by rw [G1n.fin hi hc]; rfl
    ((conv => (arg 1; reduce)); with_reducible repeat' (first | exact Tr.yes_h | refine Tr.and_h ?_ ?_ | refine Tr.imp_h fun _ => ?_ | refine Tr.all_h fun _ => ?_ | refine Tr.lf_h ?_))
    all_goals first | (first | first | (show Region.lexB _ _ = true; kernel_rfl) | (show planned _ _ = true; kernel_rfl) | exact rfl | exact True.intro | ((try dsimp only [imp, C1, cBlk, cItm] at *); (try refine inR64 ?_ ?_) <;> (try simp only [List.length_set, List.length_append, List.length_take, List.length_drop]) <;> omega)) | exact e.symm | exact e
  · rename_i y hy x hx hc cb hf bs
    have hc := of_decide_eq_true hc
    obtain ⟨g1, g2, g3, g4, g5⟩ := hx
    have := worns_len bl x.i
    rw [List.length_append] at g5
    have h5 : (([] : List Int).take 0).length ≤ 0 := by rw [List.length_take]; omega
    rw [by3]
    exact ⟨g2, by rw [Nat.zero_add]; exact g3, Nat.le_refl 1, by omega⟩
  · rename_i y hy x hx hc cb hf bs b2 base2 sp cap h1 h2
    have hc := of_decide_eq_true hc
    obtain ⟨g1, g2, g3, g4, g5⟩ := hx
    obtain ⟨k1, k2⟩ := G1.good (sp := sp) (by omega) (by omega) g4 g5 hf
    refine Stands.next (Stands.one ⟨b2, base2, List.append (x.a.take x.n ++ [(bl.getD x.i z0).2.2.1]) sp, x.n + 1, cap, x.i + 1⟩ ⟨⟨by show x.i + 1 ≤ N; omega, h1, ?_, k1, k2⟩, ?_, ?_⟩)
    · show cap ≤ (x.a.take x.n ++ [(bl.getD x.i z0).2.2.1] ++ sp).length
      simp; omega
    · show N - (x.i + 1) < N - x.i; omega
    ((conv => (arg 1; reduce)); with_reducible repeat' (first | exact Tr.yes_h | refine Tr.and_h ?_ ?_ | refine Tr.imp_h fun _ => ?_ | refine Tr.all_h fun _ => ?_ | refine Tr.lf_h ?_))
    all_goals (first | first | (show Region.lexB _ _ = true; kernel_rfl) | (show planned _ _ = true; kernel_rfl) | exact rfl | exact True.intro | ((try dsimp only [imp, C1, cBlk, cItm] at *); (try refine inR64 ?_ ?_) <;> (try simp only [List.length_set, List.length_append, List.length_take, List.length_drop]) <;> omega))
  · rename_i y hy x hx hc cb hf
    have hc := of_decide_eq_true hc
    obtain ⟨g1, g2, g3, g4, g5⟩ := hx
    have e := worns_skip (bl := bl) (i := x.i) (by omega) hf
    refine Stands.next (Stands.one ⟨x.ab, x.aq, x.a, x.n, x.c, x.i + 1⟩ ⟨⟨by show x.i + 1 ≤ N; omega, g2, g3, by rw [e]; exact g4, by rw [e]; exact g5⟩, ?_, ?_⟩)
    · show N - (x.i + 1) < N - x.i; omega
    ((conv => (arg 1; reduce)); with_reducible repeat' (first | exact Tr.yes_h | refine Tr.and_h ?_ ?_ | refine Tr.imp_h fun _ => ?_ | refine Tr.all_h fun _ => ?_ | refine Tr.lf_h ?_))
    all_goals (first | first | (show Region.lexB _ _ = true; kernel_rfl) | (show planned _ _ = true; kernel_rfl) | exact rfl | exact True.intro | ((try dsimp only [imp, C1, cBlk, cItm] at *); (try refine inR64 ?_ ?_) <;> (try simp only [List.length_set, List.length_append, List.length_take, List.length_drop]) <;> omega))
  · rename_i y hy x hx hc
    obtain ⟨k1, k2, k3, k4⟩ := G1.fin hx hc
    refine Stands.next (Stands.one (x.a, 0) ⟨⟨Nat.zero_le _, by show _ ≤ x.a.length; omega, ?_⟩, ?_⟩)
    · rw [← k1, k4]; simp
    ((conv => (arg 1; reduce)); with_reducible repeat' (first | exact Tr.yes_h | refine Tr.and_h ?_ ?_ | refine Tr.imp_h fun _ => ?_ | refine Tr.all_h fun _ => ?_ | refine Tr.lf_h ?_))
    all_goals (first | first | (show Region.lexB _ _ = true; kernel_rfl) | (show planned _ _ = true; kernel_rfl) | exact rfl | exact True.intro | ((try dsimp only [imp, C1, cBlk, cItm] at *); (try refine inR64 ?_ ?_) <;> (try simp only [List.length_set, List.length_append, List.length_take, List.length_drop]) <;> omega))
  · rename_i y hy x hx hc z hz hd he
    have hz : ([] : List Int).take 0 ++ worns (bl.take N) = [] := hz
    refine Ends.one () trivial ?_
    have e : gapv (([] : List Int).take 0 ++ worns (bl.take N)) = 0 := by rw [hz]; rfl
    ((conv => (arg 1; reduce)); with_reducible repeat' (first | exact Tr.yes_h | refine Tr.and_h ?_ ?_ | refine Tr.imp_h fun _ => ?_ | refine Tr.all_h fun _ => ?_ | refine Tr.lf_h ?_))
    all_goals first | (first | first | (show Region.lexB _ _ = true; kernel_rfl) | (show planned _ _ = true; kernel_rfl) | exact rfl | exact True.intro | ((try dsimp only [imp, C1, cBlk, cItm] at *); (try refine inR64 ?_ ?_) <;> (try simp only [List.length_set, List.length_append, List.length_take, List.length_drop]) <;> omega)) | exact e.symm | exact e
  · rename_i y hy x hx hc z hz hd
    obtain ⟨k1, k2, k3, k4⟩ := G1.fin hx hc
    obtain ⟨h1, h2, h3⟩ := hz
    have hd := of_decide_eq_true hd
    refine Stands.next (Stands.one (z.1.set z.2 (cl (z.1.getD z.2 0)), z.2 + 1) ⟨⟨by show z.2 + 1 ≤ _; omega, by rw [List.length_set]; exact h2, g2_step (by omega) h3⟩, ?_, ?_⟩)
    · show _ - (z.2 + 1) < _ - z.2; omega
    ((conv => (arg 1; reduce)); with_reducible repeat' (first | exact Tr.yes_h | refine Tr.and_h ?_ ?_ | refine Tr.imp_h fun _ => ?_ | refine Tr.all_h fun _ => ?_ | refine Tr.lf_h ?_))
    all_goals (first | first | (show Region.lexB _ _ = true; kernel_rfl) | (show planned _ _ = true; kernel_rfl) | exact rfl | exact True.intro | ((try dsimp only [imp, C1, cBlk, cItm] at *); (try refine inR64 ?_ ?_) <;> (try simp only [List.length_set, List.length_append, List.length_take, List.length_drop]) <;> omega))
  · rename_i y hy x hx hc z hz hd he
    obtain ⟨k1, k2, k3, k4⟩ := G1.fin hx hc
    have he : (x.n : Int) = 0 := of_decide_eq_true he
    refine Ends.one () trivial ?_
    have e : gapv (([] : List Int).take 0 ++ worns (bl.take N)) = 0 := by unfold gapv; rw [if_pos (by omega)]
    ((conv => (arg 1; reduce)); with_reducible repeat' (first | exact Tr.yes_h | refine Tr.and_h ?_ ?_ | refine Tr.imp_h fun _ => ?_ | refine Tr.all_h fun _ => ?_ | refine Tr.lf_h ?_))
    all_goals first | (first | first | (show Region.lexB _ _ = true; kernel_rfl) | (show planned _ _ = true; kernel_rfl) | exact rfl | exact True.intro | ((try dsimp only [imp, C1, cBlk, cItm] at *); (try refine inR64 ?_ ?_) <;> (try simp only [List.length_set, List.length_append, List.length_take, List.length_drop]) <;> omega)) | exact e.symm | exact e
  · rename_i y hy x hx hc z hz hd he
    obtain ⟨k1, k2, k3, k4⟩ := G1.fin hx hc
    obtain ⟨h1, h2, h3⟩ := hz
    have he : ¬ (x.n : Int) = 0 := of_decide_eq_false he
    have := worns_len bl N
    have h5 : (([] : List Int).take 0).length ≤ 0 := by rw [List.length_take]; omega
    have k5 := k1; rw [List.length_append] at k5
    exact ⟨by show 0 < x.n; omega, by show x.n ≤ z.1.length; omega, by show x.n < _; omega⟩
  · rename_i y hy x hx hc z hz hd he
    obtain ⟨k1, k2, k3, k4⟩ := G1.fin hx hc
    obtain ⟨h1, h2, h3⟩ := hz
    have he : ¬ (x.n : Int) = 0 := of_decide_eq_false he
    have := worns_len bl N
    have h5 : (([] : List Int).take 0).length ≤ 0 := by rw [List.length_take]; omega
    have k5 := k1; rw [List.length_append] at k5
    exact ⟨by show 0 < x.n; omega, by show x.n ≤ z.1.length; omega, by show x.n < _; omega⟩
  · rename_i y hy x hx hc z hz hd he
    obtain ⟨k1, k2, k3, k4⟩ := G1.fin hx hc
    obtain ⟨h1, h2, h3⟩ := hz
    have he : ¬ (x.n : Int) = 0 := of_decide_eq_false he
    have hd := of_decide_eq_false hd
    have h3 := gap_end (by omega) h3
    rw [k1, h3]
    obtain ⟨v1, v2, v3⟩ := gap_val (al := ([] : List Int).take 0 ++ worns (bl.take N)) (by omega)
    exact inR64 v2 v3
  · rename_i y hy x hx hc z hz hd he
    obtain ⟨k1, k2, k3, k4⟩ := G1.fin hx hc
    obtain ⟨h1, h2, h3⟩ := hz
    have he : ¬ (x.n : Int) = 0 := of_decide_eq_false he
    have hd := of_decide_eq_false hd
    have h3 := gap_end (by omega) h3
    obtain ⟨v1, v2, v3⟩ := gap_val (al := ([] : List Int).take 0 ++ worns (bl.take N)) (by omega)
    have e : mxI (z.1.take x.n) - mnI (z.1.take x.n) = gapv (([] : List Int).take 0 ++ worns (bl.take N)) := by rw [k1, h3]; exact v1
    refine Ends.one () trivial ?_
    ((conv => (arg 1; reduce)); with_reducible repeat' (first | exact Tr.yes_h | refine Tr.and_h ?_ ?_ | refine Tr.imp_h fun _ => ?_ | refine Tr.all_h fun _ => ?_ | refine Tr.lf_h ?_))
    all_goals first | (first | first | (show Region.lexB _ _ = true; kernel_rfl) | (show planned _ _ = true; kernel_rfl) | exact rfl | exact True.intro | ((try dsimp only [imp, C1, cBlk, cItm] at *); (try refine inR64 ?_ ?_) <;> (try simp only [List.length_set, List.length_append, List.length_take, List.length_drop]) <;> omega)) | exact e | exact e.symm

noncomputable def fcGap0 : Fc Try.prog C1 where
  tg := .fn 17
  X := Nat × Nat × List Blk × Nat × Nat
  args := fun (_, _, _, N, m) => [.sl 0 0 N m, .nils]
  mem := fun (b, q, bl, _, _) => [⟨b, q, 4, false, none, .rows 27 bl⟩]
  pre := fun (_, _, bl, N, _) => N ≤ bl.length ∧ N < 524288
  alts := fun (b, q, bl, N, _) => [⟨Unit, fun _ => True, fun _ => .int .i64 (gapv (([] : List Int).take 0 ++ worns (bl.take N))), fun y => [⟨b, q, 4, false, none, .rows 27 bl⟩]⟩]
  mat vs m := match vs with
    | [.sl k _ n c, .nils] => match nth m k with
      | ⟨b, q, _, _, _, .rows 27 l⟩ => some ((b, q, l, n, c), [k])
      | _ => none
    | _ => none
  ok := fun (_, _, _, _, _) h => gap_ok0 _ _ _ _ _ h.1 h.2
theorem gap_nil : Does (C := C1) Try.prog (.fn 17) [] [.nils, .nils] [⟨Unit, fun _ => True, fun _ => .int .i64 0, fun y => []⟩] := by
  refine loc_fn (P := Try.prog) (E := ⟨[fc_clonei, fc_clonei0], [pc_mx, pc_mn], 49, []⟩) (L := [G1n [] 0, G2n []]) mix Try.func17 rfl (by kernel_rfl) (by kernel_rfl) rfl rfl ?_
  ((conv => (arg 1; reduce)); with_reducible repeat' (first | exact Tr.yes_h | refine Tr.and_h ?_ ?_ | refine Tr.imp_h fun _ => ?_ | refine Tr.all_h fun _ => ?_ | refine Tr.lf_h ?_))
  all_goals try first | (show Region.lexB _ _ = true; kernel_rfl) | (show planned _ _ = true; kernel_rfl) | exact rfl | exact True.intro
  all_goals try exact absurd ‹decide ((0 : Int) < 0) = true› (by decide)
  all_goals try exact absurd ‹decide ((0 : Int) = 0) = false› (by decide)
  all_goals try (exfalso; have h9 : _ < (0 : Int) := of_decide_eq_true ‹decide (_ < (0 : Int)) = true›; omega)
  · refine Stands.one (0 : Nat) ⟨⟨Nat.zero_le _, rfl⟩, ?_⟩
    ((conv => (arg 1; reduce)); with_reducible repeat' (first | exact Tr.yes_h | refine Tr.and_h ?_ ?_ | refine Tr.imp_h fun _ => ?_ | refine Tr.all_h fun _ => ?_ | refine Tr.lf_h ?_))
    all_goals (first | first | (show Region.lexB _ _ = true; kernel_rfl) | (show planned _ _ = true; kernel_rfl) | exact rfl | exact True.intro | ((try dsimp only [imp, C1, cBlk, cItm] at *); (try refine inR64 ?_ ?_) <;> (try simp only [List.length_set, List.length_append, List.length_take, List.length_drop]) <;> omega))
  · refine Stands.one () ⟨rfl, ?_⟩
    ((conv => (arg 1; reduce)); with_reducible repeat' (first | exact Tr.yes_h | refine Tr.and_h ?_ ?_ | refine Tr.imp_h fun _ => ?_ | refine Tr.all_h fun _ => ?_ | refine Tr.lf_h ?_))
    all_goals (first | first | (show Region.lexB _ _ = true; kernel_rfl) | (show planned _ _ = true; kernel_rfl) | exact rfl | exact True.intro | ((try dsimp only [imp, C1, cBlk, cItm] at *); (try refine inR64 ?_ ?_) <;> (try simp only [List.length_set, List.length_append, List.length_take, List.length_drop]) <;> omega))
  · refine Ends.one () trivial ?_
    ((conv => (arg 1; reduce)); with_reducible repeat' (first | exact Tr.yes_h | refine Tr.and_h ?_ ?_ | refine Tr.imp_h fun _ => ?_ | refine Tr.all_h fun _ => ?_ | refine Tr.lf_h ?_))
    all_goals (first | first | (show Region.lexB _ _ = true; kernel_rfl) | (show planned _ _ = true; kernel_rfl) | exact rfl | exact True.intro | ((try dsimp only [imp, C1, cBlk, cItm] at *); (try refine inR64 ?_ ?_) <;> (try simp only [List.length_set, List.length_append, List.length_take, List.length_drop]) <;> omega))
noncomputable def fcGap00 : Fc Try.prog C1 where
  tg := .fn 17
  X := Unit
  args := fun _ => [.nils, .nils]
  mem := fun _ => []
  pre := fun _ => True
  alts := fun _ => [⟨Unit, fun _ => True, fun _ => .int .i64 0, fun y => []⟩]
  mat vs m := match vs with
    | [.nils, .nils] => some ((), [])
    | _ => none
  ok := fun _ _ => gap_nil
end Go.Vi
