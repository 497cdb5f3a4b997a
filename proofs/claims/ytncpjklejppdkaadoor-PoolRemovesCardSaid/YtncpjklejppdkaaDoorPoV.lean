/-
  Round 17: PoolRemoves, what it computes where a slice is nil.
  Conditions: none.
-/
import Derived.Test.YtncpjklejppdkaaDoorPoT
set_option maxRecDepth 100000
set_option linter.unusedVariables false
set_option linter.unusedSimpArgs false
namespace Go.Vx
open Go Go.Proofs

set_option maxHeartbeats 4000000 in
theorem rems_sn (b0 q0 : Nat) (worn : List Int) (N m0 : Nat) (hN : N ≤ worn.length) :
    Tells (C := C0) Tryd.prog (.fn 4) [⟨b0, q0, 1, false, none, .rows 3 worn⟩] [.sl 0 0 N m0, .nils] (.bool .t) := by
  refine loc_pc (P := Tryd.prog) (E := ⟨[fcNew, fcAdd, fcAdd0, fcTake, fcTake0, fcRemv, fcRemv0], [pcFirst, pcPlen, pcPlen0, pcHas, pcHas0], 139, [(17, [2], [.p 0, .p 1, .p 3, .p 4, .p 5, .p 6, .e 2, .p 7])]⟩)
    (L := [L1a N, L1b 1 worn N, L2a 1 N 0, L2b 1 worn N 0, L3a N, L3b 1 worn N, L4a N, L4b 1 worn N]) mix Tryd.func4 rfl (by kernel_rfl) (by kernel_rfl) rfl rfl ?_
  ((conv => (arg 1; reduce)); with_reducible repeat' (first | exact Tr.yes_h | refine Tr.and_h ?_ ?_ | refine Tr.imp_h fun _ => ?_ | refine Tr.all_h fun _ => ?_ | refine Tr.lf_h ?_))
  all_goals try first | (show Region.lexB _ _ = true; kernel_rfl) | (show planned _ _ = true; kernel_rfl) | exact rfl | exact True.intro
  all_goals try (exfalso; exact absurd ‹decide ((0 : Int) < 0) = true› (by decide))
  all_goals try (exfalso; have h3 : _ < (0 : Int) := of_decide_eq_true ‹decide (_ < (0 : Int)) = true›; omega)
  -- states that do not go together
  all_goals try (exfalso; have h1 := L2a_d ‹(L2a 1 N 0).inv _›; have h2 := L1b_d ‹(L1b 1 worn N).inv _›; omega)
  all_goals try (exfalso; have h1 := L3a_d ‹(L3a N).inv _›; have h2 := L2b_d ‹(L2b 1 worn N 0).inv _›; omega)
  all_goals try (exfalso; have h1 := L2a_d ‹(L2a 1 N 0).inv _›; have h2 := L3b_d ‹(L3b 1 worn N).inv _›; omega)
  all_goals try (exfalso; have h1 := L4a_d ‹(L4a N).inv _›; have h2 := L3b_d ‹(L3b 1 worn N).inv _›; omega)
  all_goals try (exfalso; have h1 := L3a_d ‹(L3a N).inv _›; have h2 := L4b_d ‹(L4b 1 worn N).inv _›; omega)
  all_goals try (exfalso; have h2 := L2b_d ‹(L2b 1 worn N 0).inv _›; have h3 : ¬ ((0 : Int) < (N : Int)) := of_decide_eq_false ‹decide ((0 : Int) < (N : Int)) = false›; omega)
  all_goals try exact (mask63 _).1
  all_goals try exact Int.lt_of_le_of_lt (mask63 _).2 (by decide)
  all_goals try exact Nat.lt_of_lt_of_eq (mask_nat _) (L2a_d ‹(L2a 1 N 0).inv _›).2.2.2.1.symm
  all_goals try exact Nat.lt_of_lt_of_eq (mask_nat _) (L2b_d ‹(L2b 1 worn N 0).inv _›).2.2.2.2.2.2.2.symm
  all_goals try (have h3 : (0 : Int) < _ := of_decide_eq_true ‹decide ((0 : Int) < (N : Int)) = true›; (first | omega | (simp only [List.length_set, List.length_replicate]; omega)))
  all_goals try (have h1 := L1b_d ‹(L1b 1 worn N).inv _›; have h3 : _ < (N : Int) := of_decide_eq_true ‹decide (_ < (N : Int)) = true›; first | omega | exact inR64 (by omega) (by omega))
  all_goals try (have h1 := L2a_d ‹(L2a 1 N 0).inv _›; have h3 : _ < (0 : Int) := of_decide_eq_true ‹decide (_ < (0 : Int)) = true›; first | omega | exact inR64 (by omega) (by omega))
  all_goals try (have h1 := L2b_d ‹(L2b 1 worn N 0).inv _›; have h3 : _ < (0 : Int) := of_decide_eq_true ‹decide (_ < (0 : Int)) = true›; first | omega | exact inR64 (by omega) (by omega))
  all_goals try (have h1 := L3a_d ‹(L3a N).inv _›; have h2 := L2a_d ‹(L2a 1 N 0).inv _›; have h3 : _ < (64 : Int) := of_decide_eq_true ‹decide (_ < (64 : Int)) = true›; first | omega | exact inR64 (by omega) (by omega))
  all_goals try (have h1 := L3b_d ‹(L3b 1 worn N).inv _›; have h3 : _ < (64 : Int) := of_decide_eq_true ‹decide (_ < (64 : Int)) = true›; first | omega | exact inR64 (by omega) (by omega))
  · rw [by4]; exact ⟨by decide, by decide, by decide, by decide⟩
  · refine Stands.one () ⟨trivial, ?_⟩
    ((conv => (arg 1; reduce)); with_reducible repeat' (first | exact Tr.yes_h | refine Tr.and_h ?_ ?_ | refine Tr.imp_h fun _ => ?_ | refine Tr.all_h fun _ => ?_ | refine Tr.lf_h ?_))
    all_goals (first | first | (show Region.lexB _ _ = true; kernel_rfl) | (show planned _ _ = true; kernel_rfl) | exact rfl | exact True.intro | ((try dsimp only [imp, C0, cInt2] at *); (try refine inR64 ?_ ?_) <;> (try simp only [List.length_set, List.length_append, List.length_take, List.length_drop]) <;> omega))
  · exact ⟨Int.le_refl _, (by decide : (0 : Int) < 64), (mask63 _).1, Int.le_trans (mask63 _).2 (by decide)⟩
  · rename_i cd pb hpb hb x1 h1 c1 y hy
    have c1 := of_decide_eq_true c1
    simp only [SB.val, Bool.or_eq_false_iff, decide_eq_false_iff_not] at cd
    have hy : push0Post (((0 : Nat) : Int), w6 worn 0) y := hy
    refine Stands.next (Stands.one (y.1, 0, y.2.1, y.2.2, 1, (List.replicate 64 false).set 0 true) ⟨⟨hy.1, Nat.one_pos, by show 1 ≤ N; omega, by omega, (goodR0 worn []).add (by decide) hy.2⟩, ?_, ?_⟩)
    · show N - 1 < N + 1; omega
    · ((conv => (arg 1; reduce)); with_reducible repeat' (first | exact Tr.yes_h | refine Tr.and_h ?_ ?_ | refine Tr.imp_h fun _ => ?_ | refine Tr.all_h fun _ => ?_ | refine Tr.lf_h ?_))
      all_goals (first | first | (show Region.lexB _ _ = true; kernel_rfl) | (show planned _ _ = true; kernel_rfl) | exact rfl | exact True.intro | ((try dsimp only [imp, C0, cInt2] at *); (try refine inR64 ?_ ?_) <;> (try simp only [List.length_set, List.length_append, List.length_take, List.length_drop]) <;> omega))
  · rename_i cd pb hpb hb x1 h1 c1
    have c1 := of_decide_eq_false c1
    simp only [SB.val, Bool.or_eq_false_iff, decide_eq_false_iff_not] at cd
    refine Stands.one (0, List.replicate 64 false) ⟨⟨by omega, Nat.zero_le _, by omega, by simp, getD_rep 64⟩, ?_⟩
    ((conv => (arg 1; reduce)); with_reducible repeat' (first | exact Tr.yes_h | refine Tr.and_h ?_ ?_ | refine Tr.imp_h fun _ => ?_ | refine Tr.all_h fun _ => ?_ | refine Tr.lf_h ?_))
    all_goals (first | first | (show Region.lexB _ _ = true; kernel_rfl) | (show planned _ _ = true; kernel_rfl) | exact rfl | exact True.intro | ((try dsimp only [imp, C0, cInt2] at *); (try refine inR64 ?_ ?_) <;> (try simp only [List.length_set, List.length_append, List.length_take, List.length_drop]) <;> omega))
  · rename_i x2 h2 c2
    have h2 := L2a_d h2
    refine Stands.one (0 : Nat) ⟨⟨h2.1, Nat.zero_le _⟩, ?_⟩
    ((conv => (arg 1; reduce)); with_reducible repeat' (first | exact Tr.yes_h | refine Tr.and_h ?_ ?_ | refine Tr.imp_h fun _ => ?_ | refine Tr.all_h fun _ => ?_ | refine Tr.lf_h ?_))
    all_goals (first | first | (show Region.lexB _ _ = true; kernel_rfl) | (show planned _ _ = true; kernel_rfl) | exact rfl | exact True.intro | ((try dsimp only [imp, C0, cInt2] at *); (try refine inR64 ?_ ?_) <;> (try simp only [List.length_set, List.length_append, List.length_take, List.length_drop]) <;> omega))
  · rename_i x2 h2 c2 x3 h3 c3 d
    have h2 := L2a_d h2
    exfalso
    simp only [SB.val, Nat.add_zero] at d
    rw [show x2.2.getD _ (C0 4).dflt = false from h2.2.2.2.2 _] at d
    exact absurd d (by decide)
  · rename_i x2 h2 c2 x3 h3 c3 d e
    have h2 := L2a_d h2
    exfalso
    simp only [SB.val, Nat.add_zero] at e
    rw [show x2.2.getD _ (C0 4).dflt = false from h2.2.2.2.2 _] at e
    cases e
  · rename_i x2 h2 c2 x3 h3 c3 d e
    have h3 := L3a_d h3
    have c3 := of_decide_eq_true c3
    refine Stands.one (Nat.succ x3) ⟨⟨h3.1, ?_⟩, ?_, ?_⟩
    · show Nat.succ x3 ≤ 64; omega
    · show 64 - Nat.succ x3 < 64 - x3
      omega
    · ((conv => (arg 1; reduce)); with_reducible repeat' (first | exact Tr.yes_h | refine Tr.and_h ?_ ?_ | refine Tr.imp_h fun _ => ?_ | refine Tr.all_h fun _ => ?_ | refine Tr.lf_h ?_))
      all_goals (first | first | (show Region.lexB _ _ = true; kernel_rfl) | (show planned _ _ = true; kernel_rfl) | exact rfl | exact True.intro | ((try dsimp only [imp, C0, cInt2] at *); (try refine inR64 ?_ ?_) <;> (try simp only [List.length_set, List.length_append, List.length_take, List.length_drop]) <;> omega))
  · rename_i x2 h2 c2 x3 h3 c3
    have h3 := L3a_d h3
    refine Stands.one () ⟨h3.1, ?_⟩
    ((conv => (arg 1; reduce)); with_reducible repeat' (first | exact Tr.yes_h | refine Tr.and_h ?_ ?_ | refine Tr.imp_h fun _ => ?_ | refine Tr.all_h fun _ => ?_ | refine Tr.lf_h ?_))
    all_goals (first | first | (show Region.lexB _ _ = true; kernel_rfl) | (show planned _ _ = true; kernel_rfl) | exact rfl | exact True.intro | ((try dsimp only [imp, C0, cInt2] at *); (try refine inR64 ?_ ?_) <;> (try simp only [List.length_set, List.length_append, List.length_take, List.length_drop]) <;> omega))
  · rename_i x1 h1 c1
    have h1 := L1b_d h1
    have c1 := of_decide_eq_true c1
    show HOK x1.2.2.1 x1.2.2.2.2.1 x1.2.2.2.1 ∧ x1.2.2.2.2.1 < 1048576 ∧ (0 : Int) ≤ x1.2.2.2.2.1 ∧ (x1.2.2.2.2.1 : Int) < 64 ∧ 0 ≤ w6 worn ((x1.2.2.2.2.1 : Int).toNat) ∧ w6 worn ((x1.2.2.2.2.1 : Int).toNat) ≤ 1073741824 ∧ ixf x1.2.2.1 x1.2.2.2.2.1 x1.2.2.2.2.1 = -1
    have hm : 0 ≤ w6 worn ((x1.2.2.2.2.1 : Int).toNat) ∧ w6 worn ((x1.2.2.2.2.1 : Int).toNat) ≤ 63 := mask63 _
    refine ⟨h1.1, by omega, by omega, by omega, hm.1, by omega, ixf_absent h1.1.lt (List.Perm.refl _) fun e he => ?_⟩
    obtain ⟨k, hk, e1, _⟩ := h1.2.2.2.2.1.sub e he
    rw [e1]
    show (k : Int) ≠ _
    omega
  · rename_i x1 h1 c1 y hy
    have h1 := L1b_d h1
    have c1 := of_decide_eq_true c1
    have hy : pushPost x1.2.2.1 x1.2.2.2.2.1 ((x1.2.2.2.2.1 : Int), w6 worn ((x1.2.2.2.2.1 : Int).toNat)) y := hy
    rw [Int.toNat_natCast] at hy
    refine Stands.next (Stands.one (y.1, y.2.1, y.2.2.1, y.2.2.2, x1.2.2.2.2.1 + 1, x1.2.2.2.2.2.set x1.2.2.2.2.1 true) ⟨⟨hy.1, Nat.succ_pos _, by show x1.2.2.2.2.1 + 1 ≤ N; omega, h1.2.2.2.1, h1.2.2.2.2.1.add (by omega) hy.2⟩, ?_, ?_⟩)
    · show N - (x1.2.2.2.2.1 + 1) < N - x1.2.2.2.2.1; omega
    · ((conv => (arg 1; reduce)); with_reducible repeat' (first | exact Tr.yes_h | refine Tr.and_h ?_ ?_ | refine Tr.imp_h fun _ => ?_ | refine Tr.all_h fun _ => ?_ | refine Tr.lf_h ?_))
      all_goals (first | first | (show Region.lexB _ _ = true; kernel_rfl) | (show planned _ _ = true; kernel_rfl) | exact rfl | exact True.intro | ((try dsimp only [imp, C0, cInt2] at *); (try refine inR64 ?_ ?_) <;> (try simp only [List.length_set, List.length_append, List.length_take, List.length_drop]) <;> omega))
  · rename_i cd pb hpb hb x1 h1 c1
    have h1 := L1b_d h1
    have c1 := of_decide_eq_false c1
    simp only [SB.val, Bool.or_eq_false_iff, decide_eq_false_iff_not] at cd
    have hiN : x1.2.2.2.2.1 = N := by omega
    refine Stands.next (Stands.one (x1.2.2.1, x1.2.2.2.2.1, x1.2.2.2.1, 0, x1.2.2.2.2.2) ⟨⟨h1.1, by omega, h1.2.2.2.1, by show x1.2.2.2.2.1 ≤ 64; omega, Nat.zero_le _, by omega, h1.2.2.2.2.1.mono h1.2.2.1⟩, ?_⟩)
    ((conv => (arg 1; reduce)); with_reducible repeat' (first | exact Tr.yes_h | refine Tr.and_h ?_ ?_ | refine Tr.imp_h fun _ => ?_ | refine Tr.all_h fun _ => ?_ | refine Tr.lf_h ?_))
    all_goals (first | first | (show Region.lexB _ _ = true; kernel_rfl) | (show planned _ _ = true; kernel_rfl) | exact rfl | exact True.intro | ((try dsimp only [imp, C0, cInt2] at *); (try refine inR64 ?_ ?_) <;> (try simp only [List.length_set, List.length_append, List.length_take, List.length_drop]) <;> omega))
  · rename_i x2 h2 c2
    have h2 := L2b_d h2
    refine Stands.next (Stands.one (x2.1, x2.2.1, x2.2.2.1, 0, x2.2.2.2.2, 0) ⟨⟨h2.1, h2.2.1, h2.2.2.1, h2.2.2.2.1, Nat.zero_le _, h2.2.2.2.2.2.2.1, rfl⟩, ?_⟩)
    ((conv => (arg 1; reduce)); with_reducible repeat' (first | exact Tr.yes_h | refine Tr.and_h ?_ ?_ | refine Tr.imp_h fun _ => ?_ | refine Tr.all_h fun _ => ?_ | refine Tr.lf_h ?_))
    all_goals (first | first | (show Region.lexB _ _ = true; kernel_rfl) | (show planned _ _ = true; kernel_rfl) | exact rfl | exact True.intro | ((try dsimp only [imp, C0, cInt2] at *); (try refine inR64 ?_ ?_) <;> (try simp only [List.length_set, List.length_append, List.length_take, List.length_drop]) <;> omega))
  · rename_i x3 h3 c3
    have h3 := L3b_d h3
    exact ⟨h3.1.lt, by omega⟩
  · rename_i x3 h3 c3 d
    have h3 := L3b_d h3
    exfalso
    have hix := h3.2.2.2.2.2.1.ix h3.1.lt x3.2.2.2.1
    simp only [SB.val, Nat.add_zero, Int.toNat_natCast] at d
    rw [hix] at d
    exact neb _ d
  · rename_i x3 h3 c3 d e
    have h3 := L3b_d h3
    have c3 := of_decide_eq_true c3
    have e : x3.2.2.2.2.1.getD x3.2.2.2.1 false = true := e
    refine Stands.next (Stands.one (x3.1, x3.2.1, x3.2.2.1, x3.2.2.2.1 + 1, x3.2.2.2.2.1, x3.2.2.2.2.2 + 1) ⟨⟨h3.1, h3.2.1, h3.2.2.1, h3.2.2.2.1, ?_, h3.2.2.2.2.2.1, ?_⟩, ?_, ?_⟩)
    · show x3.2.2.2.1 + 1 ≤ 64; omega
    · show x3.2.2.2.2.2 + 1 = cnt x3.2.2.2.2.1 (x3.2.2.2.1 + 1)
      rw [cnt_succ, if_pos e, h3.2.2.2.2.2.2.2.1]
    · show 64 - (x3.2.2.2.1 + 1) < 64 - x3.2.2.2.1; omega
    · ((conv => (arg 1; reduce)); with_reducible repeat' (first | exact Tr.yes_h | refine Tr.and_h ?_ ?_ | refine Tr.imp_h fun _ => ?_ | refine Tr.all_h fun _ => ?_ | refine Tr.lf_h ?_))
      all_goals (first | first | (show Region.lexB _ _ = true; kernel_rfl) | (show planned _ _ = true; kernel_rfl) | exact rfl | exact True.intro | ((try dsimp only [imp, C0, cInt2] at *); (try refine inR64 ?_ ?_) <;> (try simp only [List.length_set, List.length_append, List.length_take, List.length_drop]) <;> omega))
  · rename_i x3 h3 c3 d e
    have h3 := L3b_d h3
    have c3 := of_decide_eq_true c3
    have e : x3.2.2.2.2.1.getD x3.2.2.2.1 false = false := e
    refine Stands.next (Stands.one (x3.1, x3.2.1, x3.2.2.1, x3.2.2.2.1 + 1, x3.2.2.2.2.1, x3.2.2.2.2.2) ⟨⟨h3.1, h3.2.1, h3.2.2.1, h3.2.2.2.1, ?_, h3.2.2.2.2.2.1, ?_⟩, ?_, ?_⟩)
    · show x3.2.2.2.1 + 1 ≤ 64; omega
    · show x3.2.2.2.2.2 = cnt x3.2.2.2.2.1 (x3.2.2.2.1 + 1)
      rw [cnt_succ, e, h3.2.2.2.2.2.2.2.1]; rfl
    · show 64 - (x3.2.2.2.1 + 1) < 64 - x3.2.2.2.1; omega
    · ((conv => (arg 1; reduce)); with_reducible repeat' (first | exact Tr.yes_h | refine Tr.and_h ?_ ?_ | refine Tr.imp_h fun _ => ?_ | refine Tr.all_h fun _ => ?_ | refine Tr.lf_h ?_))
      all_goals (first | first | (show Region.lexB _ _ = true; kernel_rfl) | (show planned _ _ = true; kernel_rfl) | exact rfl | exact True.intro | ((try dsimp only [imp, C0, cInt2] at *); (try refine inR64 ?_ ?_) <;> (try simp only [List.length_set, List.length_append, List.length_take, List.length_drop]) <;> omega))
  · rename_i x3 h3 c3
    have h3 := L3b_d h3
    have c3 := of_decide_eq_false c3
    have hi : x3.2.2.2.1 = 64 := by omega
    have hn : x3.2.2.2.2.2 = x3.2.1 := by rw [h3.2.2.2.2.2.2.2.1, hi]; exact h3.2.2.2.2.2.1.count h3.1.lt
    refine Stands.next (Stands.one (x3.1, x3.2.1, x3.2.2.1, x3.2.2.2.2.1, -1) ⟨⟨h3.1, h3.2.1, h3.2.2.1, h3.2.2.2.1, h3.2.2.2.2.2.1, fun e he => ?_⟩, ?_⟩)
    · obtain ⟨k, _, e1, _⟩ := h3.2.2.2.2.2.1.sub e he
      have hm : 0 ≤ w6 worn k ∧ w6 worn k ≤ 63 := mask63 _
      rw [e1]
      show -1 ≤ w6 worn k
      omega
    · ((conv => (arg 1; reduce)); with_reducible repeat' (first | exact Tr.yes_h | refine Tr.and_h ?_ ?_ | refine Tr.imp_h fun _ => ?_ | refine Tr.all_h fun _ => ?_ | refine Tr.lf_h ?_))
      all_goals first | (first | first | (show Region.lexB _ _ = true; kernel_rfl) | (show planned _ _ = true; kernel_rfl) | exact rfl | exact True.intro | ((try dsimp only [imp, C0, cInt2] at *); (try refine inR64 ?_ ?_) <;> (try simp only [List.length_set, List.length_append, List.length_take, List.length_drop]) <;> omega)) | (rw [hn])
  · rename_i x4 h4 c4
    have h4 := L4b_d h4
    exact ⟨h4.1, by omega⟩
  iterate 6 (focus (rename_i x4 h4 c4 y hy g1; have h4 := L4b_d h4; have c4 := of_decide_eq_true c4; obtain ⟨r1, k, r2, r3, r4, r5, r6, r7, r8⟩ := round4 h4.2.2.2.2.1 h4.1 (by omega) h4.2.2.2.2.2.2 hy; have := h4.2.2.1; have := h4.2.2.2.2.2.1; first | omega | (simp only [List.length_set, List.length_replicate]; omega)))
  · rename_i x4 h4 c4 y hy d
    have h4 := L4b_d h4
    have c4 := of_decide_eq_true c4
    obtain ⟨r1, k, r2, r3, r4, r5, r6, r7, r8⟩ := round4 h4.2.2.2.2.1 h4.1 (by omega) h4.2.2.2.2.2.2 hy
    exfalso
    simp only [SB.val, r1, r3, Bool.or_eq_true, decide_eq_true_eq, Nat.add_zero, Int.toNat_natCast, Bool.not_eq_true'] at d
    rcases d with (((d | d) | d) | d) | d
    · cases d
    · omega
    · omega
    · have : x4.2.2.2.1.getD k false = false := d
      rw [r4] at this; cases this
    · have : w6 worn k < x4.2.2.2.2 := d
      omega
  iterate 6 (focus (rename_i x4 h4 c4 y hy g1; have h4 := L4b_d h4; have c4 := of_decide_eq_true c4; obtain ⟨r1, k, r2, r3, r4, r5, r6, r7, r8⟩ := round4 h4.2.2.2.2.1 h4.1 (by omega) h4.2.2.2.2.2.2 hy; have := h4.2.2.1; have := h4.2.2.2.2.2.1; first | omega | (simp only [List.length_set, List.length_replicate]; omega)))
  · rename_i x4 h4 c4 y hy d
    have h4 := L4b_d h4
    exact inR64 (by omega) (by omega)
  · rename_i x4 h4 c4 y hy d
    have h4 := L4b_d h4
    have c4 := of_decide_eq_true c4
    obtain ⟨r1, k, r2, r3, r4, r5, r6, r7, r8⟩ := round4 h4.2.2.2.2.1 h4.1 (by omega) h4.2.2.2.2.2.2 hy
    have ek : y.2.1.toNat = k := by omega
    refine Stands.next (Stands.one (y.1, x4.2.1 - 1, x4.2.2.1, x4.2.2.2.1.set y.2.1.toNat false, w6 worn y.2.1.toNat) ⟨⟨r5, h4.2.1, h4.2.2.1, ?_, ?_, ?_⟩, ?_, ?_⟩)
    · show x4.2.1 - 1 ≤ 64; omega
    · show goodR worn N y.1 (x4.2.1 - 1) (x4.2.2.2.1.set y.2.1.toNat false)
      rw [ek]; exact r6
    · show ∀ e ∈ y.1.take (x4.2.1 - 1), w6 worn y.2.1.toNat ≤ e.2
      rw [ek]; exact r8
    · show x4.2.1 - 1 < x4.2.1; omega
    · ((conv => (arg 1; reduce)); with_reducible repeat' (first | exact Tr.yes_h | refine Tr.and_h ?_ ?_ | refine Tr.imp_h fun _ => ?_ | refine Tr.all_h fun _ => ?_ | refine Tr.lf_h ?_))
      all_goals first | (first | first | (show Region.lexB _ _ = true; kernel_rfl) | (show planned _ _ = true; kernel_rfl) | exact rfl | exact True.intro | ((try dsimp only [imp, C0, cInt2] at *); (try refine inR64 ?_ ?_) <;> (try simp only [List.length_set, List.length_append, List.length_take, List.length_drop]) <;> omega)) | (show (x4.2.1 : Int) - 1 = ((x4.2.1 - 1 : Nat) : Int); omega)
  · rename_i x4 h4 c4
    have h4 := L4b_d h4
    have c4 := of_decide_eq_false c4
    show decide ((x4.2.1 : Int) = 0) = true
    exact decide_eq_true (by omega)

set_option maxHeartbeats 4000000 in
theorem rems_ns (b1 q1 : Nat) (gone : List Int) (M m1 : Nat) (hM : M ≤ gone.length) :
    Tells (C := C0) Tryd.prog (.fn 4) [⟨b1, q1, 1, false, none, .rows 3 gone⟩] [.nils, .sl 0 0 M m1] (.bool .t) := by
  refine loc_pc (P := Tryd.prog) (E := ⟨[fcNew, fcAdd, fcAdd0, fcTake, fcTake0, fcRemv, fcRemv0], [pcFirst, pcPlen, pcPlen0, pcHas, pcHas0], 139, [(17, [2], [.p 0, .p 1, .p 3, .p 4, .p 5, .p 6, .e 2, .p 7])]⟩)
    (L := [L1a 0, L2a 1 0 M, L3a 0, L4a 0]) mix Tryd.func4 rfl (by kernel_rfl) (by kernel_rfl) rfl rfl ?_
  ((conv => (arg 1; reduce)); with_reducible repeat' (first | exact Tr.yes_h | refine Tr.and_h ?_ ?_ | refine Tr.imp_h fun _ => ?_ | refine Tr.all_h fun _ => ?_ | refine Tr.lf_h ?_))
  all_goals try first | (show Region.lexB _ _ = true; kernel_rfl) | (show planned _ _ = true; kernel_rfl) | exact rfl | exact True.intro
  all_goals try (exfalso; exact absurd ‹decide ((0 : Int) < 0) = true› (by decide))
  all_goals try exact (mask63 _).1
  all_goals try exact Int.lt_of_le_of_lt (mask63 _).2 (by decide)
  all_goals try exact Nat.lt_of_lt_of_eq (mask_nat _) (L2a_d ‹(L2a 1 0 M).inv _›).2.2.2.1.symm
  all_goals try (have h1 := L2a_d ‹(L2a 1 0 M).inv _›; have h3 : _ < (M : Int) := of_decide_eq_true ‹decide (_ < (M : Int)) = true›; first | omega | exact inR64 (by omega) (by omega))
  all_goals try (have h1 := L3a_d ‹(L3a 0).inv _›; have h2 := L2a_d ‹(L2a 1 0 M).inv _›; have h3 : _ < (64 : Int) := of_decide_eq_true ‹decide (_ < (64 : Int)) = true›; first | omega | exact inR64 (by omega) (by omega))
  · rw [by4]; exact ⟨by decide, by decide, by decide, by decide⟩
  · refine Stands.one () ⟨trivial, ?_⟩
    ((conv => (arg 1; reduce)); with_reducible repeat' (first | exact Tr.yes_h | refine Tr.and_h ?_ ?_ | refine Tr.imp_h fun _ => ?_ | refine Tr.all_h fun _ => ?_ | refine Tr.lf_h ?_))
    all_goals (first | first | (show Region.lexB _ _ = true; kernel_rfl) | (show planned _ _ = true; kernel_rfl) | exact rfl | exact True.intro | ((try dsimp only [imp, C0, cInt2] at *); (try refine inR64 ?_ ?_) <;> (try simp only [List.length_set, List.length_append, List.length_take, List.length_drop]) <;> omega))
  · rename_i cd pb hpb hb x1 h1 c1
    have c1 := of_decide_eq_false c1
    simp only [SB.val, Bool.or_eq_false_iff, decide_eq_false_iff_not] at cd
    refine Stands.one (0, List.replicate 64 false) ⟨⟨by omega, Nat.zero_le _, by omega, by simp, getD_rep 64⟩, ?_⟩
    ((conv => (arg 1; reduce)); with_reducible repeat' (first | exact Tr.yes_h | refine Tr.and_h ?_ ?_ | refine Tr.imp_h fun _ => ?_ | refine Tr.all_h fun _ => ?_ | refine Tr.lf_h ?_))
    all_goals (first | first | (show Region.lexB _ _ = true; kernel_rfl) | (show planned _ _ = true; kernel_rfl) | exact rfl | exact True.intro | ((try dsimp only [imp, C0, cInt2] at *); (try refine inR64 ?_ ?_) <;> (try simp only [List.length_set, List.length_append, List.length_take, List.length_drop]) <;> omega))
  · rename_i x2 h2 c2 y hy d
    have h2 := L2a_d h2
    exfalso
    simp only [SB.val, Nat.add_zero] at d
    rw [show x2.2.getD _ (C0 4).dflt = false from h2.2.2.2.2 _] at d
    cases d
  · rename_i x2 h2 c2 y hy d
    have h2 := L2a_d h2
    have c2 := of_decide_eq_true c2
    refine Stands.one (x2.1 + 1, x2.2.set (ibit .and .i64 (gone.getD x2.1 0) 63).toNat false) ⟨⟨h2.1, by show x2.1 + 1 ≤ M; omega, h2.2.2.1, by simp [h2.2.2.2.1], fun k => ?_⟩, ?_, ?_⟩
    · rw [getD_set_same (h2.2.2.2.2 _)]; exact h2.2.2.2.2 k
    · show M - (x2.1 + 1) < M - x2.1; omega
    · ((conv => (arg 1; reduce)); with_reducible repeat' (first | exact Tr.yes_h | refine Tr.and_h ?_ ?_ | refine Tr.imp_h fun _ => ?_ | refine Tr.all_h fun _ => ?_ | refine Tr.lf_h ?_))
      all_goals (first | first | (show Region.lexB _ _ = true; kernel_rfl) | (show planned _ _ = true; kernel_rfl) | exact rfl | exact True.intro | ((try dsimp only [imp, C0, cInt2] at *); (try refine inR64 ?_ ?_) <;> (try simp only [List.length_set, List.length_append, List.length_take, List.length_drop]) <;> omega))
  · rename_i x2 h2 c2
    have h2 := L2a_d h2
    refine Stands.one (0 : Nat) ⟨⟨h2.1, Nat.zero_le _⟩, ?_⟩
    ((conv => (arg 1; reduce)); with_reducible repeat' (first | exact Tr.yes_h | refine Tr.and_h ?_ ?_ | refine Tr.imp_h fun _ => ?_ | refine Tr.all_h fun _ => ?_ | refine Tr.lf_h ?_))
    all_goals (first | first | (show Region.lexB _ _ = true; kernel_rfl) | (show planned _ _ = true; kernel_rfl) | exact rfl | exact True.intro | ((try dsimp only [imp, C0, cInt2] at *); (try refine inR64 ?_ ?_) <;> (try simp only [List.length_set, List.length_append, List.length_take, List.length_drop]) <;> omega))
  · rename_i x2 h2 c2 x3 h3 c3 d
    have h2 := L2a_d h2
    exfalso
    simp only [SB.val, Nat.add_zero] at d
    rw [show x2.2.getD _ (C0 4).dflt = false from h2.2.2.2.2 _] at d
    exact absurd d (by decide)
  · rename_i x2 h2 c2 x3 h3 c3 d e
    have h2 := L2a_d h2
    exfalso
    simp only [SB.val, Nat.add_zero] at e
    rw [show x2.2.getD _ (C0 4).dflt = false from h2.2.2.2.2 _] at e
    cases e
  · rename_i x2 h2 c2 x3 h3 c3 d e
    have h3 := L3a_d h3
    have c3 := of_decide_eq_true c3
    refine Stands.one (Nat.succ x3) ⟨⟨h3.1, ?_⟩, ?_, ?_⟩
    · show Nat.succ x3 ≤ 64; omega
    · show 64 - Nat.succ x3 < 64 - x3
      omega
    · ((conv => (arg 1; reduce)); with_reducible repeat' (first | exact Tr.yes_h | refine Tr.and_h ?_ ?_ | refine Tr.imp_h fun _ => ?_ | refine Tr.all_h fun _ => ?_ | refine Tr.lf_h ?_))
      all_goals (first | first | (show Region.lexB _ _ = true; kernel_rfl) | (show planned _ _ = true; kernel_rfl) | exact rfl | exact True.intro | ((try dsimp only [imp, C0, cInt2] at *); (try refine inR64 ?_ ?_) <;> (try simp only [List.length_set, List.length_append, List.length_take, List.length_drop]) <;> omega))
  · rename_i x2 h2 c2 x3 h3 c3
    have h3 := L3a_d h3
    refine Stands.one () ⟨h3.1, ?_⟩
    ((conv => (arg 1; reduce)); with_reducible repeat' (first | exact Tr.yes_h | refine Tr.and_h ?_ ?_ | refine Tr.imp_h fun _ => ?_ | refine Tr.all_h fun _ => ?_ | refine Tr.lf_h ?_))
    all_goals (first | first | (show Region.lexB _ _ = true; kernel_rfl) | (show planned _ _ = true; kernel_rfl) | exact rfl | exact True.intro | ((try dsimp only [imp, C0, cInt2] at *); (try refine inR64 ?_ ?_) <;> (try simp only [List.length_set, List.length_append, List.length_take, List.length_drop]) <;> omega))

set_option maxHeartbeats 4000000 in
theorem rems_nn  :
    Tells (C := C0) Tryd.prog (.fn 4) [] [.nils, .nils] (.bool .t) := by
  refine loc_pc (P := Tryd.prog) (E := ⟨[fcNew, fcAdd, fcAdd0, fcTake, fcTake0, fcRemv, fcRemv0], [pcFirst, pcPlen, pcPlen0, pcHas, pcHas0], 139, [(17, [1], [.p 0, .p 1, .p 3, .p 4, .p 5, .p 6, .e 2, .p 7])]⟩)
    (L := [L1a 0, L2a 0 0 0, L3a 0, L4a 0]) mix Tryd.func4 rfl (by kernel_rfl) (by kernel_rfl) rfl rfl ?_
  ((conv => (arg 1; reduce)); with_reducible repeat' (first | exact Tr.yes_h | refine Tr.and_h ?_ ?_ | refine Tr.imp_h fun _ => ?_ | refine Tr.all_h fun _ => ?_ | refine Tr.lf_h ?_))
  all_goals try first | (show Region.lexB _ _ = true; kernel_rfl) | (show planned _ _ = true; kernel_rfl) | exact rfl | exact True.intro
  all_goals try (exfalso; exact absurd ‹decide ((0 : Int) < 0) = true› (by decide))
  all_goals try (exfalso; have h3 : _ < (0 : Int) := of_decide_eq_true ‹decide (_ < (0 : Int)) = true›; omega)
  all_goals try exact (mask63 _).1
  all_goals try exact Int.lt_of_le_of_lt (mask63 _).2 (by decide)
  all_goals try exact Nat.lt_of_lt_of_eq (mask_nat _) (L2a_d ‹(L2a 0 0 0).inv _›).2.2.2.1.symm
  all_goals try (have h1 := L2a_d ‹(L2a 0 0 0).inv _›; have h3 : _ < (0 : Int) := of_decide_eq_true ‹decide (_ < (0 : Int)) = true›; first | omega | exact inR64 (by omega) (by omega))
  all_goals try (have h1 := L3a_d ‹(L3a 0).inv _›; have h2 := L2a_d ‹(L2a 0 0 0).inv _›; have h3 : _ < (64 : Int) := of_decide_eq_true ‹decide (_ < (64 : Int)) = true›; first | omega | exact inR64 (by omega) (by omega))
  · rw [by4]; exact ⟨by decide, by decide, by decide, by decide⟩
  · refine Stands.one () ⟨trivial, ?_⟩
    ((conv => (arg 1; reduce)); with_reducible repeat' (first | exact Tr.yes_h | refine Tr.and_h ?_ ?_ | refine Tr.imp_h fun _ => ?_ | refine Tr.all_h fun _ => ?_ | refine Tr.lf_h ?_))
    all_goals (first | first | (show Region.lexB _ _ = true; kernel_rfl) | (show planned _ _ = true; kernel_rfl) | exact rfl | exact True.intro | ((try dsimp only [imp, C0, cInt2] at *); (try refine inR64 ?_ ?_) <;> (try simp only [List.length_set, List.length_append, List.length_take, List.length_drop]) <;> omega))
  · rename_i cd pb hpb hb x1 h1 c1
    have c1 := of_decide_eq_false c1
    simp only [SB.val, Bool.or_eq_false_iff, decide_eq_false_iff_not] at cd
    refine Stands.one (0, List.replicate 64 false) ⟨⟨by omega, Nat.zero_le _, by omega, by simp, getD_rep 64⟩, ?_⟩
    ((conv => (arg 1; reduce)); with_reducible repeat' (first | exact Tr.yes_h | refine Tr.and_h ?_ ?_ | refine Tr.imp_h fun _ => ?_ | refine Tr.all_h fun _ => ?_ | refine Tr.lf_h ?_))
    all_goals (first | first | (show Region.lexB _ _ = true; kernel_rfl) | (show planned _ _ = true; kernel_rfl) | exact rfl | exact True.intro | ((try dsimp only [imp, C0, cInt2] at *); (try refine inR64 ?_ ?_) <;> (try simp only [List.length_set, List.length_append, List.length_take, List.length_drop]) <;> omega))
  · rename_i x2 h2 c2
    have h2 := L2a_d h2
    refine Stands.one (0 : Nat) ⟨⟨h2.1, Nat.zero_le _⟩, ?_⟩
    ((conv => (arg 1; reduce)); with_reducible repeat' (first | exact Tr.yes_h | refine Tr.and_h ?_ ?_ | refine Tr.imp_h fun _ => ?_ | refine Tr.all_h fun _ => ?_ | refine Tr.lf_h ?_))
    all_goals (first | first | (show Region.lexB _ _ = true; kernel_rfl) | (show planned _ _ = true; kernel_rfl) | exact rfl | exact True.intro | ((try dsimp only [imp, C0, cInt2] at *); (try refine inR64 ?_ ?_) <;> (try simp only [List.length_set, List.length_append, List.length_take, List.length_drop]) <;> omega))
  · rename_i x2 h2 c2 x3 h3 c3 d
    have h2 := L2a_d h2
    exfalso
    simp only [SB.val, Nat.add_zero] at d
    rw [show x2.2.getD _ (C0 4).dflt = false from h2.2.2.2.2 _] at d
    exact absurd d (by decide)
  · rename_i x2 h2 c2 x3 h3 c3 d e
    have h2 := L2a_d h2
    exfalso
    simp only [SB.val, Nat.add_zero] at e
    rw [show x2.2.getD _ (C0 4).dflt = false from h2.2.2.2.2 _] at e
    cases e
  · rename_i x2 h2 c2 x3 h3 c3 d e
    have h3 := L3a_d h3
    have c3 := of_decide_eq_true c3
    refine Stands.one (Nat.succ x3) ⟨⟨h3.1, ?_⟩, ?_, ?_⟩
    · show Nat.succ x3 ≤ 64; omega
    · show 64 - Nat.succ x3 < 64 - x3
      omega
    · ((conv => (arg 1; reduce)); with_reducible repeat' (first | exact Tr.yes_h | refine Tr.and_h ?_ ?_ | refine Tr.imp_h fun _ => ?_ | refine Tr.all_h fun _ => ?_ | refine Tr.lf_h ?_))
      all_goals (first | first | (show Region.lexB _ _ = true; kernel_rfl) | (show planned _ _ = true; kernel_rfl) | exact rfl | exact True.intro | ((try dsimp only [imp, C0, cInt2] at *); (try refine inR64 ?_ ?_) <;> (try simp only [List.length_set, List.length_append, List.length_take, List.length_drop]) <;> omega))
  · rename_i x2 h2 c2 x3 h3 c3
    have h3 := L3a_d h3
    refine Stands.one () ⟨h3.1, ?_⟩
    ((conv => (arg 1; reduce)); with_reducible repeat' (first | exact Tr.yes_h | refine Tr.and_h ?_ ?_ | refine Tr.imp_h fun _ => ?_ | refine Tr.all_h fun _ => ?_ | refine Tr.lf_h ?_))
    all_goals (first | first | (show Region.lexB _ _ = true; kernel_rfl) | (show planned _ _ = true; kernel_rfl) | exact rfl | exact True.intro | ((try dsimp only [imp, C0, cInt2] at *); (try refine inR64 ?_ ?_) <;> (try simp only [List.length_set, List.length_append, List.length_take, List.length_drop]) <;> omega))

end Go.Vx
