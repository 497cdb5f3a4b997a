/-
  Round 17: PoolPlays, what it computes of a slice: the walk (its bullets are the print of tools/plays.py).
  Conditions: none.
-/
import Derived.Test.YtncpjklejppdkaaDoorPpK
set_option linter.unusedSectionVars false
set_option maxRecDepth 100000
set_option linter.unusedVariables false
set_option linter.unusedSimpArgs false
namespace Go.Vx
open Go Go.Proofs
variable [Gl]

theorem of_f (h : False) : SB.f.val = SB.t.val := h.elim
set_option maxHeartbeats 16000000 in
theorem plays_s (hA : Apart) (b q : Nat) (l : List (Int × Int × Int)) (N m : Nat) (ask stop : Int) (hN : N ≤ l.length) :
    Tells (C := C0) Tryd.prog (.fn 5) [⟨b, q, 3, false, none, .rows 42 l⟩] [.sl 0 0 N m, .int .i64 ask, .int .i64 stop] (.bool .t) := by
  refine loc_pcR (P := Tryd.prog) (E := ⟨[fcNew, fcAddH, fcAddG0, fcXAdd, fcXAdd0, fcRemH, fcRemv0, fcXRem, fcRRem0, fcTakeH, fcTake0, fcXTake, fcRTake0, fcMostH, fcMost0, fcRMost, fcRMost0, fcEach],
      [pcFirst, pcIs0, pcIsE, pcHasH, pcHas0, pcRHas, pcRHas0, pcPlenH, pcPlen0, pcLeastH, pcLeast0], 279,
      [(19, [0, 5], [.p 0, .p 1, .p 2, .p 3, .p 4, .p 5, .p 6, .p 7, .p 8, .p 9, .p 10, .p 12, .p 13, .p 14, .p 15, .p 16, .p 17, .p 18, .p 19, .p 20, .p 21, .p 22, .e 11, .e 23, .e 24, .p 25]),
       (22, [0, 5], [.p 0, .p 1, .p 2, .p 3, .p 4, .p 5, .p 7, .p 8, .p 9, .p 10, .p 11, .p 12, .e 6, .e 13, .p 14])]⟩)
    (L := [La N, Lb N, Lr]) mix [itEach] Tryd.func5 rfl (by kernel_rfl) (by kernel_rfl) rfl rfl ?_
  ((conv => (arg 1; reduce)); with_reducible repeat' (first | exact Tr.yes_h | refine Tr.and_h ?_ ?_ | refine Tr.imp_h fun _ => ?_ | refine Tr.all_h fun _ => ?_ | refine Tr.lf_h ?_))
  all_goals try first | (show Region.lexB _ _ = true; kernel_rfl) | (show planned _ _ = true; kernel_rfl) | exact rfl | exact True.intro
  all_goals try with_reducible refine of_f ?_
  · rename_i h0 h1 h2 h3 h4 h5 h6 h7
    refine Stands.one (0 : Nat) ⟨Nat.zero_le _, ?_⟩
    ((conv => (arg 1; reduce)); with_reducible repeat' (first | exact Tr.yes_h | refine Tr.and_h ?_ ?_ | refine Tr.imp_h fun _ => ?_ | refine Tr.all_h fun _ => ?_ | refine Tr.lf_h ?_))
    all_goals first | (first | first | (show Region.lexB _ _ = true; kernel_rfl) | (show planned _ _ = true; kernel_rfl) | exact rfl | exact True.intro | ((try dsimp only [imp, C0, cG, cInt2] at *); (try refine inR64 ?_ ?_) <;> (try simp only [List.length_set, List.length_append, List.length_take, List.length_drop]) <;> omega)) | (dsimp only; omega)
  · rename_i h0 h1 h2 h3 h4 h5 h6 h7 h8 h9 h10
    exact Int.natCast_nonneg _
  · rename_i h0 h1 h2 h3 h4 h5 h6 h7 h8 h9 h10
    exact of_decide_eq_true h10
  · rename_i h0 h1 h2 h3 h4 h5 h6 h7 h8 h9 h10
    exact idxN h10 hN
  · rename_i h0 h1 h2 h3 h4 h5 h6 h7 h8 h9 h10 h11
    exact Int.natCast_nonneg _
  · rename_i h0 h1 h2 h3 h4 h5 h6 h7 h8 h9 h10 h11
    exact of_decide_eq_true h10
  · rename_i h0 h1 h2 h3 h4 h5 h6 h7 h8 h9 h10 h11
    exact idxN h10 hN
  · rename_i h0 h1 h2 h3 h4 h5 h6 h7 h8 h9 h10 h11
    exact Int.natCast_nonneg _
  · rename_i h0 h1 h2 h3 h4 h5 h6 h7 h8 h9 h10 h11
    exact of_decide_eq_true h10
  · rename_i h0 h1 h2 h3 h4 h5 h6 h7 h8 h9 h10 h11
    exact idxN h10 hN
  · rename_i h0 h1 h2 h3 h4 h5 h6 h7 h8 h9 h10 h11
    exact Int.natCast_nonneg _
  · rename_i h0 h1 h2 h3 h4 h5 h6 h7 h8 h9 h10 h11
    exact of_decide_eq_true h10
  · rename_i h0 h1 h2 h3 h4 h5 h6 h7 h8 h9 h10 h11
    exact idxN h10 hN
  · rename_i h0 h1 h2 h3 h4 h5 h6 h7 h8 h9 h10 h11
    exact Int.natCast_nonneg _
  · rename_i h0 h1 h2 h3 h4 h5 h6 h7 h8 h9 h10 h11
    exact of_decide_eq_true h10
  · rename_i h0 h1 h2 h3 h4 h5 h6 h7 h8 h9 h10 h11
    exact idxN h10 hN
  · rename_i h0 h1 h2 h3 h4 h5 h6 h7 h8 h9 h10 h11 h12 h13
    exact .inl h13
  · rename_i h0 h1 h2 h3 h4 h5 h6 h7 h8 h9 h10 h11 h12 h13 h14 h15
    exact plain_addE _
  · rename_i h0 h1 h2 h3 h4 h5 h6 h7 h8 h9 h10 h11 h12 h13 h14 h15 h16
    exact no_is hA h16
  · rename_i h0 h1 h2 h3 h4 h5 h6 h7 h8 h9 h10 h11 h12 h13 h14 h15 h16 h17
    exact absurd h17 (by decide)
  · rename_i h0 h1 h2 h3 h4 h5 h6 h7 h8 h9 h10 h11 h12 h13 h14 h15 h16 h17
    exact incN h10 h3
  · rename_i h0 h1 h2 h3 h4 h5 h6 h7 h8 h9 h10 h11 h12 h13 h14 h15 h16 h17
    change Nat at h8; refine Stands.one (h8 + 1 : Nat) ⟨ltN h10, decN h10, ?_⟩
    ((conv => (arg 1; reduce)); with_reducible repeat' (first | exact Tr.yes_h | refine Tr.and_h ?_ ?_ | refine Tr.imp_h fun _ => ?_ | refine Tr.all_h fun _ => ?_ | refine Tr.lf_h ?_))
    all_goals first | (first | first | (show Region.lexB _ _ = true; kernel_rfl) | (show planned _ _ = true; kernel_rfl) | exact rfl | exact True.intro | ((try dsimp only [imp, C0, cG, cInt2] at *); (try refine inR64 ?_ ?_) <;> (try simp only [List.length_set, List.length_append, List.length_take, List.length_drop]) <;> omega)) | (dsimp only; omega)
  · rename_i h0 h1 h2 h3 h4 h5 h6 h7 h8 h9 h10 h11 h12 h13 h14 h15
    exact (tf h13 h15.1).elim
  · rename_i h0 h1 h2 h3 h4 h5 h6 h7 h8 h9 h10 h11 h12 h13 h14 h15 h16
    exact (tf h13 h15.1).elim
  · rename_i h0 h1 h2 h3 h4 h5 h6 h7 h8 h9 h10 h11 h12 h13 h14 h15 h16
    exact (tf h13 h15.1).elim
  · rename_i h0 h1 h2 h3 h4 h5 h6 h7 h8 h9 h10 h11 h12 h13 h14 h15 h16 h17
    exact (tf h13 h15.1).elim
  · rename_i h0 h1 h2 h3 h4 h5 h6 h7 h8 h9 h10 h11 h12 h13 h14 h15 h16 h17
    exact (tf h13 h15.1).elim
  · rename_i h0 h1 h2 h3 h4 h5 h6 h7 h8 h9 h10 h11 h12 h13 h14 h15 h16 h17
    exact (tf h13 h15.1).elim
  · rename_i h0 h1 h2 h3 h4 h5 h6 h7 h8 h9 h10 h11 h12 h13
    exact .inr ⟨h13.1, rfl, h13.2.1, h13.2.2⟩
  · rename_i h0 h1 h2 h3 h4 h5 h6 h7 h8 h9 h10 h11 h12 h13 h14 h15 h16
    exact (tf h15 h13.1).elim
  · rename_i h0 h1 h2 h3 h4 h5 h6 h7 h8 h9 h10 h11 h12 h13 h14 h15 h16
    exact (tf h15 h13.1).elim
  · rename_i h0 h1 h2 h3 h4 h5 h6 h7 h8 h9 h10 h11 h12 h13 h14 h15 h16
    exact (tf h15 h13.1).elim
  · rename_i h0 h1 h2 h3 h4 h5 h6 h7 h8 h9 h10 h11 h12 h13 h14 h15 h16 h17
    exact (tf h15 h13.1).elim
  · rename_i h0 h1 h2 h3 h4 h5 h6 h7 h8 h9 h10 h11 h12 h13 h14 h15 h16 h17 h18
    exact (tf h15 h13.1).elim
  · rename_i h0 h1 h2 h3 h4 h5 h6 h7 h8 h9 h10 h11 h12 h13 h14 h15 h16 h17 h18
    exact (tf h15 h13.1).elim
  · rename_i h0 h1 h2 h3 h4 h5 h6 h7 h8 h9 h10 h11 h12 h13 h14 h15 h16 h17 h18
    exact (tf h15 h13.1).elim
  · rename_i h0 h1 h2 h3 h4 h5 h6 h7 h8 h9 h10 h11 h12 h13 h14 h15 h16 h17 h18
    exact (tf h15 h13.1).elim
  · rename_i h0 h1 h2 h3 h4 h5 h6 h7 h8 h9 h10 h11 h12 h13 h14 h15 h16
    exact (tf h15 h13.1).elim
  · rename_i h0 h1 h2 h3 h4 h5 h6 h7 h8 h9 h10 h11 h12 h13 h14 h15 h16
    exact absurd h16 (by decide)
  · rename_i h0 h1 h2 h3 h4 h5 h6 h7 h8 h9 h10 h11 h12 h13 h14 h15 h16
    exact h15.2
  · rename_i h0 h1 h2 h3 h4 h5 h6 h7 h8 h9 h10 h11 h12 h13 h14 h15 h16
    exact h15.2
  · rename_i h0 h1 h2 h3 h4 h5 h6 h7 h8 h9 h10 h11 h12 h13 h14 h15 h16
    exact rhas_pre h15.2
  · rename_i h0 h1 h2 h3 h4 h5 h6 h7 h8 h9 h10 h11 h12 h13 h14 h15 h16 h17
    exact h15.2
  · rename_i h0 h1 h2 h3 h4 h5 h6 h7 h8 h9 h10 h11 h12 h13 h14 h15 h16 h17 h18
    exact Int.le_refl _
  · rename_i h0 h1 h2 h3 h4 h5 h6 h7 h8 h9 h10 h11 h12 h13 h14 h15 h16 h17 h18
    exact pos0 h18
  · rename_i h0 h1 h2 h3 h4 h5 h6 h7 h8 h9 h10 h11 h12 h13 h14 h15 h16 h17 h18
    exact at0 h15.2 h18
  · rename_i h0 h1 h2 h3 h4 h5 h6 h7 h8 h9 h10 h11 h12 h13 h14 h15 h16 h17 h18 h19
    exact Int.le_refl _
  · rename_i h0 h1 h2 h3 h4 h5 h6 h7 h8 h9 h10 h11 h12 h13 h14 h15 h16 h17 h18 h19
    exact pos0 h18
  · rename_i h0 h1 h2 h3 h4 h5 h6 h7 h8 h9 h10 h11 h12 h13 h14 h15 h16 h17 h18 h19
    exact at0 h15.2 h18
  · rename_i h0 h1 h2 h3 h4 h5 h6 h7 h8 h9 h10 h11 h12 h13 h14 h15 h16 h17 h18
    exact sum0 h18
  · rename_i h0 h1 h2 h3 h4 h5 h6 h7 h8 h9 h10 h11 h12 h13 h14 h15 h16 h17
    exact no_chain h15.2 h17
  · rename_i h0 h1 h2 h3 h4 h5 h6 h7 h8 h9 h10 h11 h12 h13 h14 h15 h16 h17
    exact incN h10 h3
  · rename_i h0 h1 h2 h3 h4 h5 h6 h7 h8 h9 h10 h11 h12 h13 h14 h15 h16 h17
    change Nat at h8; refine Stands.next (Stands.one (⟨h8 + 1, h12.1, 0, h12.2.1, 1, h12.2.2, h14.b, h14.q, h14.l, h14.k, h14.n, h14.c⟩ : Px) ⟨⟨ltN h10, h15.2⟩, decN h10, ?_⟩)
    ((conv => (arg 1; reduce)); with_reducible repeat' (first | exact Tr.yes_h | refine Tr.and_h ?_ ?_ | refine Tr.imp_h fun _ => ?_ | refine Tr.all_h fun _ => ?_ | refine Tr.lf_h ?_))
    all_goals first | (first | first | (show Region.lexB _ _ = true; kernel_rfl) | (show planned _ _ = true; kernel_rfl) | exact rfl | exact True.intro | ((try dsimp only [imp, C0, cG, cInt2] at *); (try refine inR64 ?_ ?_) <;> (try simp only [List.length_set, List.length_append, List.length_take, List.length_drop]) <;> omega)) | (dsimp only; omega)
  · rename_i h0 h1 h2 h3 h4 h5 h6 h7 h8 h9 h10 h11 h12
    exact Int.natCast_nonneg _
  · rename_i h0 h1 h2 h3 h4 h5 h6 h7 h8 h9 h10 h11 h12
    exact of_decide_eq_true h10
  · rename_i h0 h1 h2 h3 h4 h5 h6 h7 h8 h9 h10 h11 h12
    exact idxN h10 hN
  · rename_i h0 h1 h2 h3 h4 h5 h6 h7 h8 h9 h10 h11 h12
    exact Int.natCast_nonneg _
  · rename_i h0 h1 h2 h3 h4 h5 h6 h7 h8 h9 h10 h11 h12
    exact of_decide_eq_true h10
  · rename_i h0 h1 h2 h3 h4 h5 h6 h7 h8 h9 h10 h11 h12
    exact idxN h10 hN
  · rename_i h0 h1 h2 h3 h4 h5 h6 h7 h8 h9 h10 h11 h12 h13 h14 h15 h16 h17
    exact absurd h17 (by decide)
  · rename_i h0 h1 h2 h3 h4 h5 h6 h7 h8 h9 h10 h11 h12 h13 h14 h15 h16 h17 h18
    exact absurd h18 (by decide)
  · rename_i h0 h1 h2 h3 h4 h5 h6 h7 h8 h9 h10 h11 h12 h13 h14 h15 h16 h17 h18
    exact incN h10 h3
  · rename_i h0 h1 h2 h3 h4 h5 h6 h7 h8 h9 h10 h11 h12 h13 h14 h15 h16 h17 h18
    change Nat at h8; refine Stands.one (h8 + 1 : Nat) ⟨ltN h10, decN h10, ?_⟩
    ((conv => (arg 1; reduce)); with_reducible repeat' (first | exact Tr.yes_h | refine Tr.and_h ?_ ?_ | refine Tr.imp_h fun _ => ?_ | refine Tr.all_h fun _ => ?_ | refine Tr.lf_h ?_))
    all_goals first | (first | first | (show Region.lexB _ _ = true; kernel_rfl) | (show planned _ _ = true; kernel_rfl) | exact rfl | exact True.intro | ((try dsimp only [imp, C0, cG, cInt2] at *); (try refine inR64 ?_ ?_) <;> (try simp only [List.length_set, List.length_append, List.length_take, List.length_drop]) <;> omega)) | (dsimp only; omega)
  · rename_i h0 h1 h2 h3 h4 h5 h6 h7 h8 h9 h10 h11 h12 h13 h14 h15 h16 h17 h18
    exact absurd h18 (by decide)
  · rename_i h0 h1 h2 h3 h4 h5 h6 h7 h8 h9 h10 h11 h12 h13 h14 h15 h16 h17 h18 h19
    exact absurd h19 (by decide)
  · rename_i h0 h1 h2 h3 h4 h5 h6 h7 h8 h9 h10 h11 h12 h13 h14 h15 h16 h17 h18 h19
    exact incN h10 h3
  · rename_i h0 h1 h2 h3 h4 h5 h6 h7 h8 h9 h10 h11 h12 h13 h14 h15 h16 h17 h18 h19
    change Nat at h8; refine Stands.one (h8 + 1 : Nat) ⟨ltN h10, decN h10, ?_⟩
    ((conv => (arg 1; reduce)); with_reducible repeat' (first | exact Tr.yes_h | refine Tr.and_h ?_ ?_ | refine Tr.imp_h fun _ => ?_ | refine Tr.all_h fun _ => ?_ | refine Tr.lf_h ?_))
    all_goals first | (first | first | (show Region.lexB _ _ = true; kernel_rfl) | (show planned _ _ = true; kernel_rfl) | exact rfl | exact True.intro | ((try dsimp only [imp, C0, cG, cInt2] at *); (try refine inR64 ?_ ?_) <;> (try simp only [List.length_set, List.length_append, List.length_take, List.length_drop]) <;> omega)) | (dsimp only; omega)
  · rename_i h0 h1 h2 h3 h4 h5 h6 h7 h8 h9 h10 h11 h12 h13 h14 h15 h16 h17 h18
    exact absurd h18 (by decide)
  · rename_i h0 h1 h2 h3 h4 h5 h6 h7 h8 h9 h10 h11 h12 h13 h14 h15 h16 h17 h18 h19
    exact absurd h19 (by decide)
  · rename_i h0 h1 h2 h3 h4 h5 h6 h7 h8 h9 h10 h11 h12 h13 h14 h15 h16 h17 h18 h19
    exact incN h10 h3
  · rename_i h0 h1 h2 h3 h4 h5 h6 h7 h8 h9 h10 h11 h12 h13 h14 h15 h16 h17 h18 h19
    change Nat at h8; refine Stands.one (h8 + 1 : Nat) ⟨ltN h10, decN h10, ?_⟩
    ((conv => (arg 1; reduce)); with_reducible repeat' (first | exact Tr.yes_h | refine Tr.and_h ?_ ?_ | refine Tr.imp_h fun _ => ?_ | refine Tr.all_h fun _ => ?_ | refine Tr.lf_h ?_))
    all_goals first | (first | first | (show Region.lexB _ _ = true; kernel_rfl) | (show planned _ _ = true; kernel_rfl) | exact rfl | exact True.intro | ((try dsimp only [imp, C0, cG, cInt2] at *); (try refine inR64 ?_ ?_) <;> (try simp only [List.length_set, List.length_append, List.length_take, List.length_drop]) <;> omega)) | (dsimp only; omega)
  · rename_i h0 h1 h2 h3 h4 h5 h6 h7 h8 h9 h10 h11
    refine Stands.one (⟨0, 0, [], 0, 0, [], 0, 0, 0, [], 0, 0, h11⟩ : Qx) ⟨⟨Nat.zero_le _, Sy0⟩, ?_⟩
    ((conv => (arg 1; reduce)); with_reducible repeat' (first | exact Tr.yes_h | refine Tr.and_h ?_ ?_ | refine Tr.imp_h fun _ => ?_ | refine Tr.all_h fun _ => ?_ | refine Tr.lf_h ?_))
    all_goals first | (first | first | (show Region.lexB _ _ = true; kernel_rfl) | (show planned _ _ = true; kernel_rfl) | exact rfl | exact True.intro | ((try dsimp only [imp, C0, cG, cInt2] at *); (try refine inR64 ?_ ?_) <;> (try simp only [List.length_set, List.length_append, List.length_take, List.length_drop]) <;> omega)) | (dsimp only; omega)
  · rename_i h0 h1 h2 h3 h4 h5 h6 h7 h8 h9 h10 h11 h12 h13 h14 h15 h16 h17 h18 h19
    refine Stands.one (⟨0, 0, [], 0, 0, [], 0, 0, 0, [], 0, 0, 0⟩ : Qx) ⟨⟨Sy0, Sy0.hok, List.Perm.refl _, rfl⟩, ?_⟩
    ((conv => (arg 1; reduce)); with_reducible repeat' (first | exact Tr.yes_h | refine Tr.and_h ?_ ?_ | refine Tr.imp_h fun _ => ?_ | refine Tr.all_h fun _ => ?_ | refine Tr.lf_h ?_))
    all_goals first | (first | first | (show Region.lexB _ _ = true; kernel_rfl) | (show planned _ _ = true; kernel_rfl) | exact rfl | exact True.intro | ((try dsimp only [imp, C0, cG, cInt2] at *); (try refine inR64 ?_ ?_) <;> (try simp only [List.length_set, List.length_append, List.length_take, List.length_drop]) <;> omega)) | (dsimp only; omega)
  · rename_i h0 h1 h2 h3 h4 h5 h6 h7 h8 h9 h10 h11 h12 h13 h14 h15 h16 h17 h18 h19 h20 h21 h22
    exact absurd h22 (by decide)
  · rename_i h0 h1 h2 h3 h4 h5 h6 h7 h8 h9 h10 h11 h12 h13 h14 h15 h16 h17 h18 h19 h20 h21 h22 h23
    exact by simp at h23
  · rename_i h0 h1 h2 h3 h4 h5 h6 h7 h8 h9 h10 h11 h12 h13 h14 h15 h16 h17 h18 h19 h20 h21 h22 h23 h24
    exact incR h14
  · rename_i h0 h1 h2 h3 h4 h5 h6 h7 h8 h9 h10 h11 h12 h13 h14 h15 h16 h17 h18 h19 h20 h21 h22 h23 h24
    refine Stands.one (⟨h12.rd + 1, 0, [], 0, 0, [], 0, 0, 0, [], 0, 0, h24⟩ : Qx) ⟨⟨ltR h14, Sy0⟩, decR h14, ?_⟩
    ((conv => (arg 1; reduce)); with_reducible repeat' (first | exact Tr.yes_h | refine Tr.and_h ?_ ?_ | refine Tr.imp_h fun _ => ?_ | refine Tr.all_h fun _ => ?_ | refine Tr.lf_h ?_))
    all_goals first | (first | first | (show Region.lexB _ _ = true; kernel_rfl) | (show planned _ _ = true; kernel_rfl) | exact rfl | exact True.intro | ((try dsimp only [imp, C0, cG, cInt2] at *); (try refine inR64 ?_ ?_) <;> (try simp only [List.length_set, List.length_append, List.length_take, List.length_drop]) <;> omega)) | (dsimp only; omega)
  · rename_i h0 h1 h2 h3 h4 h5 h6 h7 h8 h9 h10
    exact Int.natCast_nonneg _
  · rename_i h0 h1 h2 h3 h4 h5 h6 h7 h8 h9 h10
    exact of_decide_eq_true h10
  · rename_i h0 h1 h2 h3 h4 h5 h6 h7 h8 h9 h10
    exact idxN h10 hN
  · rename_i h0 h1 h2 h3 h4 h5 h6 h7 h8 h9 h10 h11
    exact Int.natCast_nonneg _
  · rename_i h0 h1 h2 h3 h4 h5 h6 h7 h8 h9 h10 h11
    exact of_decide_eq_true h10
  · rename_i h0 h1 h2 h3 h4 h5 h6 h7 h8 h9 h10 h11
    exact idxN h10 hN
  · rename_i h0 h1 h2 h3 h4 h5 h6 h7 h8 h9 h10 h11
    exact Int.natCast_nonneg _
  · rename_i h0 h1 h2 h3 h4 h5 h6 h7 h8 h9 h10 h11
    exact of_decide_eq_true h10
  · rename_i h0 h1 h2 h3 h4 h5 h6 h7 h8 h9 h10 h11
    exact idxN h10 hN
  · rename_i h0 h1 h2 h3 h4 h5 h6 h7 h8 h9 h10 h11
    exact Int.natCast_nonneg _
  · rename_i h0 h1 h2 h3 h4 h5 h6 h7 h8 h9 h10 h11
    exact of_decide_eq_true h10
  · rename_i h0 h1 h2 h3 h4 h5 h6 h7 h8 h9 h10 h11
    exact idxN h10 hN
  · rename_i h0 h1 h2 h3 h4 h5 h6 h7 h8 h9 h10 h11
    exact Int.natCast_nonneg _
  · rename_i h0 h1 h2 h3 h4 h5 h6 h7 h8 h9 h10 h11
    exact of_decide_eq_true h10
  · rename_i h0 h1 h2 h3 h4 h5 h6 h7 h8 h9 h10 h11
    exact idxN h10 hN
  · rename_i h0 h1 h2 h3 h4 h5 h6 h7 h8 h9 h10 h11
    exact (Lb_d h9).2
  · rename_i h0 h1 h2 h3 h4 h5 h6 h7 h8 h9 h10 h11 h12 h13
    exact ⟨(Lb_d h9).2.rk, (Lb_d h9).2.lok, ⟨(Lb_d h9).2.hok, .inl ⟨h13, (Lb_d h9).2.prm⟩⟩⟩
  · rename_i h0 h1 h2 h3 h4 h5 h6 h7 h8 h9 h10 h11 h12 h13 h14 h15
    exact plain_addE _
  · rename_i h0 h1 h2 h3 h4 h5 h6 h7 h8 h9 h10 h11 h12 h13 h14 h15 h16
    exact no_is hA h16
  · rename_i h0 h1 h2 h3 h4 h5 h6 h7 h8 h9 h10 h11 h12 h13 h14 h15 h16
    exact h15.2
  · rename_i h0 h1 h2 h3 h4 h5 h6 h7 h8 h9 h10 h11 h12 h13 h14 h15 h16
    exact h15.2
  · rename_i h0 h1 h2 h3 h4 h5 h6 h7 h8 h9 h10 h11 h12 h13 h14 h15 h16
    exact rhas_pre h15.2
  · rename_i h0 h1 h2 h3 h4 h5 h6 h7 h8 h9 h10 h11 h12 h13 h14 h15 h16 h17
    exact h15.2
  · rename_i h0 h1 h2 h3 h4 h5 h6 h7 h8 h9 h10 h11 h12 h13 h14 h15 h16 h17 h18
    exact Int.le_refl _
  · rename_i h0 h1 h2 h3 h4 h5 h6 h7 h8 h9 h10 h11 h12 h13 h14 h15 h16 h17 h18
    exact pos0 h18
  · rename_i h0 h1 h2 h3 h4 h5 h6 h7 h8 h9 h10 h11 h12 h13 h14 h15 h16 h17 h18
    exact at0 h15.2 h18
  · rename_i h0 h1 h2 h3 h4 h5 h6 h7 h8 h9 h10 h11 h12 h13 h14 h15 h16 h17 h18 h19
    exact Int.le_refl _
  · rename_i h0 h1 h2 h3 h4 h5 h6 h7 h8 h9 h10 h11 h12 h13 h14 h15 h16 h17 h18 h19
    exact pos0 h18
  · rename_i h0 h1 h2 h3 h4 h5 h6 h7 h8 h9 h10 h11 h12 h13 h14 h15 h16 h17 h18 h19
    exact at0 h15.2 h18
  · rename_i h0 h1 h2 h3 h4 h5 h6 h7 h8 h9 h10 h11 h12 h13 h14 h15 h16 h17 h18
    exact sum0 h18
  · rename_i h0 h1 h2 h3 h4 h5 h6 h7 h8 h9 h10 h11 h12 h13 h14 h15 h16 h17
    exact no_chain h15.2 h17
  · rename_i h0 h1 h2 h3 h4 h5 h6 h7 h8 h9 h10 h11 h12 h13 h14 h15 h16 h17
    exact incN h10 h3
  · rename_i h0 h1 h2 h3 h4 h5 h6 h7 h8 h9 h10 h11 h12 h13 h14 h15 h16 h17
    refine Stands.next (Stands.one (⟨h8.i + 1, h8.b, h8.base, h8.l, h8.n, h8.c, h8.b2, h8.base2, h8.r, h8.k, h8.rn, h8.rc⟩ : Px) ⟨⟨ltN h10, h15.2⟩, decN h10, ?_⟩)
    ((conv => (arg 1; reduce)); with_reducible repeat' (first | exact Tr.yes_h | refine Tr.and_h ?_ ?_ | refine Tr.imp_h fun _ => ?_ | refine Tr.all_h fun _ => ?_ | refine Tr.lf_h ?_))
    all_goals first | (first | first | (show Region.lexB _ _ = true; kernel_rfl) | (show planned _ _ = true; kernel_rfl) | exact rfl | exact True.intro | ((try dsimp only [imp, C0, cG, cInt2] at *); (try refine inR64 ?_ ?_) <;> (try simp only [List.length_set, List.length_append, List.length_take, List.length_drop]) <;> omega)) | (dsimp only; omega)
  · rename_i h0 h1 h2 h3 h4 h5 h6 h7 h8 h9 h10 h11 h12 h13 h14 h15
    exact plain_addE _
  · rename_i h0 h1 h2 h3 h4 h5 h6 h7 h8 h9 h10 h11 h12 h13 h14 h15 h16
    exact (tf h13 h15.1).elim
  · rename_i h0 h1 h2 h3 h4 h5 h6 h7 h8 h9 h10 h11 h12 h13 h14 h15 h16
    exact (tf h13 h15.1).elim
  · rename_i h0 h1 h2 h3 h4 h5 h6 h7 h8 h9 h10 h11 h12 h13 h14 h15 h16
    exact (tf h13 h15.1).elim
  · rename_i h0 h1 h2 h3 h4 h5 h6 h7 h8 h9 h10 h11 h12 h13 h14 h15 h16
    exact (tf h13 h15.1).elim
  · rename_i h0 h1 h2 h3 h4 h5 h6 h7 h8 h9 h10 h11 h12 h13 h14 h15 h16 h17
    exact (tf h13 h15.1).elim
  · rename_i h0 h1 h2 h3 h4 h5 h6 h7 h8 h9 h10 h11 h12 h13 h14 h15 h16 h17 h18
    exact (tf h13 h15.1).elim
  · rename_i h0 h1 h2 h3 h4 h5 h6 h7 h8 h9 h10 h11 h12 h13 h14 h15 h16 h17 h18
    exact (tf h13 h15.1).elim
  · rename_i h0 h1 h2 h3 h4 h5 h6 h7 h8 h9 h10 h11 h12 h13 h14 h15 h16 h17 h18
    exact (tf h13 h15.1).elim
  · rename_i h0 h1 h2 h3 h4 h5 h6 h7 h8 h9 h10 h11 h12 h13 h14 h15 h16 h17 h18 h19
    exact (tf h13 h15.1).elim
  · rename_i h0 h1 h2 h3 h4 h5 h6 h7 h8 h9 h10 h11 h12 h13 h14 h15 h16 h17 h18 h19
    exact (tf h13 h15.1).elim
  · rename_i h0 h1 h2 h3 h4 h5 h6 h7 h8 h9 h10 h11 h12 h13 h14 h15 h16 h17 h18 h19
    exact (tf h13 h15.1).elim
  · rename_i h0 h1 h2 h3 h4 h5 h6 h7 h8 h9 h10 h11 h12 h13 h14 h15 h16 h17 h18
    exact (tf h13 h15.1).elim
  · rename_i h0 h1 h2 h3 h4 h5 h6 h7 h8 h9 h10 h11 h12 h13 h14 h15 h16 h17
    exact (tf h13 h15.1).elim
  · rename_i h0 h1 h2 h3 h4 h5 h6 h7 h8 h9 h10 h11 h12 h13 h14 h15 h16 h17
    exact (tf h13 h15.1).elim
  · rename_i h0 h1 h2 h3 h4 h5 h6 h7 h8 h9 h10 h11 h12 h13 h14 h15 h16 h17
    exact (tf h13 h15.1).elim
  · rename_i h0 h1 h2 h3 h4 h5 h6 h7 h8 h9 h10 h11 h12 h13
    exact ⟨(Lb_d h9).2.rk, (Lb_d h9).2.lok, ⟨h13.2.1, .inr ⟨h13.1, h13.2.2⟩⟩⟩
  · rename_i h0 h1 h2 h3 h4 h5 h6 h7 h8 h9 h10 h11 h12 h13 h14 h15 h16
    exact (tf h15.1 h13.1).elim
  · rename_i h0 h1 h2 h3 h4 h5 h6 h7 h8 h9 h10 h11 h12 h13 h14 h15 h16
    exact (tf h15.1 h13.1).elim
  · rename_i h0 h1 h2 h3 h4 h5 h6 h7 h8 h9 h10 h11 h12 h13 h14 h15 h16
    exact (tf h15.1 h13.1).elim
  · rename_i h0 h1 h2 h3 h4 h5 h6 h7 h8 h9 h10 h11 h12 h13 h14 h15 h16
    exact (tf h15.1 h13.1).elim
  · rename_i h0 h1 h2 h3 h4 h5 h6 h7 h8 h9 h10 h11 h12 h13 h14 h15 h16 h17
    exact (tf h15.1 h13.1).elim
  · rename_i h0 h1 h2 h3 h4 h5 h6 h7 h8 h9 h10 h11 h12 h13 h14 h15 h16 h17 h18
    exact (tf h15.1 h13.1).elim
  · rename_i h0 h1 h2 h3 h4 h5 h6 h7 h8 h9 h10 h11 h12 h13 h14 h15 h16 h17 h18
    exact (tf h15.1 h13.1).elim
  · rename_i h0 h1 h2 h3 h4 h5 h6 h7 h8 h9 h10 h11 h12 h13 h14 h15 h16 h17 h18
    exact (tf h15.1 h13.1).elim
  · rename_i h0 h1 h2 h3 h4 h5 h6 h7 h8 h9 h10 h11 h12 h13 h14 h15 h16 h17 h18 h19
    exact (tf h15.1 h13.1).elim
  · rename_i h0 h1 h2 h3 h4 h5 h6 h7 h8 h9 h10 h11 h12 h13 h14 h15 h16 h17 h18 h19
    exact (tf h15.1 h13.1).elim
  · rename_i h0 h1 h2 h3 h4 h5 h6 h7 h8 h9 h10 h11 h12 h13 h14 h15 h16 h17 h18 h19
    exact (tf h15.1 h13.1).elim
  · rename_i h0 h1 h2 h3 h4 h5 h6 h7 h8 h9 h10 h11 h12 h13 h14 h15 h16 h17 h18
    exact (tf h15.1 h13.1).elim
  · rename_i h0 h1 h2 h3 h4 h5 h6 h7 h8 h9 h10 h11 h12 h13 h14 h15 h16 h17
    exact (tf h15.1 h13.1).elim
  · rename_i h0 h1 h2 h3 h4 h5 h6 h7 h8 h9 h10 h11 h12 h13 h14 h15 h16 h17
    exact (tf h15.1 h13.1).elim
  · rename_i h0 h1 h2 h3 h4 h5 h6 h7 h8 h9 h10 h11 h12 h13 h14 h15 h16 h17
    exact (tf h15.1 h13.1).elim
  · rename_i h0 h1 h2 h3 h4 h5 h6 h7 h8 h9 h10 h11 h12 h13 h14 h15 h16
    exact absurd h16 (by decide)
  · rename_i h0 h1 h2 h3 h4 h5 h6 h7 h8 h9 h10 h11 h12 h13 h14 h15 h16
    exact h15.2
  · rename_i h0 h1 h2 h3 h4 h5 h6 h7 h8 h9 h10 h11 h12 h13 h14 h15 h16
    exact h15.2
  · rename_i h0 h1 h2 h3 h4 h5 h6 h7 h8 h9 h10 h11 h12 h13 h14 h15 h16
    exact rhas_pre h15.2
  · rename_i h0 h1 h2 h3 h4 h5 h6 h7 h8 h9 h10 h11 h12 h13 h14 h15 h16 h17
    exact h15.2
  · rename_i h0 h1 h2 h3 h4 h5 h6 h7 h8 h9 h10 h11 h12 h13 h14 h15 h16 h17 h18
    exact Int.le_refl _
  · rename_i h0 h1 h2 h3 h4 h5 h6 h7 h8 h9 h10 h11 h12 h13 h14 h15 h16 h17 h18
    exact pos0 h18
  · rename_i h0 h1 h2 h3 h4 h5 h6 h7 h8 h9 h10 h11 h12 h13 h14 h15 h16 h17 h18
    exact at0 h15.2 h18
  · rename_i h0 h1 h2 h3 h4 h5 h6 h7 h8 h9 h10 h11 h12 h13 h14 h15 h16 h17 h18 h19
    exact Int.le_refl _
  · rename_i h0 h1 h2 h3 h4 h5 h6 h7 h8 h9 h10 h11 h12 h13 h14 h15 h16 h17 h18 h19
    exact pos0 h18
  · rename_i h0 h1 h2 h3 h4 h5 h6 h7 h8 h9 h10 h11 h12 h13 h14 h15 h16 h17 h18 h19
    exact at0 h15.2 h18
  · rename_i h0 h1 h2 h3 h4 h5 h6 h7 h8 h9 h10 h11 h12 h13 h14 h15 h16 h17 h18
    exact sum0 h18
  · rename_i h0 h1 h2 h3 h4 h5 h6 h7 h8 h9 h10 h11 h12 h13 h14 h15 h16 h17
    exact no_chain h15.2 h17
  · rename_i h0 h1 h2 h3 h4 h5 h6 h7 h8 h9 h10 h11 h12 h13 h14 h15 h16 h17
    exact incN h10 h3
  · rename_i h0 h1 h2 h3 h4 h5 h6 h7 h8 h9 h10 h11 h12 h13 h14 h15 h16 h17
    refine Stands.next (Stands.one (⟨h8.i + 1, h12.1, h12.2.1, h12.2.2.1, h8.n + 1, h12.2.2.2, h14.2.b, h14.2.q, h14.2.l, h14.2.k, h14.2.n, h14.2.c⟩ : Px) ⟨⟨ltN h10, h15.2⟩, decN h10, ?_⟩)
    ((conv => (arg 1; reduce)); with_reducible repeat' (first | exact Tr.yes_h | refine Tr.and_h ?_ ?_ | refine Tr.imp_h fun _ => ?_ | refine Tr.all_h fun _ => ?_ | refine Tr.lf_h ?_))
    all_goals first | (first | first | (show Region.lexB _ _ = true; kernel_rfl) | (show planned _ _ = true; kernel_rfl) | exact rfl | exact True.intro | ((try dsimp only [imp, C0, cG, cInt2] at *); (try refine inR64 ?_ ?_) <;> (try simp only [List.length_set, List.length_append, List.length_take, List.length_drop]) <;> omega)) | (dsimp only; omega)
  · rename_i h0 h1 h2 h3 h4 h5 h6 h7 h8 h9 h10 h11 h12
    exact Int.natCast_nonneg _
  · rename_i h0 h1 h2 h3 h4 h5 h6 h7 h8 h9 h10 h11 h12
    exact of_decide_eq_true h10
  · rename_i h0 h1 h2 h3 h4 h5 h6 h7 h8 h9 h10 h11 h12
    exact idxN h10 hN
  · rename_i h0 h1 h2 h3 h4 h5 h6 h7 h8 h9 h10 h11 h12
    exact Int.natCast_nonneg _
  · rename_i h0 h1 h2 h3 h4 h5 h6 h7 h8 h9 h10 h11 h12
    exact of_decide_eq_true h10
  · rename_i h0 h1 h2 h3 h4 h5 h6 h7 h8 h9 h10 h11 h12
    exact idxN h10 hN
  · rename_i h0 h1 h2 h3 h4 h5 h6 h7 h8 h9 h10 h11 h12
    exact (Lb_d h9).2
  · rename_i h0 h1 h2 h3 h4 h5 h6 h7 h8 h9 h10 h11 h12 h13 h14
    exact ⟨(Lb_d h9).2.rk, (Lb_d h9).2.lok, h14.2⟩
  · rename_i h0 h1 h2 h3 h4 h5 h6 h7 h8 h9 h10 h11 h12 h13 h14 h15 h16 h17
    exact no_remF h14.1 h16.1 h17
  · rename_i h0 h1 h2 h3 h4 h5 h6 h7 h8 h9 h10 h11 h12 h13 h14 h15 h16 h17
    exact h16.2
  · rename_i h0 h1 h2 h3 h4 h5 h6 h7 h8 h9 h10 h11 h12 h13 h14 h15 h16 h17
    exact h16.2
  · rename_i h0 h1 h2 h3 h4 h5 h6 h7 h8 h9 h10 h11 h12 h13 h14 h15 h16 h17
    exact rhas_pre h16.2
  · rename_i h0 h1 h2 h3 h4 h5 h6 h7 h8 h9 h10 h11 h12 h13 h14 h15 h16 h17 h18
    exact h16.2
  · rename_i h0 h1 h2 h3 h4 h5 h6 h7 h8 h9 h10 h11 h12 h13 h14 h15 h16 h17 h18 h19
    exact Int.le_refl _
  · rename_i h0 h1 h2 h3 h4 h5 h6 h7 h8 h9 h10 h11 h12 h13 h14 h15 h16 h17 h18 h19
    exact pos0 h19
  · rename_i h0 h1 h2 h3 h4 h5 h6 h7 h8 h9 h10 h11 h12 h13 h14 h15 h16 h17 h18 h19
    exact at0 h16.2 h19
  · rename_i h0 h1 h2 h3 h4 h5 h6 h7 h8 h9 h10 h11 h12 h13 h14 h15 h16 h17 h18 h19 h20
    exact Int.le_refl _
  · rename_i h0 h1 h2 h3 h4 h5 h6 h7 h8 h9 h10 h11 h12 h13 h14 h15 h16 h17 h18 h19 h20
    exact pos0 h19
  · rename_i h0 h1 h2 h3 h4 h5 h6 h7 h8 h9 h10 h11 h12 h13 h14 h15 h16 h17 h18 h19 h20
    exact at0 h16.2 h19
  · rename_i h0 h1 h2 h3 h4 h5 h6 h7 h8 h9 h10 h11 h12 h13 h14 h15 h16 h17 h18 h19
    exact sum0 h19
  · rename_i h0 h1 h2 h3 h4 h5 h6 h7 h8 h9 h10 h11 h12 h13 h14 h15 h16 h17 h18
    exact no_chain h16.2 h18
  · rename_i h0 h1 h2 h3 h4 h5 h6 h7 h8 h9 h10 h11 h12 h13 h14 h15 h16 h17 h18
    exact incN h10 h3
  · rename_i h0 h1 h2 h3 h4 h5 h6 h7 h8 h9 h10 h11 h12 h13 h14 h15 h16 h17 h18
    refine Stands.next (Stands.one (⟨h8.i + 1, h8.b, h8.base, h13.1, h13.2.1, h8.c, h8.b2, h8.base2, h8.r, h8.k, h8.rn, h8.rc⟩ : Px) ⟨⟨ltN h10, h16.2⟩, decN h10, ?_⟩)
    ((conv => (arg 1; reduce)); with_reducible repeat' (first | exact Tr.yes_h | refine Tr.and_h ?_ ?_ | refine Tr.imp_h fun _ => ?_ | refine Tr.all_h fun _ => ?_ | refine Tr.lf_h ?_))
    all_goals first | (first | first | (show Region.lexB _ _ = true; kernel_rfl) | (show planned _ _ = true; kernel_rfl) | exact rfl | exact True.intro | ((try dsimp only [imp, C0, cG, cInt2] at *); (try refine inR64 ?_ ?_) <;> (try simp only [List.length_set, List.length_append, List.length_take, List.length_drop]) <;> omega)) | (dsimp only; omega)
  · rename_i h0 h1 h2 h3 h4 h5 h6 h7 h8 h9 h10 h11 h12 h13 h14 h15 h16 h17
    exact no_remT h14.1 h16.1 h17
  · rename_i h0 h1 h2 h3 h4 h5 h6 h7 h8 h9 h10 h11 h12 h13 h14 h15 h16 h17
    exact h16.2
  · rename_i h0 h1 h2 h3 h4 h5 h6 h7 h8 h9 h10 h11 h12 h13 h14 h15 h16 h17
    exact h16.2
  · rename_i h0 h1 h2 h3 h4 h5 h6 h7 h8 h9 h10 h11 h12 h13 h14 h15 h16 h17
    exact rhas_pre h16.2
  · rename_i h0 h1 h2 h3 h4 h5 h6 h7 h8 h9 h10 h11 h12 h13 h14 h15 h16 h17 h18
    exact h16.2
  · rename_i h0 h1 h2 h3 h4 h5 h6 h7 h8 h9 h10 h11 h12 h13 h14 h15 h16 h17 h18 h19
    exact Int.le_refl _
  · rename_i h0 h1 h2 h3 h4 h5 h6 h7 h8 h9 h10 h11 h12 h13 h14 h15 h16 h17 h18 h19
    exact pos0 h19
  · rename_i h0 h1 h2 h3 h4 h5 h6 h7 h8 h9 h10 h11 h12 h13 h14 h15 h16 h17 h18 h19
    exact at0 h16.2 h19
  · rename_i h0 h1 h2 h3 h4 h5 h6 h7 h8 h9 h10 h11 h12 h13 h14 h15 h16 h17 h18 h19 h20
    exact Int.le_refl _
  · rename_i h0 h1 h2 h3 h4 h5 h6 h7 h8 h9 h10 h11 h12 h13 h14 h15 h16 h17 h18 h19 h20
    exact pos0 h19
  · rename_i h0 h1 h2 h3 h4 h5 h6 h7 h8 h9 h10 h11 h12 h13 h14 h15 h16 h17 h18 h19 h20
    exact at0 h16.2 h19
  · rename_i h0 h1 h2 h3 h4 h5 h6 h7 h8 h9 h10 h11 h12 h13 h14 h15 h16 h17 h18 h19
    exact sum0 h19
  · rename_i h0 h1 h2 h3 h4 h5 h6 h7 h8 h9 h10 h11 h12 h13 h14 h15 h16 h17 h18
    exact no_chain h16.2 h18
  · rename_i h0 h1 h2 h3 h4 h5 h6 h7 h8 h9 h10 h11 h12 h13 h14 h15 h16 h17 h18
    exact incN h10 h3
  · rename_i h0 h1 h2 h3 h4 h5 h6 h7 h8 h9 h10 h11 h12 h13 h14 h15 h16 h17 h18
    refine Stands.next (Stands.one (⟨h8.i + 1, h8.b, h8.base, h13.1, h13.2.1, h8.c, h15.2.b, h15.2.q, h15.2.l, h15.2.k, h15.2.n, h15.2.c⟩ : Px) ⟨⟨ltN h10, h16.2⟩, decN h10, ?_⟩)
    ((conv => (arg 1; reduce)); with_reducible repeat' (first | exact Tr.yes_h | refine Tr.and_h ?_ ?_ | refine Tr.imp_h fun _ => ?_ | refine Tr.all_h fun _ => ?_ | refine Tr.lf_h ?_))
    all_goals first | (first | first | (show Region.lexB _ _ = true; kernel_rfl) | (show planned _ _ = true; kernel_rfl) | exact rfl | exact True.intro | ((try dsimp only [imp, C0, cG, cInt2] at *); (try refine inR64 ?_ ?_) <;> (try simp only [List.length_set, List.length_append, List.length_take, List.length_drop]) <;> omega)) | (dsimp only; omega)
  · rename_i h0 h1 h2 h3 h4 h5 h6 h7 h8 h9 h10 h11 h12 h13
    exact (Lb_d h9).2
  · rename_i h0 h1 h2 h3 h4 h5 h6 h7 h8 h9 h10 h11 h12 h13 h14 h15
    exact ⟨(Lb_d h9).2.rk, (Lb_d h9).2.lok, h15.2.2.1, h15.2.2.2.1⟩
  · rename_i h0 h1 h2 h3 h4 h5 h6 h7 h8 h9 h10 h11 h12 h13 h14 h15 h16 h17 h18
    exact no_take0 h15.1 h15.2.1 h17.1 h18
  · rename_i h0 h1 h2 h3 h4 h5 h6 h7 h8 h9 h10 h11 h12 h13 h14 h15 h16 h17 h18
    exact h17.2
  · rename_i h0 h1 h2 h3 h4 h5 h6 h7 h8 h9 h10 h11 h12 h13 h14 h15 h16 h17 h18
    exact h17.2
  · rename_i h0 h1 h2 h3 h4 h5 h6 h7 h8 h9 h10 h11 h12 h13 h14 h15 h16 h17 h18
    exact rhas_pre h17.2
  · rename_i h0 h1 h2 h3 h4 h5 h6 h7 h8 h9 h10 h11 h12 h13 h14 h15 h16 h17 h18 h19
    exact h17.2
  · rename_i h0 h1 h2 h3 h4 h5 h6 h7 h8 h9 h10 h11 h12 h13 h14 h15 h16 h17 h18 h19 h20
    exact Int.le_refl _
  · rename_i h0 h1 h2 h3 h4 h5 h6 h7 h8 h9 h10 h11 h12 h13 h14 h15 h16 h17 h18 h19 h20
    exact pos0 h20
  · rename_i h0 h1 h2 h3 h4 h5 h6 h7 h8 h9 h10 h11 h12 h13 h14 h15 h16 h17 h18 h19 h20
    exact at0 h17.2 h20
  · rename_i h0 h1 h2 h3 h4 h5 h6 h7 h8 h9 h10 h11 h12 h13 h14 h15 h16 h17 h18 h19 h20 h21
    exact Int.le_refl _
  · rename_i h0 h1 h2 h3 h4 h5 h6 h7 h8 h9 h10 h11 h12 h13 h14 h15 h16 h17 h18 h19 h20 h21
    exact pos0 h20
  · rename_i h0 h1 h2 h3 h4 h5 h6 h7 h8 h9 h10 h11 h12 h13 h14 h15 h16 h17 h18 h19 h20 h21
    exact at0 h17.2 h20
  · rename_i h0 h1 h2 h3 h4 h5 h6 h7 h8 h9 h10 h11 h12 h13 h14 h15 h16 h17 h18 h19 h20
    exact sum0 h20
  · rename_i h0 h1 h2 h3 h4 h5 h6 h7 h8 h9 h10 h11 h12 h13 h14 h15 h16 h17 h18 h19
    exact no_chain h17.2 h19
  · rename_i h0 h1 h2 h3 h4 h5 h6 h7 h8 h9 h10 h11 h12 h13 h14 h15 h16 h17 h18 h19
    exact incN h10 h3
  · rename_i h0 h1 h2 h3 h4 h5 h6 h7 h8 h9 h10 h11 h12 h13 h14 h15 h16 h17 h18 h19
    refine Stands.next (Stands.one (⟨h8.i + 1, h8.b, h8.base, h14.1, h8.n - 1, h8.c, h8.b2, h8.base2, h8.r, h8.k, h8.rn, h8.rc⟩ : Px) ⟨⟨ltN h10, h17.2⟩, decN h10, ?_⟩)
    ((conv => (arg 1; reduce)); with_reducible repeat' (first | exact Tr.yes_h | refine Tr.and_h ?_ ?_ | refine Tr.imp_h fun _ => ?_ | refine Tr.all_h fun _ => ?_ | refine Tr.lf_h ?_))
    all_goals first | (first | first | (show Region.lexB _ _ = true; kernel_rfl) | (show planned _ _ = true; kernel_rfl) | exact rfl | exact True.intro | ((try dsimp only [imp, C0, cG, cInt2] at *); (try refine inR64 ?_ ?_) <;> (try simp only [List.length_set, List.length_append, List.length_take, List.length_drop]) <;> omega)) | (dsimp only; omega)
  · rename_i h0 h1 h2 h3 h4 h5 h6 h7 h8 h9 h10 h11 h12 h13 h14 h15 h16 h17 h18
    exact no_take1 h15.1 h15.2.1 h17.1 h18
  · rename_i h0 h1 h2 h3 h4 h5 h6 h7 h8 h9 h10 h11 h12 h13 h14 h15 h16 h17 h18
    exact h17.2
  · rename_i h0 h1 h2 h3 h4 h5 h6 h7 h8 h9 h10 h11 h12 h13 h14 h15 h16 h17 h18
    exact h17.2
  · rename_i h0 h1 h2 h3 h4 h5 h6 h7 h8 h9 h10 h11 h12 h13 h14 h15 h16 h17 h18
    exact rhas_pre h17.2
  · rename_i h0 h1 h2 h3 h4 h5 h6 h7 h8 h9 h10 h11 h12 h13 h14 h15 h16 h17 h18 h19
    exact h17.2
  · rename_i h0 h1 h2 h3 h4 h5 h6 h7 h8 h9 h10 h11 h12 h13 h14 h15 h16 h17 h18 h19 h20
    exact Int.le_refl _
  · rename_i h0 h1 h2 h3 h4 h5 h6 h7 h8 h9 h10 h11 h12 h13 h14 h15 h16 h17 h18 h19 h20
    exact pos0 h20
  · rename_i h0 h1 h2 h3 h4 h5 h6 h7 h8 h9 h10 h11 h12 h13 h14 h15 h16 h17 h18 h19 h20
    exact at0 h17.2 h20
  · rename_i h0 h1 h2 h3 h4 h5 h6 h7 h8 h9 h10 h11 h12 h13 h14 h15 h16 h17 h18 h19 h20 h21
    exact Int.le_refl _
  · rename_i h0 h1 h2 h3 h4 h5 h6 h7 h8 h9 h10 h11 h12 h13 h14 h15 h16 h17 h18 h19 h20 h21
    exact pos0 h20
  · rename_i h0 h1 h2 h3 h4 h5 h6 h7 h8 h9 h10 h11 h12 h13 h14 h15 h16 h17 h18 h19 h20 h21
    exact at0 h17.2 h20
  · rename_i h0 h1 h2 h3 h4 h5 h6 h7 h8 h9 h10 h11 h12 h13 h14 h15 h16 h17 h18 h19 h20
    exact sum0 h20
  · rename_i h0 h1 h2 h3 h4 h5 h6 h7 h8 h9 h10 h11 h12 h13 h14 h15 h16 h17 h18 h19
    exact no_chain h17.2 h19
  · rename_i h0 h1 h2 h3 h4 h5 h6 h7 h8 h9 h10 h11 h12 h13 h14 h15 h16 h17 h18 h19
    exact incN h10 h3
  · rename_i h0 h1 h2 h3 h4 h5 h6 h7 h8 h9 h10 h11 h12 h13 h14 h15 h16 h17 h18 h19
    refine Stands.next (Stands.one (⟨h8.i + 1, h8.b, h8.base, h14.1, h8.n - 1, h8.c, h8.b2, h8.base2, h8.r, srow h8.rc 1 h8.k, h8.rn - 1, h8.rc - 1⟩ : Px) ⟨⟨ltN h10, h17.2⟩, decN h10, ?_⟩)
    ((conv => (arg 1; reduce)); with_reducible repeat' (first | exact Tr.yes_h | refine Tr.and_h ?_ ?_ | refine Tr.imp_h fun _ => ?_ | refine Tr.all_h fun _ => ?_ | refine Tr.lf_h ?_))
    all_goals first | (first | first | (show Region.lexB _ _ = true; kernel_rfl) | (show planned _ _ = true; kernel_rfl) | exact rfl | exact True.intro | ((try dsimp only [imp, C0, cG, cInt2] at *); (try refine inR64 ?_ ?_) <;> (try simp only [List.length_set, List.length_append, List.length_take, List.length_drop]) <;> omega)) | (dsimp only; omega)
  · rename_i h0 h1 h2 h3 h4 h5 h6 h7 h8 h9 h10 h11 h12 h13
    exact (Lb_d h9).2
  · rename_i h0 h1 h2 h3 h4 h5 h6 h7 h8 h9 h10 h11 h12 h13 h14 h15
    exact rhas_pre (Lb_d h9).2
  · rename_i h0 h1 h2 h3 h4 h5 h6 h7 h8 h9 h10 h11 h12 h13 h14 h15 h16 h17 h18 h19
    exact (most0 h15.1 h17 h19).elim
  · rename_i h0 h1 h2 h3 h4 h5 h6 h7 h8 h9 h10 h11 h12 h13 h14 h15 h16 h17 h18 h19
    exact (most0 h15.1 h17 h19).elim
  · rename_i h0 h1 h2 h3 h4 h5 h6 h7 h8 h9 h10 h11 h12 h13 h14 h15 h16 h17 h18 h19
    exact (most0 h15.1 h17 h19).elim
  · rename_i h0 h1 h2 h3 h4 h5 h6 h7 h8 h9 h10 h11 h12 h13 h14 h15 h16 h17 h18
    exact no_most0 h15.1 h17 h18
  · rename_i h0 h1 h2 h3 h4 h5 h6 h7 h8 h9 h10 h11 h12 h13 h14 h15 h16 h17 h18 h19
    exact (most0 h15.1 h17 h19).elim
  · rename_i h0 h1 h2 h3 h4 h5 h6 h7 h8 h9 h10 h11 h12 h13 h14 h15 h16 h17 h18 h19 h20 h21
    exact (most0 h15.1 h17 h19).elim
  · rename_i h0 h1 h2 h3 h4 h5 h6 h7 h8 h9 h10 h11 h12 h13 h14 h15 h16 h17 h18 h19 h20 h21
    exact (most0 h15.1 h17 h19).elim
  · rename_i h0 h1 h2 h3 h4 h5 h6 h7 h8 h9 h10 h11 h12 h13 h14 h15 h16 h17 h18 h19 h20 h21
    exact (most0 h15.1 h17 h19).elim
  · rename_i h0 h1 h2 h3 h4 h5 h6 h7 h8 h9 h10 h11 h12 h13 h14 h15 h16 h17 h18 h19 h20 h21 h22
    exact (most0 h15.1 h17 h19).elim
  · rename_i h0 h1 h2 h3 h4 h5 h6 h7 h8 h9 h10 h11 h12 h13 h14 h15 h16 h17 h18 h19 h20 h21 h22 h23
    exact (most0 h15.1 h17 h19).elim
  · rename_i h0 h1 h2 h3 h4 h5 h6 h7 h8 h9 h10 h11 h12 h13 h14 h15 h16 h17 h18 h19 h20 h21 h22 h23
    exact (most0 h15.1 h17 h19).elim
  · rename_i h0 h1 h2 h3 h4 h5 h6 h7 h8 h9 h10 h11 h12 h13 h14 h15 h16 h17 h18 h19 h20 h21 h22 h23
    exact (most0 h15.1 h17 h19).elim
  · rename_i h0 h1 h2 h3 h4 h5 h6 h7 h8 h9 h10 h11 h12 h13 h14 h15 h16 h17 h18 h19 h20 h21 h22 h23 h24
    exact (most0 h15.1 h17 h19).elim
  · rename_i h0 h1 h2 h3 h4 h5 h6 h7 h8 h9 h10 h11 h12 h13 h14 h15 h16 h17 h18 h19 h20 h21 h22 h23 h24
    exact (most0 h15.1 h17 h19).elim
  · rename_i h0 h1 h2 h3 h4 h5 h6 h7 h8 h9 h10 h11 h12 h13 h14 h15 h16 h17 h18 h19 h20 h21 h22 h23 h24
    exact (most0 h15.1 h17 h19).elim
  · rename_i h0 h1 h2 h3 h4 h5 h6 h7 h8 h9 h10 h11 h12 h13 h14 h15 h16 h17 h18 h19 h20 h21 h22 h23
    exact (most0 h15.1 h17 h19).elim
  · rename_i h0 h1 h2 h3 h4 h5 h6 h7 h8 h9 h10 h11 h12 h13 h14 h15 h16 h17 h18 h19 h20 h21 h22
    exact (most0 h15.1 h17 h19).elim
  · rename_i h0 h1 h2 h3 h4 h5 h6 h7 h8 h9 h10 h11 h12 h13 h14 h15 h16 h17 h18 h19 h20 h21 h22
    exact (most0 h15.1 h17 h19).elim
  · rename_i h0 h1 h2 h3 h4 h5 h6 h7 h8 h9 h10 h11 h12 h13 h14 h15 h16 h17 h18 h19 h20 h21 h22
    exact (most0 h15.1 h17 h19).elim
  · rename_i h0 h1 h2 h3 h4 h5 h6 h7 h8 h9 h10 h11 h12 h13 h14 h15 h16 h17 h18 h19 h20 h21
    exact (most0 h15.1 h17 h19).elim
  · rename_i h0 h1 h2 h3 h4 h5 h6 h7 h8 h9 h10 h11 h12 h13 h14 h15 h16 h17 h18 h19 h20 h21
    exact (most0 h15.1 h17 h19).elim
  · rename_i h0 h1 h2 h3 h4 h5 h6 h7 h8 h9 h10 h11 h12 h13 h14 h15 h16 h17 h18 h19 h20 h21
    exact (most0 h15.1 h17 h19).elim
  · rename_i h0 h1 h2 h3 h4 h5 h6 h7 h8 h9 h10 h11 h12 h13 h14 h15 h16 h17 h18 h19 h20 h21 h22
    exact (most0 h15.1 h17 h19).elim
  · rename_i h0 h1 h2 h3 h4 h5 h6 h7 h8 h9 h10 h11 h12 h13 h14 h15 h16 h17 h18 h19 h20 h21 h22 h23
    exact (most0 h15.1 h17 h19).elim
  · rename_i h0 h1 h2 h3 h4 h5 h6 h7 h8 h9 h10 h11 h12 h13 h14 h15 h16 h17 h18 h19 h20 h21 h22 h23
    exact (most0 h15.1 h17 h19).elim
  · rename_i h0 h1 h2 h3 h4 h5 h6 h7 h8 h9 h10 h11 h12 h13 h14 h15 h16 h17 h18 h19 h20 h21 h22 h23
    exact (most0 h15.1 h17 h19).elim
  · rename_i h0 h1 h2 h3 h4 h5 h6 h7 h8 h9 h10 h11 h12 h13 h14 h15 h16 h17 h18 h19 h20 h21 h22 h23 h24
    exact (most0 h15.1 h17 h19).elim
  · rename_i h0 h1 h2 h3 h4 h5 h6 h7 h8 h9 h10 h11 h12 h13 h14 h15 h16 h17 h18 h19 h20 h21 h22 h23 h24
    exact (most0 h15.1 h17 h19).elim
  · rename_i h0 h1 h2 h3 h4 h5 h6 h7 h8 h9 h10 h11 h12 h13 h14 h15 h16 h17 h18 h19 h20 h21 h22 h23 h24
    exact (most0 h15.1 h17 h19).elim
  · rename_i h0 h1 h2 h3 h4 h5 h6 h7 h8 h9 h10 h11 h12 h13 h14 h15 h16 h17 h18 h19 h20 h21 h22 h23
    exact (most0 h15.1 h17 h19).elim
  · rename_i h0 h1 h2 h3 h4 h5 h6 h7 h8 h9 h10 h11 h12 h13 h14 h15 h16 h17 h18 h19 h20 h21 h22
    exact (most0 h15.1 h17 h19).elim
  · rename_i h0 h1 h2 h3 h4 h5 h6 h7 h8 h9 h10 h11 h12 h13 h14 h15 h16 h17 h18 h19 h20 h21 h22
    exact (most0 h15.1 h17 h19).elim
  · rename_i h0 h1 h2 h3 h4 h5 h6 h7 h8 h9 h10 h11 h12 h13 h14 h15 h16 h17 h18 h19 h20 h21 h22
    exact (most0 h15.1 h17 h19).elim
  · rename_i h0 h1 h2 h3 h4 h5 h6 h7 h8 h9 h10 h11 h12 h13 h14 h15 h16 h17 h18 h19
    exact (h15.2.2.2 h17)
  · rename_i h0 h1 h2 h3 h4 h5 h6 h7 h8 h9 h10 h11 h12 h13 h14 h15 h16 h17 h18 h19
    exact (h15.2.2.2 h17)
  · rename_i h0 h1 h2 h3 h4 h5 h6 h7 h8 h9 h10 h11 h12 h13 h14 h15 h16 h17 h18 h19
    exact rhas_pre (h15.2.2.2 h17)
  · rename_i h0 h1 h2 h3 h4 h5 h6 h7 h8 h9 h10 h11 h12 h13 h14 h15 h16 h17 h18 h19 h20
    exact (h15.2.2.2 h17)
  · rename_i h0 h1 h2 h3 h4 h5 h6 h7 h8 h9 h10 h11 h12 h13 h14 h15 h16 h17 h18 h19 h20 h21
    exact Int.le_refl _
  · rename_i h0 h1 h2 h3 h4 h5 h6 h7 h8 h9 h10 h11 h12 h13 h14 h15 h16 h17 h18 h19 h20 h21
    exact pos0 h21
  · rename_i h0 h1 h2 h3 h4 h5 h6 h7 h8 h9 h10 h11 h12 h13 h14 h15 h16 h17 h18 h19 h20 h21
    exact at0 (h15.2.2.2 h17) h21
  · rename_i h0 h1 h2 h3 h4 h5 h6 h7 h8 h9 h10 h11 h12 h13 h14 h15 h16 h17 h18 h19 h20 h21 h22
    exact Int.le_refl _
  · rename_i h0 h1 h2 h3 h4 h5 h6 h7 h8 h9 h10 h11 h12 h13 h14 h15 h16 h17 h18 h19 h20 h21 h22
    exact pos0 h21
  · rename_i h0 h1 h2 h3 h4 h5 h6 h7 h8 h9 h10 h11 h12 h13 h14 h15 h16 h17 h18 h19 h20 h21 h22
    exact at0 (h15.2.2.2 h17) h21
  · rename_i h0 h1 h2 h3 h4 h5 h6 h7 h8 h9 h10 h11 h12 h13 h14 h15 h16 h17 h18 h19 h20 h21
    exact sum0 h21
  · rename_i h0 h1 h2 h3 h4 h5 h6 h7 h8 h9 h10 h11 h12 h13 h14 h15 h16 h17 h18 h19 h20
    exact no_chain (h15.2.2.2 h17) h20
  · rename_i h0 h1 h2 h3 h4 h5 h6 h7 h8 h9 h10 h11 h12 h13 h14 h15 h16 h17 h18 h19 h20
    exact incN h10 h3
  · rename_i h0 h1 h2 h3 h4 h5 h6 h7 h8 h9 h10 h11 h12 h13 h14 h15 h16 h17 h18 h19 h20
    refine Stands.next (Stands.one (⟨h8.i + 1, h8.b, h8.base, h14.1, h8.n - 1, h8.c, h8.b2, h8.base2, h8.r, h8.k, h8.rn, h8.rc⟩ : Px) ⟨⟨ltN h10, (h15.2.2.2 h17)⟩, decN h10, ?_⟩)
    ((conv => (arg 1; reduce)); with_reducible repeat' (first | exact Tr.yes_h | refine Tr.and_h ?_ ?_ | refine Tr.imp_h fun _ => ?_ | refine Tr.all_h fun _ => ?_ | refine Tr.lf_h ?_))
    all_goals first | (first | first | (show Region.lexB _ _ = true; kernel_rfl) | (show planned _ _ = true; kernel_rfl) | exact rfl | exact True.intro | ((try dsimp only [imp, C0, cG, cInt2] at *); (try refine inR64 ?_ ?_) <;> (try simp only [List.length_set, List.length_append, List.length_take, List.length_drop]) <;> omega)) | (dsimp only; omega)
  · rename_i h0 h1 h2 h3 h4 h5 h6 h7 h8 h9 h10 h11 h12 h13 h14 h15 h16 h17 h18 h19
    exact Int.natCast_nonneg _
  · rename_i h0 h1 h2 h3 h4 h5 h6 h7 h8 h9 h10 h11 h12 h13 h14 h15 h16 h17 h18 h19
    exact Int.ofNat_lt.2 h17.1
  · rename_i h0 h1 h2 h3 h4 h5 h6 h7 h8 h9 h10 h11 h12 h13 h14 h15 h16 h17 h18 h19
    exact by have := h17.1; have := (Lb_d h9).2.rk.len; rw [Int.toNat_natCast]; exact Nat.lt_of_lt_of_le (Nat.add_lt_add_right h17.1 _) (by rw [Nat.add_comm]; exact this)
  · rename_i h0 h1 h2 h3 h4 h5 h6 h7 h8 h9 h10 h11 h12 h13 h14 h15 h16 h17 h18
    exact no_most1 (Lb_d h9).2.rk.len h15.1 h17.1 h17.2 (h15.2.2.1 (Nat.lt_of_le_of_lt (Nat.zero_le _) h17.1)).1 h18
  · rename_i h0 h1 h2 h3 h4 h5 h6 h7 h8 h9 h10 h11 h12 h13 h14 h15 h16 h17 h18 h19
    exact ⟨(Lb_d h9).2.rk, (Lb_d h9).2.lok, (h15.2.2.1 (Nat.lt_of_le_of_lt (Nat.zero_le _) h17.1)).2⟩
  · rename_i h0 h1 h2 h3 h4 h5 h6 h7 h8 h9 h10 h11 h12 h13 h14 h15 h16 h17 h18 h19 h20 h21
    exact (most_has (h15.2.2.1 (Nat.lt_of_le_of_lt (Nat.zero_le _) h17.1)).1 h21.1).elim
  · rename_i h0 h1 h2 h3 h4 h5 h6 h7 h8 h9 h10 h11 h12 h13 h14 h15 h16 h17 h18 h19 h20 h21
    exact (most_has (h15.2.2.1 (Nat.lt_of_le_of_lt (Nat.zero_le _) h17.1)).1 h21.1).elim
  · rename_i h0 h1 h2 h3 h4 h5 h6 h7 h8 h9 h10 h11 h12 h13 h14 h15 h16 h17 h18 h19 h20 h21
    exact (most_has (h15.2.2.1 (Nat.lt_of_le_of_lt (Nat.zero_le _) h17.1)).1 h21.1).elim
  · rename_i h0 h1 h2 h3 h4 h5 h6 h7 h8 h9 h10 h11 h12 h13 h14 h15 h16 h17 h18 h19 h20 h21 h22
    exact (most_has (h15.2.2.1 (Nat.lt_of_le_of_lt (Nat.zero_le _) h17.1)).1 h21.1).elim
  · rename_i h0 h1 h2 h3 h4 h5 h6 h7 h8 h9 h10 h11 h12 h13 h14 h15 h16 h17 h18 h19 h20 h21 h22 h23
    exact (most_has (h15.2.2.1 (Nat.lt_of_le_of_lt (Nat.zero_le _) h17.1)).1 h21.1).elim
  · rename_i h0 h1 h2 h3 h4 h5 h6 h7 h8 h9 h10 h11 h12 h13 h14 h15 h16 h17 h18 h19 h20 h21 h22 h23
    exact (most_has (h15.2.2.1 (Nat.lt_of_le_of_lt (Nat.zero_le _) h17.1)).1 h21.1).elim
  · rename_i h0 h1 h2 h3 h4 h5 h6 h7 h8 h9 h10 h11 h12 h13 h14 h15 h16 h17 h18 h19 h20 h21 h22 h23
    exact (most_has (h15.2.2.1 (Nat.lt_of_le_of_lt (Nat.zero_le _) h17.1)).1 h21.1).elim
  · rename_i h0 h1 h2 h3 h4 h5 h6 h7 h8 h9 h10 h11 h12 h13 h14 h15 h16 h17 h18 h19 h20 h21 h22 h23 h24
    exact (most_has (h15.2.2.1 (Nat.lt_of_le_of_lt (Nat.zero_le _) h17.1)).1 h21.1).elim
  · rename_i h0 h1 h2 h3 h4 h5 h6 h7 h8 h9 h10 h11 h12 h13 h14 h15 h16 h17 h18 h19 h20 h21 h22 h23 h24
    exact (most_has (h15.2.2.1 (Nat.lt_of_le_of_lt (Nat.zero_le _) h17.1)).1 h21.1).elim
  · rename_i h0 h1 h2 h3 h4 h5 h6 h7 h8 h9 h10 h11 h12 h13 h14 h15 h16 h17 h18 h19 h20 h21 h22 h23 h24
    exact (most_has (h15.2.2.1 (Nat.lt_of_le_of_lt (Nat.zero_le _) h17.1)).1 h21.1).elim
  · rename_i h0 h1 h2 h3 h4 h5 h6 h7 h8 h9 h10 h11 h12 h13 h14 h15 h16 h17 h18 h19 h20 h21 h22 h23
    exact (most_has (h15.2.2.1 (Nat.lt_of_le_of_lt (Nat.zero_le _) h17.1)).1 h21.1).elim
  · rename_i h0 h1 h2 h3 h4 h5 h6 h7 h8 h9 h10 h11 h12 h13 h14 h15 h16 h17 h18 h19 h20 h21 h22
    exact (most_has (h15.2.2.1 (Nat.lt_of_le_of_lt (Nat.zero_le _) h17.1)).1 h21.1).elim
  · rename_i h0 h1 h2 h3 h4 h5 h6 h7 h8 h9 h10 h11 h12 h13 h14 h15 h16 h17 h18 h19 h20 h21 h22
    exact (most_has (h15.2.2.1 (Nat.lt_of_le_of_lt (Nat.zero_le _) h17.1)).1 h21.1).elim
  · rename_i h0 h1 h2 h3 h4 h5 h6 h7 h8 h9 h10 h11 h12 h13 h14 h15 h16 h17 h18 h19 h20 h21 h22
    exact (most_has (h15.2.2.1 (Nat.lt_of_le_of_lt (Nat.zero_le _) h17.1)).1 h21.1).elim
  · rename_i h0 h1 h2 h3 h4 h5 h6 h7 h8 h9 h10 h11 h12 h13 h14 h15 h16 h17 h18 h19 h20 h21
    exact h21.2
  · rename_i h0 h1 h2 h3 h4 h5 h6 h7 h8 h9 h10 h11 h12 h13 h14 h15 h16 h17 h18 h19 h20 h21
    exact h21.2
  · rename_i h0 h1 h2 h3 h4 h5 h6 h7 h8 h9 h10 h11 h12 h13 h14 h15 h16 h17 h18 h19 h20 h21
    exact rhas_pre h21.2
  · rename_i h0 h1 h2 h3 h4 h5 h6 h7 h8 h9 h10 h11 h12 h13 h14 h15 h16 h17 h18 h19 h20 h21 h22
    exact h21.2
  · rename_i h0 h1 h2 h3 h4 h5 h6 h7 h8 h9 h10 h11 h12 h13 h14 h15 h16 h17 h18 h19 h20 h21 h22 h23
    exact Int.le_refl _
  · rename_i h0 h1 h2 h3 h4 h5 h6 h7 h8 h9 h10 h11 h12 h13 h14 h15 h16 h17 h18 h19 h20 h21 h22 h23
    exact pos0 h23
  · rename_i h0 h1 h2 h3 h4 h5 h6 h7 h8 h9 h10 h11 h12 h13 h14 h15 h16 h17 h18 h19 h20 h21 h22 h23
    exact at0 h21.2 h23
  · rename_i h0 h1 h2 h3 h4 h5 h6 h7 h8 h9 h10 h11 h12 h13 h14 h15 h16 h17 h18 h19 h20 h21 h22 h23 h24
    exact Int.le_refl _
  · rename_i h0 h1 h2 h3 h4 h5 h6 h7 h8 h9 h10 h11 h12 h13 h14 h15 h16 h17 h18 h19 h20 h21 h22 h23 h24
    exact pos0 h23
  · rename_i h0 h1 h2 h3 h4 h5 h6 h7 h8 h9 h10 h11 h12 h13 h14 h15 h16 h17 h18 h19 h20 h21 h22 h23 h24
    exact at0 h21.2 h23
  · rename_i h0 h1 h2 h3 h4 h5 h6 h7 h8 h9 h10 h11 h12 h13 h14 h15 h16 h17 h18 h19 h20 h21 h22 h23
    exact sum0 h23
  · rename_i h0 h1 h2 h3 h4 h5 h6 h7 h8 h9 h10 h11 h12 h13 h14 h15 h16 h17 h18 h19 h20 h21 h22
    exact no_chain h21.2 h22
  · rename_i h0 h1 h2 h3 h4 h5 h6 h7 h8 h9 h10 h11 h12 h13 h14 h15 h16 h17 h18 h19 h20 h21 h22
    exact incN h10 h3
  · rename_i h0 h1 h2 h3 h4 h5 h6 h7 h8 h9 h10 h11 h12 h13 h14 h15 h16 h17 h18 h19 h20 h21 h22
    refine Stands.next (Stands.one (⟨h8.i + 1, h8.b, h8.base, h14.1, h8.n - 1, h8.c, h20.2.b, h20.2.q, h20.2.l, h20.2.k, h20.2.n, h20.2.c⟩ : Px) ⟨⟨ltN h10, h21.2⟩, decN h10, ?_⟩)
    ((conv => (arg 1; reduce)); with_reducible repeat' (first | exact Tr.yes_h | refine Tr.and_h ?_ ?_ | refine Tr.imp_h fun _ => ?_ | refine Tr.all_h fun _ => ?_ | refine Tr.lf_h ?_))
    all_goals first | (first | first | (show Region.lexB _ _ = true; kernel_rfl) | (show planned _ _ = true; kernel_rfl) | exact rfl | exact True.intro | ((try dsimp only [imp, C0, cG, cInt2] at *); (try refine inR64 ?_ ?_) <;> (try simp only [List.length_set, List.length_append, List.length_take, List.length_drop]) <;> omega)) | (dsimp only; omega)
  · rename_i h0 h1 h2 h3 h4 h5 h6 h7 h8 h9 h10 h11 h12 h13 h14 h15 h16 h17 h18 h19
    exact (most1 h15.1 h17.1 h19).elim
  · rename_i h0 h1 h2 h3 h4 h5 h6 h7 h8 h9 h10 h11 h12 h13 h14 h15 h16 h17 h18 h19
    exact (most1 h15.1 h17.1 h19).elim
  · rename_i h0 h1 h2 h3 h4 h5 h6 h7 h8 h9 h10 h11 h12 h13 h14 h15 h16 h17 h18 h19
    exact (most1 h15.1 h17.1 h19).elim
  · rename_i h0 h1 h2 h3 h4 h5 h6 h7 h8 h9 h10 h11 h12 h13 h14 h15 h16 h17 h18 h19 h20
    exact (most1 h15.1 h17.1 h19).elim
  · rename_i h0 h1 h2 h3 h4 h5 h6 h7 h8 h9 h10 h11 h12 h13 h14 h15 h16 h17 h18 h19 h20 h21
    exact (most1 h15.1 h17.1 h19).elim
  · rename_i h0 h1 h2 h3 h4 h5 h6 h7 h8 h9 h10 h11 h12 h13 h14 h15 h16 h17 h18 h19 h20 h21
    exact (most1 h15.1 h17.1 h19).elim
  · rename_i h0 h1 h2 h3 h4 h5 h6 h7 h8 h9 h10 h11 h12 h13 h14 h15 h16 h17 h18 h19 h20 h21
    exact (most1 h15.1 h17.1 h19).elim
  · rename_i h0 h1 h2 h3 h4 h5 h6 h7 h8 h9 h10 h11 h12 h13 h14 h15 h16 h17 h18 h19 h20 h21 h22
    exact (most1 h15.1 h17.1 h19).elim
  · rename_i h0 h1 h2 h3 h4 h5 h6 h7 h8 h9 h10 h11 h12 h13 h14 h15 h16 h17 h18 h19 h20 h21 h22
    exact (most1 h15.1 h17.1 h19).elim
  · rename_i h0 h1 h2 h3 h4 h5 h6 h7 h8 h9 h10 h11 h12 h13 h14 h15 h16 h17 h18 h19 h20 h21 h22
    exact (most1 h15.1 h17.1 h19).elim
  · rename_i h0 h1 h2 h3 h4 h5 h6 h7 h8 h9 h10 h11 h12 h13 h14 h15 h16 h17 h18 h19 h20 h21
    exact (most1 h15.1 h17.1 h19).elim
  · rename_i h0 h1 h2 h3 h4 h5 h6 h7 h8 h9 h10 h11 h12 h13 h14 h15 h16 h17 h18 h19 h20
    exact (most1 h15.1 h17.1 h19).elim
  · rename_i h0 h1 h2 h3 h4 h5 h6 h7 h8 h9 h10 h11 h12 h13 h14 h15 h16 h17 h18 h19 h20
    exact (most1 h15.1 h17.1 h19).elim
  · rename_i h0 h1 h2 h3 h4 h5 h6 h7 h8 h9 h10 h11 h12 h13 h14 h15 h16 h17 h18 h19 h20
    exact (most1 h15.1 h17.1 h19).elim
  · rename_i h0 h1 h2 h3 h4 h5 h6 h7 h8 h9 h10 h11
    refine Stands.one (⟨0, 0, h8.l, h8.n, h8.c, h8.r, h8.k, h8.rn, h8.rc, [], 0, 0, h11⟩ : Qx) ⟨⟨Nat.zero_le _, (Lb_d h9).2⟩, ?_⟩
    ((conv => (arg 1; reduce)); with_reducible repeat' (first | exact Tr.yes_h | refine Tr.and_h ?_ ?_ | refine Tr.imp_h fun _ => ?_ | refine Tr.all_h fun _ => ?_ | refine Tr.lf_h ?_))
    all_goals first | (first | first | (show Region.lexB _ _ = true; kernel_rfl) | (show planned _ _ = true; kernel_rfl) | exact rfl | exact True.intro | ((try dsimp only [imp, C0, cG, cInt2] at *); (try refine inR64 ?_ ?_) <;> (try simp only [List.length_set, List.length_append, List.length_take, List.length_drop]) <;> omega)) | (dsimp only; omega)
  · rename_i h0 h1 h2 h3 h4 h5 h6 h7 h8 h9 h10 h11 h12 h13 h14 h15 h16 h17 h18
    exact ⟨(Lr_d h13).2.hok.lt, by have := (Lr_d h13).2.eq; have := (Lr_d h13).2.le; omega⟩
  · rename_i h0 h1 h2 h3 h4 h5 h6 h7 h8 h9 h10 h11 h12 h13 h14 h15 h16 h17 h18 h19 h20 h21
    refine Stands.one (⟨0, 0, h12.l, h12.n, h12.c, h12.r, h12.k, h12.rn, h12.rc, h19.2.2.1, h12.n, h19.2.2.2, 0⟩ : Qx) ⟨Lq_0 (Lr_d h13).2 h20.1 h20.2.1 h20.2.2, ?_⟩
    ((conv => (arg 1; reduce)); with_reducible repeat' (first | exact Tr.yes_h | refine Tr.and_h ?_ ?_ | refine Tr.imp_h fun _ => ?_ | refine Tr.all_h fun _ => ?_ | refine Tr.lf_h ?_))
    all_goals first | (first | first | (show Region.lexB _ _ = true; kernel_rfl) | (show planned _ _ = true; kernel_rfl) | exact rfl | exact True.intro | ((try dsimp only [imp, C0, cG, cInt2] at *); (try refine inR64 ?_ ?_) <;> (try simp only [List.length_set, List.length_append, List.length_take, List.length_drop]) <;> omega)) | (dsimp only; omega)
  · rename_i h0 h1 h2 h3 h4 h5 h6 h7 h8 h9 h10 h11 h12 h13 h14 h15 h16 h17 h18 h19 h20 h21 h22 h23 h24
    exact by have := of_decide_eq_true h24; omega
  · rename_i h0 h1 h2 h3 h4 h5 h6 h7 h8 h9 h10 h11 h12 h13 h14 h15 h16 h17 h18 h19 h20 h21 h22 h23 h24
    exact Lq_pre h23 h24
  · rename_i h0 h1 h2 h3 h4 h5 h6 h7 h8 h9 h10 h11 h12 h13 h14 h15 h16 h17 h18 h19 h20 h21 h22 h23 h24 h25 h26 h27 h28
    exact Int.natCast_nonneg _
  · rename_i h0 h1 h2 h3 h4 h5 h6 h7 h8 h9 h10 h11 h12 h13 h14 h15 h16 h17 h18 h19 h20 h21 h22 h23 h24 h25 h26 h27 h28
    exact (Lq_lt h23 h24).2.1
  · rename_i h0 h1 h2 h3 h4 h5 h6 h7 h8 h9 h10 h11 h12 h13 h14 h15 h16 h17 h18 h19 h20 h21 h22 h23 h24 h25 h26 h27 h28
    exact (Lq_lt h23 h24).2.2.1
  · rename_i h0 h1 h2 h3 h4 h5 h6 h7 h8 h9 h10 h11 h12 h13 h14 h15 h16 h17 h18 h19 h20 h21 h22 h23 h24 h25 h26 h27 h28
    exact Int.natCast_nonneg _
  · rename_i h0 h1 h2 h3 h4 h5 h6 h7 h8 h9 h10 h11 h12 h13 h14 h15 h16 h17 h18 h19 h20 h21 h22 h23 h24 h25 h26 h27 h28
    exact (Lq_lt h23 h24).2.1
  · rename_i h0 h1 h2 h3 h4 h5 h6 h7 h8 h9 h10 h11 h12 h13 h14 h15 h16 h17 h18 h19 h20 h21 h22 h23 h24 h25 h26 h27 h28
    exact (Lq_lt h23 h24).2.2.1
  · rename_i h0 h1 h2 h3 h4 h5 h6 h7 h8 h9 h10 h11 h12 h13 h14 h15 h16 h17 h18 h19 h20 h21 h22 h23 h24 h25 h26 h27 h28
    exact no_each h23 h24 (Lq_pop h23 h24 h26).1 h28
  · rename_i h0 h1 h2 h3 h4 h5 h6 h7 h8 h9 h10 h11 h12 h13 h14 h15 h16 h17 h18 h19 h20 h21 h22 h23 h24 h25 h26 h27 h28
    exact (Lq_lt h23 h24).2.2.2
  · rename_i h0 h1 h2 h3 h4 h5 h6 h7 h8 h9 h10 h11 h12 h13 h14 h15 h16 h17 h18 h19 h20 h21 h22 h23 h24 h25 h26 h27 h28 h29 h30
    exact no_stop h29 h30
  · rename_i h0 h1 h2 h3 h4 h5 h6 h7 h8 h9 h10 h11 h12 h13 h14 h15 h16 h17 h18 h19 h20 h21 h22 h23 h24 h25 h26 h27 h28 h29 h30 h31
    exact incR h14
  · rename_i h0 h1 h2 h3 h4 h5 h6 h7 h8 h9 h10 h11 h12 h13 h14 h15 h16 h17 h18 h19 h20 h21 h22 h23 h24 h25 h26 h27 h28 h29 h30 h31
    refine Stands.one (⟨h12.rd + 1, 0, h22.l, h22.n, h22.c, h22.r, h22.k, h22.rn, h22.rc, [], 0, 0, h31⟩ : Qx) ⟨⟨ltR h14, (Lq_d h23).1⟩, decR h14, ?_⟩
    ((conv => (arg 1; reduce)); with_reducible repeat' (first | exact Tr.yes_h | refine Tr.and_h ?_ ?_ | refine Tr.imp_h fun _ => ?_ | refine Tr.all_h fun _ => ?_ | refine Tr.lf_h ?_))
    all_goals first | (first | first | (show Region.lexB _ _ = true; kernel_rfl) | (show planned _ _ = true; kernel_rfl) | exact rfl | exact True.intro | ((try dsimp only [imp, C0, cG, cInt2] at *); (try refine inR64 ?_ ?_) <;> (try simp only [List.length_set, List.length_append, List.length_take, List.length_drop]) <;> omega)) | (dsimp only; omega)
  · rename_i h0 h1 h2 h3 h4 h5 h6 h7 h8 h9 h10 h11 h12 h13 h14 h15 h16 h17 h18 h19 h20 h21 h22 h23 h24 h25 h26 h27 h28 h29
    refine Stands.one (⟨0, h22.i + 1, h22.l, h22.n, h22.c, h22.r, h22.k, h22.rn, h22.rc, h25, h22.nq - 1, h22.cq, 0⟩ : Qx) ⟨(Lq_pop h23 h24 h26).2, (by show h22.nq - 1 < h22.nq; have := of_decide_eq_true h24; omega), ?_⟩
    ((conv => (arg 1; reduce)); with_reducible repeat' (first | exact Tr.yes_h | refine Tr.and_h ?_ ?_ | refine Tr.imp_h fun _ => ?_ | refine Tr.all_h fun _ => ?_ | refine Tr.lf_h ?_))
    all_goals first | (first | first | (show Region.lexB _ _ = true; kernel_rfl) | (show planned _ _ = true; kernel_rfl) | exact rfl | exact True.intro | ((try dsimp only [imp, C0, cG, cInt2] at *); (try refine inR64 ?_ ?_) <;> (try simp only [List.length_set, List.length_append, List.length_take, List.length_drop]) <;> omega)) | (dsimp only; omega)
  · rename_i h0 h1 h2 h3 h4 h5 h6 h7 h8 h9 h10 h11 h12 h13 h14 h15 h16 h17 h18 h19 h20 h21 h22 h23 h24 h25
    exact no_end h23 h24 h25
  · rename_i h0 h1 h2 h3 h4 h5 h6 h7 h8 h9 h10 h11 h12 h13 h14 h15 h16 h17 h18 h19 h20 h21 h22 h23 h24 h25 h26
    exact incR h14
  · rename_i h0 h1 h2 h3 h4 h5 h6 h7 h8 h9 h10 h11 h12 h13 h14 h15 h16 h17 h18 h19 h20 h21 h22 h23 h24 h25 h26
    refine Stands.one (⟨h12.rd + 1, 0, h22.l, h22.n, h22.c, h22.r, h22.k, h22.rn, h22.rc, [], 0, 0, h26⟩ : Qx) ⟨⟨ltR h14, (Lq_d h23).1⟩, decR h14, ?_⟩
    ((conv => (arg 1; reduce)); with_reducible repeat' (first | exact Tr.yes_h | refine Tr.and_h ?_ ?_ | refine Tr.imp_h fun _ => ?_ | refine Tr.all_h fun _ => ?_ | refine Tr.lf_h ?_))
    all_goals first | (first | first | (show Region.lexB _ _ = true; kernel_rfl) | (show planned _ _ = true; kernel_rfl) | exact rfl | exact True.intro | ((try dsimp only [imp, C0, cG, cInt2] at *); (try refine inR64 ?_ ?_) <;> (try simp only [List.length_set, List.length_append, List.length_take, List.length_drop]) <;> omega)) | (dsimp only; omega)
end Go.Vx
