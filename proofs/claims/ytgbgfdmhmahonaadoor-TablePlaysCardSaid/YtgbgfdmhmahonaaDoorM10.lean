/-
  Round 20: TablePlays: its walk.
  Conditions: none.
-/
import Derived.Test.YtgbgfdmhmahonaaDoorM9
set_option linter.unusedSectionVars false
set_option maxRecDepth 100000
set_option linter.unusedVariables false
set_option linter.unusedSimpArgs false
namespace Go.Vx
open Go Go.Proofs
variable [Gl0]

theorem _root_.Go.Vx.Tr.via {t : Tr} (t' : Tr) (h : t' = t) (g : t'.holds) : t.holds := h ▸ g

set_option maxHeartbeats 0 in
theorem plays_s (hA : Apart) (b q : Nat) (l : List Do) (N c : Nat) (bs ps key : Int) (p : Pl) (stop : Int) (hN : N ≤ l.length) :
    Tells (C := C0) Tryd.prog (.fn 4) [⟨b, q, 10, false, none, .rows 48 l⟩] [.int .i64 bs, .int .i64 ps, .sl 0 0 N c, .int .i64 key, .agg (plE p), .int .i64 stop] (.bool .t) := by
  refine loc_pcR (P := Tryd.prog) (E := ⟨[fcNew, fcSet3, fcDropL, fcRDrop, fcRDrop0, fcRSet, fcRSet0, fcSlotsS, fcOf, fcSlots, fcAll, fcKeys],
      [pcFirst, pcSamePlace, pcAtL, pcLenL, pcLive, pcGetP, pcIs0, pcIsE, pcSS, pcSSnn, pcSSns, pcSlotsN, pcOf0], 357,
      [(15, [0, 8], [.p 0, .p 1, .p 2, .p 3, .p 4, .p 5, .p 7, .p 8, .p 9, .p 10, .p 11, .p 12, .e 6, .e 13, .p 14]), (17, [0], plan17), (18, [0, 8], plan17),
       (32, [1, 7, 8, 9, 10], plan32), (34, [8, 7], [.p 0, .p 3, .p 4, .p 5, .p 6, .e 1, .e 2, .e 7, .p 8])]⟩)
    (L := [LA bs ps N, LB bs ps N, JA0 bs ps N l, JA2 bs ps N l, JB0 bs ps N l, JB2 bs ps N l, JB1 bs ps N l, JA bs ps N, JB bs ps N, FA, FB bs ps N key p, RA, RB]) mix [itKeys] Tryd.func4 rfl (by kernel_rfl) (by kernel_rfl) rfl rfl ?_
  ((refine Tr.via ?_ ?_ ?_; rotate_left; (as_aux_lemma => ((conv => (rhs; reduce))))); with_reducible repeat' (first | exact Tr.yes_h | refine Tr.and_h ?_ ?_ | refine Tr.imp_h fun _ => ?_ | refine Tr.all_h fun _ => ?_ | refine Tr.lf_h ?_))
  all_goals try exact plan32_ok _ (by kernel_rfl)
  all_goals try first | (show Region.lexB _ _ = true; kernel_rfl) | (show planned _ _ = true; kernel_rfl) | exact rfl | exact True.intro
  · rename_i b0 b1 b2 h0 Y0 p0 h1
    exact plainN 1 (by decide)
  · rename_i b0 b1 b2 h0 Y0 p0 h1
    exact plainN 1 (by decide)
  · rename_i b0 b1 b2 h0 Y0 p0 h1
    exact decide_eq_true rfl
  · rename_i b0 b1 b2 h0 Y0 p0 h1
    exact (p0 (mayF h1)).elim
  · rename_i b0 b1 b2 h0 Y0 p0 h1
    exact (mayT' h1 p0).elim
  · rename_i b0 b1 b2 h0 Y0 p0 h1 b3 b4
    refine Stands.one (0, ([], 0, [], 0)) ⟨⟨Nat.zero_le _, Rep.new .., Syn.nil bs ps 0⟩, ?_⟩
    ((refine Tr.via ?_ ?_ ?_; rotate_left; (as_aux_lemma => ((conv => (rhs; reduce))))); with_reducible repeat' (first | exact Tr.yes_h | refine Tr.and_h ?_ ?_ | refine Tr.imp_h fun _ => ?_ | refine Tr.all_h fun _ => ?_ | refine Tr.lf_h ?_))
    all_goals (first | first | (show Region.lexB _ _ = true; kernel_rfl) | (show planned _ _ = true; kernel_rfl) | exact rfl | exact True.intro | (first | exact key3 | exact key30 | exact zero3 | exact zero53 | exact eq30 | exact ⟨key3, zero53⟩ | exact ⟨key30, zero3⟩) | ((try dsimp only [imp, C0, cG, cInt, cPl, cSlot, cDo] at *); (try refine inR64 ?_ ?_) <;> (try simp only [List.length_set, List.length_append, List.length_take, List.length_drop]) <;> omega))
  · rename_i b0 b1 b2 h0 Y0 p0 h1 b3 b4 vLA hLA h2
    exact Int.natCast_nonneg _
  · rename_i b0 b1 b2 h0 Y0 p0 h1 b3 b4 vLA hLA h2
    exact of_decide_eq_true h2
  · rename_i b0 b1 b2 h0 Y0 p0 h1 b3 b4 vLA hLA h2
    exact idx2 h2 hN
  · rename_i b0 b1 b2 h0 Y0 p0 h1 b3 b4 vLA hLA h2 h3
    exact Int.natCast_nonneg _
  · rename_i b0 b1 b2 h0 Y0 p0 h1 b3 b4 vLA hLA h2 h3
    exact of_decide_eq_true h2
  · rename_i b0 b1 b2 h0 Y0 p0 h1 b3 b4 vLA hLA h2 h3
    exact idx2 h2 hN
  · rename_i b0 b1 b2 h0 Y0 p0 h1 b3 b4 vLA hLA h2 h3
    exact Int.natCast_nonneg _
  · rename_i b0 b1 b2 h0 Y0 p0 h1 b3 b4 vLA hLA h2 h3
    exact of_decide_eq_true h2
  · rename_i b0 b1 b2 h0 Y0 p0 h1 b3 b4 vLA hLA h2 h3
    exact idx2 h2 hN
  · rename_i b0 b1 b2 h0 Y0 p0 h1 b3 b4 vLA hLA h2 h3
    exact hLA.rep.of rfl rfl rfl rfl
  · rename_i b0 b1 b2 h0 Y0 p0 h1 b3 b4 vLA hLA h2 h3 Y1 p1 Y2 p2 h4
    exact (dropA_kill hLA.syn h4).elim
  · rename_i b0 b1 b2 h0 Y0 p0 h1 b3 b4 vLA hLA h2 h3 Y1 p1 Y2 p2 h4
    refine Stands.one (vLA.1, Y1) ⟨⟨lt2 h2, p1.1.of rfl rfl rfl rfl, syn_dropA hLA.syn p1.2⟩, ?_⟩
    ((refine Tr.via ?_ ?_ ?_; rotate_left; (as_aux_lemma => ((conv => (rhs; reduce))))); with_reducible repeat' (first | exact Tr.yes_h | refine Tr.and_h ?_ ?_ | refine Tr.imp_h fun _ => ?_ | refine Tr.all_h fun _ => ?_ | refine Tr.lf_h ?_))
    all_goals (first | first | (show Region.lexB _ _ = true; kernel_rfl) | (show planned _ _ = true; kernel_rfl) | exact rfl | exact True.intro | (first | exact key3 | exact key30 | exact zero3 | exact zero53 | exact eq30 | exact ⟨key3, zero53⟩ | exact ⟨key30, zero3⟩) | ((try dsimp only [imp, C0, cG, cInt, cPl, cSlot, cDo] at *); (try refine inR64 ?_ ?_) <;> (try simp only [List.length_set, List.length_append, List.length_take, List.length_drop]) <;> omega))
  · rename_i b0 b1 b2 h0 Y0 p0 h1 b3 b4 vLA hLA h2 h3
    exact Int.natCast_nonneg _
  · rename_i b0 b1 b2 h0 Y0 p0 h1 b3 b4 vLA hLA h2 h3
    exact of_decide_eq_true h2
  · rename_i b0 b1 b2 h0 Y0 p0 h1 b3 b4 vLA hLA h2 h3
    exact idx2 h2 hN
  · rename_i b0 b1 b2 h0 Y0 p0 h1 b3 b4 vLA hLA h2 h3
    exact Int.natCast_nonneg _
  · rename_i b0 b1 b2 h0 Y0 p0 h1 b3 b4 vLA hLA h2 h3
    exact of_decide_eq_true h2
  · rename_i b0 b1 b2 h0 Y0 p0 h1 b3 b4 vLA hLA h2 h3
    exact idx2 h2 hN
  · rename_i b0 b1 b2 h0 Y0 p0 h1 b3 b4 vLA hLA h2 h3
    exact Int.natCast_nonneg _
  · rename_i b0 b1 b2 h0 Y0 p0 h1 b3 b4 vLA hLA h2 h3
    exact of_decide_eq_true h2
  · rename_i b0 b1 b2 h0 Y0 p0 h1 b3 b4 vLA hLA h2 h3
    exact idx2 h2 hN
  · rename_i b0 b1 b2 h0 Y0 p0 h1 b3 b4 vLA hLA h2 h3
    exact hLA.rep.of rfl rfl rfl rfl
  · rename_i b0 b1 b2 h0 Y0 p0 h1 b3 b4 vLA hLA h2 h3 Y1 p1 b5
    refine Stands.one ((vLA.1, b5, (lget (tl (tq bs ps vLA.2)) (dAt l vLA.1).key).pl, lhas (tl (tq bs ps vLA.2)) (dAt l vLA.1).key), Y1) ⟨⟨lt2 h2, p1.2.1.of rfl rfl rfl rfl, ⟨tl (tq bs ps vLA.2), hLA.syn, p1.2.2, rfl, rfl⟩, p1.1.1, no_of hLA.syn p1.1.2⟩, ?_⟩
    ((refine Tr.via ?_ ?_ ?_; rotate_left; (as_aux_lemma => ((conv => (rhs; reduce))))); with_reducible repeat' (first | exact Tr.yes_h | refine Tr.and_h ?_ ?_ | refine Tr.imp_h fun _ => ?_ | refine Tr.all_h fun _ => ?_ | refine Tr.lf_h ?_))
    all_goals (first | first | (show Region.lexB _ _ = true; kernel_rfl) | (show planned _ _ = true; kernel_rfl) | exact rfl | exact True.intro | (first | exact key3 | exact key30 | exact zero3 | exact zero53 | exact eq30 | exact ⟨key3, zero53⟩ | exact ⟨key30, zero3⟩) | ((try dsimp only [imp, C0, cG, cInt, cPl, cSlot, cDo] at *); (try refine inR64 ?_ ?_) <;> (try simp only [List.length_set, List.length_append, List.length_take, List.length_drop]) <;> omega))
  · rename_i b0 b1 b2 h0 Y0 p0 h1 b3 b4 vLA hLA h2 h3 Y1 p1 b5
    refine Stands.next (Stands.one ((vLA.1, b5), vLA.2) ⟨⟨lt2 h2, hLA.rep, hLA.syn, p1⟩, ?_⟩)
    ((refine Tr.via ?_ ?_ ?_; rotate_left; (as_aux_lemma => ((conv => (rhs; reduce))))); with_reducible repeat' (first | exact Tr.yes_h | refine Tr.and_h ?_ ?_ | refine Tr.imp_h fun _ => ?_ | refine Tr.all_h fun _ => ?_ | refine Tr.lf_h ?_))
    all_goals (first | first | (show Region.lexB _ _ = true; kernel_rfl) | (show planned _ _ = true; kernel_rfl) | exact rfl | exact True.intro | (first | exact key3 | exact key30 | exact zero3 | exact zero53 | exact eq30 | exact ⟨key3, zero53⟩ | exact ⟨key30, zero3⟩) | ((try dsimp only [imp, C0, cG, cInt, cPl, cSlot, cDo] at *); (try refine inR64 ?_ ?_) <;> (try simp only [List.length_set, List.length_append, List.length_take, List.length_drop]) <;> omega))
  · rename_i b0 b1 b2 h0 Y0 p0 h1 b3 b4 vLA hLA h2 h3 Y1 p1 b5
    exact (takenA hLA.syn p1.2).elim
  · rename_i b0 b1 b2 h0 Y0 p0 h1 b3 b4 vLA hLA h2 h3 b5
    exact hLA.rep.of rfl rfl rfl rfl
  · rename_i b0 b1 b2 h0 Y0 p0 h1 b3 b4 vLA hLA h2 h3 b5 Y1 p1
    refine Stands.one ((vLA.1, b5, (lget (tl (tq bs ps vLA.2)) (dAt l vLA.1).key).pl, lhas (tl (tq bs ps vLA.2)) (dAt l vLA.1).key), Y1) ⟨⟨lt2 h2, p1.2.1.of rfl rfl rfl rfl, ⟨tl (tq bs ps vLA.2), hLA.syn, p1.2.2, rfl, rfl⟩, p1.1.1, no_of hLA.syn p1.1.2⟩, ?_⟩
    ((refine Tr.via ?_ ?_ ?_; rotate_left; (as_aux_lemma => ((conv => (rhs; reduce))))); with_reducible repeat' (first | exact Tr.yes_h | refine Tr.and_h ?_ ?_ | refine Tr.imp_h fun _ => ?_ | refine Tr.all_h fun _ => ?_ | refine Tr.lf_h ?_))
    all_goals (first | first | (show Region.lexB _ _ = true; kernel_rfl) | (show planned _ _ = true; kernel_rfl) | exact rfl | exact True.intro | (first | exact key3 | exact key30 | exact zero3 | exact zero53 | exact eq30 | exact ⟨key3, zero53⟩ | exact ⟨key30, zero3⟩) | ((try dsimp only [imp, C0, cG, cInt, cPl, cSlot, cDo] at *); (try refine inR64 ?_ ?_) <;> (try simp only [List.length_set, List.length_append, List.length_take, List.length_drop]) <;> omega))
  · rename_i b0 b1 b2 h0 Y0 p0 h1 b3 b4 vLA hLA h2 h3 b5 Y1 p1
    refine Stands.next (Stands.one ((vLA.1, b5), vLA.2) ⟨⟨lt2 h2, hLA.rep, hLA.syn, p1⟩, ?_⟩)
    ((refine Tr.via ?_ ?_ ?_; rotate_left; (as_aux_lemma => ((conv => (rhs; reduce))))); with_reducible repeat' (first | exact Tr.yes_h | refine Tr.and_h ?_ ?_ | refine Tr.imp_h fun _ => ?_ | refine Tr.all_h fun _ => ?_ | refine Tr.lf_h ?_))
    all_goals (first | first | (show Region.lexB _ _ = true; kernel_rfl) | (show planned _ _ = true; kernel_rfl) | exact rfl | exact True.intro | (first | exact key3 | exact key30 | exact zero3 | exact zero53 | exact eq30 | exact ⟨key3, zero53⟩ | exact ⟨key30, zero3⟩) | ((try dsimp only [imp, C0, cG, cInt, cPl, cSlot, cDo] at *); (try refine inR64 ?_ ?_) <;> (try simp only [List.length_set, List.length_append, List.length_take, List.length_drop]) <;> omega))
  · rename_i b0 b1 b2 h0 Y0 p0 h1 b3 b4 vLA hLA h2 h3 b5 Y1 p1
    exact (takenA hLA.syn p1.2).elim
  · rename_i b0 b1 b2 h0 Y0 p0 h1 b3 b4 vLA hLA h2 h3 vJA0 hJA0 h4
    exact Int.natCast_nonneg _
  · rename_i b0 b1 b2 h0 Y0 p0 h1 b3 b4 vLA hLA h2 h3 vJA0 hJA0 h4
    exact Int.ofNat_lt.2 hJA0.lt
  · rename_i b0 b1 b2 h0 Y0 p0 h1 b3 b4 vLA hLA h2 h3 vJA0 hJA0 h4
    exact Nat.lt_of_lt_of_le hJA0.lt hN
  · rename_i b0 b1 b2 h0 Y0 p0 h1 b3 b4 vLA hLA h2 h3 vJA0 hJA0 h4
    exact Int.natCast_nonneg _
  · rename_i b0 b1 b2 h0 Y0 p0 h1 b3 b4 vLA hLA h2 h3 vJA0 hJA0 h4
    exact Int.ofNat_lt.2 hJA0.lt
  · rename_i b0 b1 b2 h0 Y0 p0 h1 b3 b4 vLA hLA h2 h3 vJA0 hJA0 h4
    exact Nat.lt_of_lt_of_le hJA0.lt hN
  · rename_i b0 b1 b2 h0 Y0 p0 h1 b3 b4 vLA hLA h2 h3 vJA0 hJA0 h4
    exact Int.natCast_nonneg _
  · rename_i b0 b1 b2 h0 Y0 p0 h1 b3 b4 vLA hLA h2 h3 vJA0 hJA0 h4
    exact Int.ofNat_lt.2 hJA0.lt
  · rename_i b0 b1 b2 h0 Y0 p0 h1 b3 b4 vLA hLA h2 h3 vJA0 hJA0 h4
    exact Nat.lt_of_lt_of_le hJA0.lt hN
  · rename_i b0 b1 b2 h0 Y0 p0 h1 b3 b4 vLA hLA h2 h3 vJA0 hJA0 h4 Y1 p1 b5 h5
    exact (okA_kill hJA0 h5).elim
  · rename_i b0 b1 b2 h0 Y0 p0 h1 b3 b4 vLA hLA h2 h3 vJA0 hJA0 h4 Y1 p1 b5 h5
    refine Stands.next (Stands.one (vJA0.1.1, vJA0.2, Y1) ⟨⟨hJA0.lt, hJA0.rep, (by have e : rlw Y1 = _ := p1.2.1; rw [e]; exact hJA0.synA), p1.2.2.2.1, p1.2.2.2.2⟩, ?_⟩)
    ((refine Tr.via ?_ ?_ ?_; rotate_left; (as_aux_lemma => ((conv => (rhs; reduce))))); with_reducible repeat' (first | exact Tr.yes_h | refine Tr.and_h ?_ ?_ | refine Tr.imp_h fun _ => ?_ | refine Tr.all_h fun _ => ?_ | refine Tr.lf_h ?_))
    all_goals (first | first | (show Region.lexB _ _ = true; kernel_rfl) | (show planned _ _ = true; kernel_rfl) | exact rfl | exact True.intro | (first | exact key3 | exact key30 | exact zero3 | exact zero53 | exact eq30 | exact ⟨key3, zero53⟩ | exact ⟨key30, zero3⟩) | ((try dsimp only [imp, C0, cG, cInt, cPl, cSlot, cDo] at *); (try refine inR64 ?_ ?_) <;> (try simp only [List.length_set, List.length_append, List.length_take, List.length_drop]) <;> omega))
  · rename_i b0 b1 b2 h0 Y0 p0 h1 b3 b4 vLA hLA h2 h3 vJA0 hJA0 h4 Y1 p1 b5 h5
    exact (p1 hJA0.fit).elim
  · rename_i b0 b1 b2 h0 Y0 p0 h1 b3 b4 vLA hLA h2 h3 vJA0 hJA0 h4 Y1 p1 b5 h5
    exact (p1 hJA0.fit).elim
  · rename_i b0 b1 b2 h0 Y0 p0 h1 b3 b4 vLA hLA h2 h3 vJA0 hJA0 h4 b5 Y1 p1 h5
    exact (okA_kill hJA0 h5).elim
  · rename_i b0 b1 b2 h0 Y0 p0 h1 b3 b4 vLA hLA h2 h3 vJA0 hJA0 h4 b5 Y1 p1 h5
    refine Stands.next (Stands.one (vJA0.1.1, vJA0.2, Y1) ⟨⟨hJA0.lt, hJA0.rep, (by have e : rlw Y1 = _ := p1.2.1; rw [e]; exact hJA0.synA), p1.2.2.2.1, p1.2.2.2.2⟩, ?_⟩)
    ((refine Tr.via ?_ ?_ ?_; rotate_left; (as_aux_lemma => ((conv => (rhs; reduce))))); with_reducible repeat' (first | exact Tr.yes_h | refine Tr.and_h ?_ ?_ | refine Tr.imp_h fun _ => ?_ | refine Tr.all_h fun _ => ?_ | refine Tr.lf_h ?_))
    all_goals (first | first | (show Region.lexB _ _ = true; kernel_rfl) | (show planned _ _ = true; kernel_rfl) | exact rfl | exact True.intro | (first | exact key3 | exact key30 | exact zero3 | exact zero53 | exact eq30 | exact ⟨key3, zero53⟩ | exact ⟨key30, zero3⟩) | ((try dsimp only [imp, C0, cG, cInt, cPl, cSlot, cDo] at *); (try refine inR64 ?_ ?_) <;> (try simp only [List.length_set, List.length_append, List.length_take, List.length_drop]) <;> omega))
  · rename_i b0 b1 b2 h0 Y0 p0 h1 b3 b4 vLA hLA h2 h3 vJA0 hJA0 h4 b5 Y1 p1 h5
    exact (p1 hJA0.fit).elim
  · rename_i b0 b1 b2 h0 Y0 p0 h1 b3 b4 vLA hLA h2 h3 vJA0 hJA0 h4 b5 Y1 p1 h5
    exact (p1 hJA0.fit).elim
  · rename_i b0 b1 b2 h0 Y0 p0 h1 b3 b4 vLA hLA h2 h3 vJA2 hJA2 h4
    exact Int.natCast_nonneg _
  · rename_i b0 b1 b2 h0 Y0 p0 h1 b3 b4 vLA hLA h2 h3 vJA2 hJA2 h4
    exact Int.ofNat_lt.2 hJA2.lt
  · rename_i b0 b1 b2 h0 Y0 p0 h1 b3 b4 vLA hLA h2 h3 vJA2 hJA2 h4
    exact Nat.lt_of_lt_of_le hJA2.lt hN
  · rename_i b0 b1 b2 h0 Y0 p0 h1 b3 b4 vLA hLA h2 h3 vJA2 hJA2 h4
    exact Int.natCast_nonneg _
  · rename_i b0 b1 b2 h0 Y0 p0 h1 b3 b4 vLA hLA h2 h3 vJA2 hJA2 h4
    exact Int.ofNat_lt.2 hJA2.lt
  · rename_i b0 b1 b2 h0 Y0 p0 h1 b3 b4 vLA hLA h2 h3 vJA2 hJA2 h4
    exact Nat.lt_of_lt_of_le hJA2.lt hN
  · rename_i b0 b1 b2 h0 Y0 p0 h1 b3 b4 vLA hLA h2 h3 vJA2 hJA2 h4
    exact Int.natCast_nonneg _
  · rename_i b0 b1 b2 h0 Y0 p0 h1 b3 b4 vLA hLA h2 h3 vJA2 hJA2 h4
    exact Int.ofNat_lt.2 hJA2.lt
  · rename_i b0 b1 b2 h0 Y0 p0 h1 b3 b4 vLA hLA h2 h3 vJA2 hJA2 h4
    exact Nat.lt_of_lt_of_le hJA2.lt hN
  · rename_i b0 b1 b2 h0 Y0 p0 h1 b3 b4 vLA hLA h2 h3 vJA2 hJA2 h4 Y1 p1 b5 h5
    exact plainN 2 (by decide)
  · rename_i b0 b1 b2 h0 Y0 p0 h1 b3 b4 vLA hLA h2 h3 vJA2 hJA2 h4 Y1 p1 b5 h5
    exact (hJA2.fit p1.1).elim
  · rename_i b0 b1 b2 h0 Y0 p0 h1 b3 b4 vLA hLA h2 h3 vJA2 hJA2 h4 Y1 p1 b5 h5
    exact (hJA2.fit p1.1).elim
  · rename_i b0 b1 b2 h0 Y0 p0 h1 b3 b4 vLA hLA h2 h3 vJA2 hJA2 h4 Y1 p1 b5 h5
    exact plainN 2 (by decide)
  · rename_i b0 b1 b2 h0 Y0 p0 h1 b3 b4 vLA hLA h2 h3 vJA2 hJA2 h4 Y1 p1 b5 h5
    exact (code_kill (code2 hA) h5).elim
  · rename_i b0 b1 b2 h0 Y0 p0 h1 b3 b4 vLA hLA h2 h3 vJA2 hJA2 h4 Y1 p1 b5 h5
    refine Stands.one (vJA2.1.1, vJA2.2) ⟨⟨hJA2.lt, hJA2.rep, hJA2.syn.mono (Nat.le_succ _)⟩, ?_⟩
    ((refine Tr.via ?_ ?_ ?_; rotate_left; (as_aux_lemma => ((conv => (rhs; reduce))))); with_reducible repeat' (first | exact Tr.yes_h | refine Tr.and_h ?_ ?_ | refine Tr.imp_h fun _ => ?_ | refine Tr.all_h fun _ => ?_ | refine Tr.lf_h ?_))
    all_goals (first | first | (show Region.lexB _ _ = true; kernel_rfl) | (show planned _ _ = true; kernel_rfl) | exact rfl | exact True.intro | (first | exact key3 | exact key30 | exact zero3 | exact zero53 | exact eq30 | exact ⟨key3, zero53⟩ | exact ⟨key30, zero3⟩) | ((try dsimp only [imp, C0, cG, cInt, cPl, cSlot, cDo] at *); (try refine inR64 ?_ ?_) <;> (try simp only [List.length_set, List.length_append, List.length_take, List.length_drop]) <;> omega))
  · rename_i b0 b1 b2 h0 Y0 p0 h1 b3 b4 vLA hLA h2 h3 vJA2 hJA2 h4 b5 Y1 p1 h5
    exact plainN 2 (by decide)
  · rename_i b0 b1 b2 h0 Y0 p0 h1 b3 b4 vLA hLA h2 h3 vJA2 hJA2 h4 b5 Y1 p1 h5
    exact (hJA2.fit p1.1).elim
  · rename_i b0 b1 b2 h0 Y0 p0 h1 b3 b4 vLA hLA h2 h3 vJA2 hJA2 h4 b5 Y1 p1 h5
    exact (hJA2.fit p1.1).elim
  · rename_i b0 b1 b2 h0 Y0 p0 h1 b3 b4 vLA hLA h2 h3 vJA2 hJA2 h4 b5 Y1 p1 h5
    exact plainN 2 (by decide)
  · rename_i b0 b1 b2 h0 Y0 p0 h1 b3 b4 vLA hLA h2 h3 vJA2 hJA2 h4 b5 Y1 p1 h5
    exact (code_kill (code2 hA) h5).elim
  · rename_i b0 b1 b2 h0 Y0 p0 h1 b3 b4 vLA hLA h2 h3 vJA2 hJA2 h4 b5 Y1 p1 h5
    refine Stands.one (vJA2.1.1, vJA2.2) ⟨⟨hJA2.lt, hJA2.rep, hJA2.syn.mono (Nat.le_succ _)⟩, ?_⟩
    ((refine Tr.via ?_ ?_ ?_; rotate_left; (as_aux_lemma => ((conv => (rhs; reduce))))); with_reducible repeat' (first | exact Tr.yes_h | refine Tr.and_h ?_ ?_ | refine Tr.imp_h fun _ => ?_ | refine Tr.all_h fun _ => ?_ | refine Tr.lf_h ?_))
    all_goals (first | first | (show Region.lexB _ _ = true; kernel_rfl) | (show planned _ _ = true; kernel_rfl) | exact rfl | exact True.intro | (first | exact key3 | exact key30 | exact zero3 | exact zero53 | exact eq30 | exact ⟨key3, zero53⟩ | exact ⟨key30, zero3⟩) | ((try dsimp only [imp, C0, cG, cInt, cPl, cSlot, cDo] at *); (try refine inR64 ?_ ?_) <;> (try simp only [List.length_set, List.length_append, List.length_take, List.length_drop]) <;> omega))
  · rename_i b0 b1 b2 h0 Y0 p0 h1 b3 b4 vLA hLA h2 vJA hJA h3
    exact hJA.rep.of rfl rfl rfl rfl
  · rename_i b0 b1 b2 h0 Y0 p0 h1 b3 b4 vLA hLA h2 vJA hJA h3 b5
    exact hJA.rep.of rfl rfl rfl rfl
  · rename_i b0 b1 b2 h0 Y0 p0 h1 b3 b4 vLA hLA h2 vJA hJA h3 b5
    refine Stands.one () ⟨trivial, ?_⟩
    ((refine Tr.via ?_ ?_ ?_; rotate_left; (as_aux_lemma => ((conv => (rhs; reduce))))); with_reducible repeat' (first | exact Tr.yes_h | refine Tr.and_h ?_ ?_ | refine Tr.imp_h fun _ => ?_ | refine Tr.all_h fun _ => ?_ | refine Tr.lf_h ?_))
    all_goals (first | first | (show Region.lexB _ _ = true; kernel_rfl) | (show planned _ _ = true; kernel_rfl) | exact rfl | exact True.intro | (first | exact key3 | exact key30 | exact zero3 | exact zero53 | exact eq30 | exact ⟨key3, zero53⟩ | exact ⟨key30, zero3⟩) | ((try dsimp only [imp, C0, cG, cInt, cPl, cSlot, cDo] at *); (try refine inR64 ?_ ?_) <;> (try simp only [List.length_set, List.length_append, List.length_take, List.length_drop]) <;> omega))
  · rename_i b0 b1 b2 h0 Y0 p0 h1 b3 b4 vLA hLA h2 vJA hJA h3 b5 vFA hFA h4
    exact absurd h4 (by decide)
  · rename_i b0 b1 b2 h0 Y0 p0 h1 b3 b4 vLA hLA h2 vJA hJA h3 b5 vFA hFA h4 h5 h6
    exact (isA hJA.syn h6).elim
  · rename_i b0 b1 b2 h0 Y0 p0 h1 b3 b4 vLA hLA h2 vJA hJA h3 b5 vFA hFA h4 h5
    exact (c1A hJA.syn h5).elim
  · rename_i b0 b1 b2 h0 Y0 p0 h1 b3 b4 vLA hLA h2 vJA hJA h3 b5 vFA hFA h4 h5 h6 b6
    exact (isA hJA.syn h6).elim
  · rename_i b0 b1 b2 h0 Y0 p0 h1 b3 b4 vLA hLA h2 vJA hJA h3 b5 vFA hFA h4 h5 h6 b6 Y1 p1
    exact (isA hJA.syn h6).elim
  · rename_i b0 b1 b2 h0 Y0 p0 h1 b3 b4 vLA hLA h2 vJA hJA h3 b5 vFA hFA h4 h5 h6 h7 h8
    exact (latA hJA.syn h8).elim
  · rename_i b0 b1 b2 h0 Y0 p0 h1 b3 b4 vLA hLA h2 vJA hJA h3 b5 vFA hFA h4 h5 h6 h7 h8
    exact (latA hJA.syn h8).elim
  · rename_i b0 b1 b2 h0 Y0 p0 h1 b3 b4 vLA hLA h2 vJA hJA h3 b5 vFA hFA h4 h5 h6 h7 h8
    exact (latA hJA.syn h8).elim
  · rename_i b0 b1 b2 h0 Y0 p0 h1 b3 b4 vLA hLA h2 vJA hJA h3 b5 vFA hFA h4 h5 h6 h7 h8
    exact (latA hJA.syn h8).elim
  · rename_i b0 b1 b2 h0 Y0 p0 h1 b3 b4 vLA hLA h2 vJA hJA h3 b5 vFA hFA h4 h5 h6 h7
    exact latN hJA.syn _
  · rename_i b0 b1 b2 h0 Y0 p0 h1 b3 b4 vLA hLA h2 vJA hJA h3 b5 vFA hFA h4 h5 h6 h7
    exact tok_of hJA.rep hJA.syn p0 (le200 hJA.le h0) rfl rfl rfl rfl
  · rename_i b0 b1 b2 h0 Y0 p0 h1 b3 b4 vLA hLA h2 vJA hJA h3 b5 vFA hFA h4 h5 h6 h7
    exact may_ps p0
  · rename_i b0 b1 b2 h0 Y0 p0 h1 b3 b4 vLA hLA h2 vJA hJA h3 b5 vFA hFA h4 h5 h6 h7
    exact (restA hJA.syn h7).elim
  · rename_i b0 b1 b2 h0 Y0 p0 h1 b3 b4 vLA hLA h2 vJA hJA h3 b5 vFA hFA h4 h5 h6 h7
    exact tok_of hJA.rep hJA.syn p0 (le200 hJA.le h0) rfl rfl rfl rfl
  · rename_i b0 b1 b2 h0 Y0 p0 h1 b3 b4 vLA hLA h2 vJA hJA h3 b5 vFA hFA h4 h5 h6 h7 Y1 p1
    exact may_ps p0
  · rename_i b0 b1 b2 h0 Y0 p0 h1 b3 b4 vLA hLA h2 vJA hJA h3 b5 vFA hFA h4 h5 h6 h7 Y1 p1
    exact inr2 hJA.le h0
  · rename_i b0 b1 b2 h0 Y0 p0 h1 b3 b4 vLA hLA h2 vJA hJA h3 b5 vFA hFA h4 h5 h6 h7 Y1 p1
    refine Stands.one (vJA.1 + 1, vJA.2) ⟨hJA, dec2 h3 hJA.le, ?_⟩
    ((refine Tr.via ?_ ?_ ?_; rotate_left; (as_aux_lemma => ((conv => (rhs; reduce))))); with_reducible repeat' (first | exact Tr.yes_h | refine Tr.and_h ?_ ?_ | refine Tr.imp_h fun _ => ?_ | refine Tr.all_h fun _ => ?_ | refine Tr.lf_h ?_))
    all_goals (first | first | (show Region.lexB _ _ = true; kernel_rfl) | (show planned _ _ = true; kernel_rfl) | exact rfl | exact True.intro | (first | exact key3 | exact key30 | exact zero3 | exact zero53 | exact eq30 | exact ⟨key3, zero53⟩ | exact ⟨key30, zero3⟩) | ((try dsimp only [imp, C0, cG, cInt, cPl, cSlot, cDo] at *); (try refine inR64 ?_ ?_) <;> (try simp only [List.length_set, List.length_append, List.length_take, List.length_drop]) <;> omega))
  · rename_i b0 b1 b2 h0 Y0 p0 h1 b3 b4 vLA hLA h2 vJA hJA h3 b5 vFA hFA h4 h5 h6 h7 Y1 p1
    exact (srt_no p1.1 p1.2.1 (filA hJA.syn _)).elim
  · rename_i b0 b1 b2 h0 Y0 p0 h1 b3 b4 vLA hLA h2 vJA hJA h3 b5 vFA hFA h4 h5 h6 h7 Y1 p1 Y2 p2
    exact may_ps p0
  · rename_i b0 b1 b2 h0 Y0 p0 h1 b3 b4 vLA hLA h2 vJA hJA h3 b5 vFA hFA h4 h5 h6 h7 Y1 p1 Y2 p2
    exact (srt_no p1.1 p1.2.1 (filA hJA.syn _)).elim
  · rename_i b0 b1 b2 h0 Y0 p0 h1 b3 b4 vLA hLA h2 vJB hJB h3
    exact hJB.rep.of rfl rfl rfl rfl
  · rename_i b0 b1 b2 h0 Y0 p0 h1 b3 b4 vLA hLA h2 vJB hJB h3 b5
    exact hJB.rep.of rfl rfl rfl rfl
  · rename_i b0 b1 b2 h0 Y0 p0 h1 b3 b4 vLA hLA h2 vJB hJB h3 b5
    refine Stands.next (Stands.one ((0, -1, -1), vJB.1, vJB.2.1, vJB.2.2) ⟨⟨hJB, Fl.zero ..⟩, ?_⟩)
    ((refine Tr.via ?_ ?_ ?_; rotate_left; (as_aux_lemma => ((conv => (rhs; reduce))))); with_reducible repeat' (first | exact Tr.yes_h | refine Tr.and_h ?_ ?_ | refine Tr.imp_h fun _ => ?_ | refine Tr.all_h fun _ => ?_ | refine Tr.lf_h ?_))
    all_goals (first | first | (show Region.lexB _ _ = true; kernel_rfl) | (show planned _ _ = true; kernel_rfl) | exact rfl | exact True.intro | (first | exact key3 | exact key30 | exact zero3 | exact zero53 | exact eq30 | exact ⟨key3, zero53⟩ | exact ⟨key30, zero3⟩) | ((try dsimp only [imp, C0, cG, cInt, cPl, cSlot, cDo] at *); (try refine inR64 ?_ ?_) <;> (try simp only [List.length_set, List.length_append, List.length_take, List.length_drop]) <;> omega))
  · rename_i b0 b1 b2 h0 Y0 p0 h1 b3 b4 vLA hLA h2 vJB hJB h3 b5 vFB hFB h4 h5 h6
    exact Int.natCast_nonneg _
  · rename_i b0 b1 b2 h0 Y0 p0 h1 b3 b4 vLA hLA h2 vJB hJB h3 b5 vFB hFB h4 h5 h6
    exact of_decide_eq_true h6
  · rename_i b0 b1 b2 h0 Y0 p0 h1 b3 b4 vLA hLA h2 vJB hJB h3 b5 vFB hFB h4 h5 h6
    exact hFB.idx h6
  · rename_i b0 b1 b2 h0 Y0 p0 h1 b3 b4 vLA hLA h2 vJB hJB h3 b5 vFB hFB h4 h5 h6 h7
    exact Int.natCast_nonneg _
  · rename_i b0 b1 b2 h0 Y0 p0 h1 b3 b4 vLA hLA h2 vJB hJB h3 b5 vFB hFB h4 h5 h6 h7
    exact of_decide_eq_true h6
  · rename_i b0 b1 b2 h0 Y0 p0 h1 b3 b4 vLA hLA h2 vJB hJB h3 b5 vFB hFB h4 h5 h6 h7
    exact hFB.idx h6
  · rename_i b0 b1 b2 h0 Y0 p0 h1 b3 b4 vLA hLA h2 vJB hJB h3 b5 vFB hFB h4 h5 h6 h7 h8
    exact hFB.inr h0 h6
  · rename_i b0 b1 b2 h0 Y0 p0 h1 b3 b4 vLA hLA h2 vJB hJB h3 b5 vFB hFB h4 h5 h6 h7 h8
    refine Stands.next (Stands.one ((vFB.1.1 + 1, (vFB.1.1 : Int), (vFB.1.1 : Int)), vFB.2) ⟨hFB.step h6 (.inl ⟨rfl, h7⟩) (.inl ⟨rfl, h8⟩), Fx.mless h6, ?_⟩)
    ((refine Tr.via ?_ ?_ ?_; rotate_left; (as_aux_lemma => ((conv => (rhs; reduce))))); with_reducible repeat' (first | exact Tr.yes_h | refine Tr.and_h ?_ ?_ | refine Tr.imp_h fun _ => ?_ | refine Tr.all_h fun _ => ?_ | refine Tr.lf_h ?_))
    all_goals (first | first | (show Region.lexB _ _ = true; kernel_rfl) | (show planned _ _ = true; kernel_rfl) | exact rfl | exact True.intro | (first | exact key3 | exact key30 | exact zero3 | exact zero53 | exact eq30 | exact ⟨key3, zero53⟩ | exact ⟨key30, zero3⟩) | ((try dsimp only [imp, C0, cG, cInt, cPl, cSlot, cDo] at *); (try refine inR64 ?_ ?_) <;> (try simp only [List.length_set, List.length_append, List.length_take, List.length_drop]) <;> omega))
  · rename_i b0 b1 b2 h0 Y0 p0 h1 b3 b4 vLA hLA h2 vJB hJB h3 b5 vFB hFB h4 h5 h6 h7 h8
    exact hFB.inr h0 h6
  · rename_i b0 b1 b2 h0 Y0 p0 h1 b3 b4 vLA hLA h2 vJB hJB h3 b5 vFB hFB h4 h5 h6 h7 h8
    refine Stands.next (Stands.one ((vFB.1.1 + 1, (vFB.1.1 : Int), vFB.1.2.2), vFB.2) ⟨hFB.step h6 (.inl ⟨rfl, h7⟩) (.inr ⟨rfl, h8⟩), Fx.mless h6, ?_⟩)
    ((refine Tr.via ?_ ?_ ?_; rotate_left; (as_aux_lemma => ((conv => (rhs; reduce))))); with_reducible repeat' (first | exact Tr.yes_h | refine Tr.and_h ?_ ?_ | refine Tr.imp_h fun _ => ?_ | refine Tr.all_h fun _ => ?_ | refine Tr.lf_h ?_))
    all_goals (first | first | (show Region.lexB _ _ = true; kernel_rfl) | (show planned _ _ = true; kernel_rfl) | exact rfl | exact True.intro | (first | exact key3 | exact key30 | exact zero3 | exact zero53 | exact eq30 | exact ⟨key3, zero53⟩ | exact ⟨key30, zero3⟩) | ((try dsimp only [imp, C0, cG, cInt, cPl, cSlot, cDo] at *); (try refine inR64 ?_ ?_) <;> (try simp only [List.length_set, List.length_append, List.length_take, List.length_drop]) <;> omega))
  · rename_i b0 b1 b2 h0 Y0 p0 h1 b3 b4 vLA hLA h2 vJB hJB h3 b5 vFB hFB h4 h5 h6 h7
    exact Int.natCast_nonneg _
  · rename_i b0 b1 b2 h0 Y0 p0 h1 b3 b4 vLA hLA h2 vJB hJB h3 b5 vFB hFB h4 h5 h6 h7
    exact of_decide_eq_true h6
  · rename_i b0 b1 b2 h0 Y0 p0 h1 b3 b4 vLA hLA h2 vJB hJB h3 b5 vFB hFB h4 h5 h6 h7
    exact hFB.idx h6
  · rename_i b0 b1 b2 h0 Y0 p0 h1 b3 b4 vLA hLA h2 vJB hJB h3 b5 vFB hFB h4 h5 h6 h7 h8
    exact hFB.inr h0 h6
  · rename_i b0 b1 b2 h0 Y0 p0 h1 b3 b4 vLA hLA h2 vJB hJB h3 b5 vFB hFB h4 h5 h6 h7 h8
    refine Stands.next (Stands.one ((vFB.1.1 + 1, vFB.1.2.1, (vFB.1.1 : Int)), vFB.2) ⟨hFB.step h6 (.inr ⟨rfl, h7⟩) (.inl ⟨rfl, h8⟩), Fx.mless h6, ?_⟩)
    ((refine Tr.via ?_ ?_ ?_; rotate_left; (as_aux_lemma => ((conv => (rhs; reduce))))); with_reducible repeat' (first | exact Tr.yes_h | refine Tr.and_h ?_ ?_ | refine Tr.imp_h fun _ => ?_ | refine Tr.all_h fun _ => ?_ | refine Tr.lf_h ?_))
    all_goals (first | first | (show Region.lexB _ _ = true; kernel_rfl) | (show planned _ _ = true; kernel_rfl) | exact rfl | exact True.intro | (first | exact key3 | exact key30 | exact zero3 | exact zero53 | exact eq30 | exact ⟨key3, zero53⟩ | exact ⟨key30, zero3⟩) | ((try dsimp only [imp, C0, cG, cInt, cPl, cSlot, cDo] at *); (try refine inR64 ?_ ?_) <;> (try simp only [List.length_set, List.length_append, List.length_take, List.length_drop]) <;> omega))
  · rename_i b0 b1 b2 h0 Y0 p0 h1 b3 b4 vLA hLA h2 vJB hJB h3 b5 vFB hFB h4 h5 h6 h7 h8
    exact hFB.inr h0 h6
  · rename_i b0 b1 b2 h0 Y0 p0 h1 b3 b4 vLA hLA h2 vJB hJB h3 b5 vFB hFB h4 h5 h6 h7 h8
    refine Stands.next (Stands.one ((vFB.1.1 + 1, vFB.1.2.1, vFB.1.2.2), vFB.2) ⟨hFB.step h6 (.inr ⟨rfl, h7⟩) (.inr ⟨rfl, h8⟩), Fx.mless h6, ?_⟩)
    ((refine Tr.via ?_ ?_ ?_; rotate_left; (as_aux_lemma => ((conv => (rhs; reduce))))); with_reducible repeat' (first | exact Tr.yes_h | refine Tr.and_h ?_ ?_ | refine Tr.imp_h fun _ => ?_ | refine Tr.all_h fun _ => ?_ | refine Tr.lf_h ?_))
    all_goals (first | first | (show Region.lexB _ _ = true; kernel_rfl) | (show planned _ _ = true; kernel_rfl) | exact rfl | exact True.intro | (first | exact key3 | exact key30 | exact zero3 | exact zero53 | exact eq30 | exact ⟨key3, zero53⟩ | exact ⟨key30, zero3⟩) | ((try dsimp only [imp, C0, cG, cInt, cPl, cSlot, cDo] at *); (try refine inR64 ?_ ?_) <;> (try simp only [List.length_set, List.length_append, List.length_take, List.length_drop]) <;> omega))
  · rename_i b0 b1 b2 h0 Y0 p0 h1 b3 b4 vLA hLA h2 vJB hJB h3 b5 vFB hFB h4 h5 h6 h7 h8
    exact (hFB.finr h0 h6 h8).1
  · rename_i b0 b1 b2 h0 Y0 p0 h1 b3 b4 vLA hLA h2 vJB hJB h3 b5 vFB hFB h4 h5 h6 h7 h8
    exact (hFB.finr h0 h6 h8).2.1
  · rename_i b0 b1 b2 h0 Y0 p0 h1 b3 b4 vLA hLA h2 vJB hJB h3 b5 vFB hFB h4 h5 h6 h7 h8
    exact (hFB.finr h0 h6 h8).2.2.1
  · rename_i b0 b1 b2 h0 Y0 p0 h1 b3 b4 vLA hLA h2 vJB hJB h3 b5 vFB hFB h4 h5 h6 h7 h8
    exact (hFB.finr h0 h6 h8).2.2.2.1
  · rename_i b0 b1 b2 h0 Y0 p0 h1 b3 b4 vLA hLA h2 vJB hJB h3 b5 vFB hFB h4 h5 h6 h7 h8
    exact (hFB.finr h0 h6 h8).2.2.2.2
  · rename_i b0 b1 b2 h0 Y0 p0 h1 b3 b4 vLA hLA h2 vJB hJB h3 b5 vFB hFB h4 h5 h6 h7
    exact ((hFB.dn h6).c1 h7).elim
  · rename_i b0 b1 b2 h0 Y0 p0 h1 b3 b4 vLA hLA h2 vJB hJB h3 b5 vFB hFB h4 h5 h6 h7 h8 b6
    exact ⟨by simp, by decide, by decide⟩
  · rename_i b0 b1 b2 h0 Y0 p0 h1 b3 b4 vLA hLA h2 vJB hJB h3 b5 vFB hFB h4 h5 h6 h7 h8 b6 Y1 p1
    exact hFB.ss h6 h8 p1
  · rename_i b0 b1 b2 h0 Y0 p0 h1 b3 b4 vLA hLA h2 vJB hJB h3 b5 vFB hFB h4 h5 h6 h7 h8 b6 Y1 p1 h9 h10
    exact (hFB.gidx h6 h10).1
  · rename_i b0 b1 b2 h0 Y0 p0 h1 b3 b4 vLA hLA h2 vJB hJB h3 b5 vFB hFB h4 h5 h6 h7 h8 b6 Y1 p1 h9 h10
    exact (hFB.gidx h6 h10).2.1
  · rename_i b0 b1 b2 h0 Y0 p0 h1 b3 b4 vLA hLA h2 vJB hJB h3 b5 vFB hFB h4 h5 h6 h7 h8 b6 Y1 p1 h9 h10
    exact (hFB.gidx h6 h10).2.2
  · rename_i b0 b1 b2 h0 Y0 p0 h1 b3 b4 vLA hLA h2 vJB hJB h3 b5 vFB hFB h4 h5 h6 h7 h8 b6 Y1 p1 h9
    exact tok_of hFB.sb.rep hFB.sb.syn p0 (le200 hFB.sb.le h0) rfl rfl rfl rfl
  · rename_i b0 b1 b2 h0 Y0 p0 h1 b3 b4 vLA hLA h2 vJB hJB h3 b5 vFB hFB h4 h5 h6 h7 h8 b6 Y1 p1 h9
    exact (hFB.killT h6 h8 p1 rfl rfl h9).elim
  · rename_i b0 b1 b2 h0 Y0 p0 h1 b3 b4 vLA hLA h2 vJB hJB h3 b5 vFB hFB h4 h5 h6 h7 h8 b6 Y1 p1 h9
    exact ⟨hFB.rk h0, may_ps p0⟩
  · rename_i b0 b1 b2 h0 Y0 p0 h1 b3 b4 vLA hLA h2 vJB hJB h3 b5 vFB hFB h4 h5 h6 h7 h8 b6 Y1 p1 h9 Y2 p2 h10
    exact (hFB.len0 p0 p2 rfl h10).elim
  · rename_i b0 b1 b2 h0 Y0 p0 h1 b3 b4 vLA hLA h2 vJB hJB h3 b5 vFB hFB h4 h5 h6 h7 h8 b6 Y1 p1 h9 Y2 p2 h10
    exact tok_of hFB.sb.rep hFB.sb.syn p0 (le200 hFB.sb.le h0) rfl rfl rfl rfl
  · rename_i b0 b1 b2 h0 Y0 p0 h1 b3 b4 vLA hLA h2 vJB hJB h3 b5 vFB hFB h4 h5 h6 h7 h8 b6 Y1 p1 h9 Y2 p2 h10 Y3 p3
    exact ⟨hFB.rk h0, may_ps p0⟩
  · rename_i b0 b1 b2 h0 Y0 p0 h1 b3 b4 vLA hLA h2 vJB hJB h3 b5 vFB hFB h4 h5 h6 h7 h8 b6 Y1 p1 h9 Y2 p2 h10 Y3 p3 Y4 p4
    exact inr2 hFB.sb.le h0
  · rename_i b0 b1 b2 h0 Y0 p0 h1 b3 b4 vLA hLA h2 vJB hJB h3 b5 vFB hFB h4 h5 h6 h7 h8 b6 Y1 p1 h9 Y2 p2 h10 Y3 p3 Y4 p4
    refine Stands.next (Stands.one (vFB.2.1 + 1, vFB.2.2.1, vFB.2.2.2) ⟨hFB.sb, dec3 h3 h4 hFB.sb.le, ?_⟩)
    ((refine Tr.via ?_ ?_ ?_; rotate_left; (as_aux_lemma => ((conv => (rhs; reduce))))); with_reducible repeat' (first | exact Tr.yes_h | refine Tr.and_h ?_ ?_ | refine Tr.imp_h fun _ => ?_ | refine Tr.all_h fun _ => ?_ | refine Tr.lf_h ?_))
    all_goals (first | first | (show Region.lexB _ _ = true; kernel_rfl) | (show planned _ _ = true; kernel_rfl) | exact rfl | exact True.intro | (first | exact key3 | exact key30 | exact zero3 | exact zero53 | exact eq30 | exact ⟨key3, zero53⟩ | exact ⟨key30, zero3⟩) | ((try dsimp only [imp, C0, cG, cInt, cPl, cSlot, cDo] at *); (try refine inR64 ?_ ?_) <;> (try simp only [List.length_set, List.length_append, List.length_take, List.length_drop]) <;> omega))
  · rename_i b0 b1 b2 h0 Y0 p0 h1 b3 b4 vLA hLA h2 vJB hJB h3 b5 vFB hFB h4 h5 h6 h7 h8 b6 Y1 p1 h9 Y2 p2 h10 Y3 p3 Y4 p4
    exact (og_no p4 p2).elim
  · rename_i b0 b1 b2 h0 Y0 p0 h1 b3 b4 vLA hLA h2 vJB hJB h3 b5 vFB hFB h4 h5 h6 h7 h8 b6 Y1 p1 h9 Y2 p2 h10 Y3 p3 Y4 p4 h11
    exact (og_no p4 p2).elim
  · rename_i b0 b1 b2 h0 Y0 p0 h1 b3 b4 vLA hLA h2 vJB hJB h3 b5 vFB hFB h4 h5 h6 h7 h8 b6 Y1 p1 h9 Y2 p2 h10 Y3 p3 Y4 p4 h11
    exact (og_no p4 p2).elim
  · rename_i b0 b1 b2 h0 Y0 p0 h1 b3 b4 vLA hLA h2 vJB hJB h3 b5 vFB hFB h4 h5 h6 h7 h8 b6 Y1 p1 h9 Y2 p2 h10 Y3 p3 Y4 p4 h11
    exact (og_no p4 p2).elim
  · rename_i b0 b1 b2 h0 Y0 p0 h1 b3 b4 vLA hLA h2 vJB hJB h3 b5 vFB hFB h4 h5 h6 h7 h8 b6 Y1 p1 h9 Y2 p2 h10 Y3 p3
    exact (srt_no p3.1 p3.2.1 (hFB.ofNil p0 _ p2)).elim
  · rename_i b0 b1 b2 h0 Y0 p0 h1 b3 b4 vLA hLA h2 vJB hJB h3 b5 vFB hFB h4 h5 h6 h7 h8 b6 Y1 p1 h9 Y2 p2 h10 Y3 p3 Y4 p4
    exact (srt_no p3.1 p3.2.1 (hFB.ofNil p0 _ p2)).elim
  · rename_i b0 b1 b2 h0 Y0 p0 h1 b3 b4 vLA hLA h2 vJB hJB h3 b5 vFB hFB h4 h5 h6 h7 h8 b6 Y1 p1 h9 Y2 p2 h10 Y3 p3 Y4 p4 Y5 p5
    exact (srt_no p3.1 p3.2.1 (hFB.ofNil p0 _ p2)).elim
  · rename_i b0 b1 b2 h0 Y0 p0 h1 b3 b4 vLA hLA h2 vJB hJB h3 b5 vFB hFB h4 h5 h6 h7 h8 b6 Y1 p1 h9 Y2 p2 h10 Y3 p3 Y4 p4 Y5 p5
    exact (og_no p5 p2).elim
  · rename_i b0 b1 b2 h0 Y0 p0 h1 b3 b4 vLA hLA h2 vJB hJB h3 b5 vFB hFB h4 h5 h6 h7 h8 b6 Y1 p1 h9 Y2 p2 h10 Y3 p3 Y4 p4 Y5 p5 h11
    exact (og_no p5 p2).elim
  · rename_i b0 b1 b2 h0 Y0 p0 h1 b3 b4 vLA hLA h2 vJB hJB h3 b5 vFB hFB h4 h5 h6 h7 h8 b6 Y1 p1 h9 Y2 p2 h10 Y3 p3 Y4 p4 Y5 p5 h11
    exact (og_no p5 p2).elim
  · rename_i b0 b1 b2 h0 Y0 p0 h1 b3 b4 vLA hLA h2 vJB hJB h3 b5 vFB hFB h4 h5 h6 h7 h8 b6 Y1 p1 h9 Y2 p2 h10 Y3 p3 Y4 p4 Y5 p5 h11
    exact (og_no p5 p2).elim
  · rename_i b0 b1 b2 h0 Y0 p0 h1 b3 b4 vLA hLA h2 vJB hJB h3 b5 vFB hFB h4 h5 h6 h7 h8 b6 Y1 p1 h9 Y2 p2 h10
    exact (hFB.lenN p0 p2 rfl h10).elim
  · rename_i b0 b1 b2 h0 Y0 p0 h1 b3 b4 vLA hLA h2 vJB hJB h3 b5 vFB hFB h4 h5 h6 h7 h8 b6 Y1 p1 h9 Y2 p2 h10
    exact tok_of hFB.sb.rep hFB.sb.syn p0 (le200 hFB.sb.le h0) rfl rfl rfl rfl
  · rename_i b0 b1 b2 h0 Y0 p0 h1 b3 b4 vLA hLA h2 vJB hJB h3 b5 vFB hFB h4 h5 h6 h7 h8 b6 Y1 p1 h9 Y2 p2 h10 Y3 p3
    exact (hFB.ogSrt p0 p2 p3).elim
  · rename_i b0 b1 b2 h0 Y0 p0 h1 b3 b4 vLA hLA h2 vJB hJB h3 b5 vFB hFB h4 h5 h6 h7 h8 b6 Y1 p1 h9 Y2 p2 h10 Y3 p3 Y4 p4
    exact (og_no p2 p4).elim
  · rename_i b0 b1 b2 h0 Y0 p0 h1 b3 b4 vLA hLA h2 vJB hJB h3 b5 vFB hFB h4 h5 h6 h7 h8 b6 Y1 p1 h9 Y2 p2 h10 Y3 p3 Y4 p4
    exact (og_no p2 p4).elim
  · rename_i b0 b1 b2 h0 Y0 p0 h1 b3 b4 vLA hLA h2 vJB hJB h3 b5 vFB hFB h4 h5 h6 h7 h8 b6 Y1 p1 h9 Y2 p2 h10 Y3 p3 Y4 p4
    exact (hFB.ogSrt p0 p2 p3).elim
  · rename_i b0 b1 b2 h0 Y0 p0 h1 b3 b4 vLA hLA h2 vJB hJB h3 b5 vFB hFB h4 h5 h6 h7 h8 b6 Y1 p1 h9 Y2 p2 h10 Y3 p3 Y4 p4 h11
    exact (hFB.ogSrt p0 p2 p3).elim
  · rename_i b0 b1 b2 h0 Y0 p0 h1 b3 b4 vLA hLA h2 vJB hJB h3 b5 vFB hFB h4 h5 h6 h7 h8 b6 Y1 p1 h9 Y2 p2 h10 Y3 p3 Y4 p4 h11
    exact (hFB.ogSrt p0 p2 p3).elim
  · rename_i b0 b1 b2 h0 Y0 p0 h1 b3 b4 vLA hLA h2 vJB hJB h3 b5 vFB hFB h4 h5 h6 h7 h8 b6 Y1 p1 h9 Y2 p2 h10 Y3 p3 Y4 p4 h11
    exact (hFB.ogSrt p0 p2 p3).elim
  · rename_i b0 b1 b2 h0 Y0 p0 h1 b3 b4 vLA hLA h2 vJB hJB h3 b5 vFB hFB h4 h5 h6 h7 h8 b6 Y1 p1 h9 Y2 p2 h10 Y3 p3
    exact hFB.bsPre h0 p3.1 p3.2.1
  · rename_i b0 b1 b2 h0 Y0 p0 h1 b3 b4 vLA hLA h2 vJB hJB h3 b5 vFB hFB h4 h5 h6 h7 h8 b6 Y1 p1 h9 Y2 p2 h10 Y3 p3 Y4 p4
    exact ⟨hFB.rk h0, may_ps p0⟩
  · rename_i b0 b1 b2 h0 Y0 p0 h1 b3 b4 vLA hLA h2 vJB hJB h3 b5 vFB hFB h4 h5 h6 h7 h8 b6 Y1 p1 h9 Y2 p2 h10 Y3 p3 Y4 p4 Y5 p5
    exact (og_no p2 p5).elim
  · rename_i b0 b1 b2 h0 Y0 p0 h1 b3 b4 vLA hLA h2 vJB hJB h3 b5 vFB hFB h4 h5 h6 h7 h8 b6 Y1 p1 h9 Y2 p2 h10 Y3 p3 Y4 p4 Y5 p5
    exact hFB.bssPre h0 p3.1 p4 p5
  · rename_i b0 b1 b2 h0 Y0 p0 h1 b3 b4 vLA hLA h2 vJB hJB h3 b5 vFB hFB h4 h5 h6 h7 h8 b6 Y1 p1 h9 Y2 p2 h10 Y3 p3 Y4 p4 Y5 p5 h11
    exact (hFB.same p0 p3.1 p4 p5 h11).elim
  · rename_i b0 b1 b2 h0 Y0 p0 h1 b3 b4 vLA hLA h2 vJB hJB h3 b5 vFB hFB h4 h5 h6 h7 h8 b6 Y1 p1 h9 Y2 p2 h10 Y3 p3 Y4 p4 Y5 p5 h11
    exact inr2 hFB.sb.le h0
  · rename_i b0 b1 b2 h0 Y0 p0 h1 b3 b4 vLA hLA h2 vJB hJB h3 b5 vFB hFB h4 h5 h6 h7 h8 b6 Y1 p1 h9 Y2 p2 h10 Y3 p3 Y4 p4 Y5 p5 h11
    refine Stands.next (Stands.one (vFB.2.1 + 1, vFB.2.2.1, vFB.2.2.2) ⟨hFB.sb, dec3 h3 h4 hFB.sb.le, ?_⟩)
    ((refine Tr.via ?_ ?_ ?_; rotate_left; (as_aux_lemma => ((conv => (rhs; reduce))))); with_reducible repeat' (first | exact Tr.yes_h | refine Tr.and_h ?_ ?_ | refine Tr.imp_h fun _ => ?_ | refine Tr.all_h fun _ => ?_ | refine Tr.lf_h ?_))
    all_goals (first | first | (show Region.lexB _ _ = true; kernel_rfl) | (show planned _ _ = true; kernel_rfl) | exact rfl | exact True.intro | (first | exact key3 | exact key30 | exact zero3 | exact zero53 | exact eq30 | exact ⟨key3, zero53⟩ | exact ⟨key30, zero3⟩) | ((try dsimp only [imp, C0, cG, cInt, cPl, cSlot, cDo] at *); (try refine inR64 ?_ ?_) <;> (try simp only [List.length_set, List.length_append, List.length_take, List.length_drop]) <;> omega))
  · rename_i b0 b1 b2 h0 Y0 p0 h1 b3 b4 vLA hLA h2 vJB hJB h3 b5 vFB hFB h4 h5 h6 h7 h8 h9 h10
    exact (hFB.gidx h6 h10).1
  · rename_i b0 b1 b2 h0 Y0 p0 h1 b3 b4 vLA hLA h2 vJB hJB h3 b5 vFB hFB h4 h5 h6 h7 h8 h9 h10
    exact (hFB.gidx h6 h10).2.1
  · rename_i b0 b1 b2 h0 Y0 p0 h1 b3 b4 vLA hLA h2 vJB hJB h3 b5 vFB hFB h4 h5 h6 h7 h8 h9 h10
    exact (hFB.gidx h6 h10).2.2
  · rename_i b0 b1 b2 h0 Y0 p0 h1 b3 b4 vLA hLA h2 vJB hJB h3 b5 vFB hFB h4 h5 h6 h7 h8 h9
    exact tok_of hFB.sb.rep hFB.sb.syn p0 (le200 hFB.sb.le h0) rfl rfl rfl rfl
  · rename_i b0 b1 b2 h0 Y0 p0 h1 b3 b4 vLA hLA h2 vJB hJB h3 b5 vFB hFB h4 h5 h6 h7 h8 h9
    exact (hFB.rest h6 rfl rfl h9).elim
  · rename_i b0 b1 b2 h0 Y0 p0 h1 b3 b4 vLA hLA h2 vJB hJB h3 b5 vFB hFB h4 h5 h6 h7 h8 h9
    exact ⟨hFB.rk h0, may_ps p0⟩
  · rename_i b0 b1 b2 h0 Y0 p0 h1 b3 b4 vLA hLA h2 vJB hJB h3 b5 vFB hFB h4 h5 h6 h7 h8 h9 Y1 p1 h10
    exact (hFB.len0 p0 p1 rfl h10).elim
  · rename_i b0 b1 b2 h0 Y0 p0 h1 b3 b4 vLA hLA h2 vJB hJB h3 b5 vFB hFB h4 h5 h6 h7 h8 h9 Y1 p1 h10
    exact tok_of hFB.sb.rep hFB.sb.syn p0 (le200 hFB.sb.le h0) rfl rfl rfl rfl
  · rename_i b0 b1 b2 h0 Y0 p0 h1 b3 b4 vLA hLA h2 vJB hJB h3 b5 vFB hFB h4 h5 h6 h7 h8 h9 Y1 p1 h10 Y2 p2
    exact ⟨hFB.rk h0, may_ps p0⟩
  · rename_i b0 b1 b2 h0 Y0 p0 h1 b3 b4 vLA hLA h2 vJB hJB h3 b5 vFB hFB h4 h5 h6 h7 h8 h9 Y1 p1 h10 Y2 p2 Y3 p3
    exact inr2 hFB.sb.le h0
  · rename_i b0 b1 b2 h0 Y0 p0 h1 b3 b4 vLA hLA h2 vJB hJB h3 b5 vFB hFB h4 h5 h6 h7 h8 h9 Y1 p1 h10 Y2 p2 Y3 p3
    refine Stands.next (Stands.one (vFB.2.1 + 1, vFB.2.2.1, vFB.2.2.2) ⟨hFB.sb, dec3 h3 h4 hFB.sb.le, ?_⟩)
    ((refine Tr.via ?_ ?_ ?_; rotate_left; (as_aux_lemma => ((conv => (rhs; reduce))))); with_reducible repeat' (first | exact Tr.yes_h | refine Tr.and_h ?_ ?_ | refine Tr.imp_h fun _ => ?_ | refine Tr.all_h fun _ => ?_ | refine Tr.lf_h ?_))
    all_goals (first | first | (show Region.lexB _ _ = true; kernel_rfl) | (show planned _ _ = true; kernel_rfl) | exact rfl | exact True.intro | (first | exact key3 | exact key30 | exact zero3 | exact zero53 | exact eq30 | exact ⟨key3, zero53⟩ | exact ⟨key30, zero3⟩) | ((try dsimp only [imp, C0, cG, cInt, cPl, cSlot, cDo] at *); (try refine inR64 ?_ ?_) <;> (try simp only [List.length_set, List.length_append, List.length_take, List.length_drop]) <;> omega))
  · rename_i b0 b1 b2 h0 Y0 p0 h1 b3 b4 vLA hLA h2 vJB hJB h3 b5 vFB hFB h4 h5 h6 h7 h8 h9 Y1 p1 h10 Y2 p2 Y3 p3
    exact (og_no p3 p1).elim
  · rename_i b0 b1 b2 h0 Y0 p0 h1 b3 b4 vLA hLA h2 vJB hJB h3 b5 vFB hFB h4 h5 h6 h7 h8 h9 Y1 p1 h10 Y2 p2 Y3 p3 h11
    exact (og_no p3 p1).elim
  · rename_i b0 b1 b2 h0 Y0 p0 h1 b3 b4 vLA hLA h2 vJB hJB h3 b5 vFB hFB h4 h5 h6 h7 h8 h9 Y1 p1 h10 Y2 p2 Y3 p3 h11
    exact (og_no p3 p1).elim
  · rename_i b0 b1 b2 h0 Y0 p0 h1 b3 b4 vLA hLA h2 vJB hJB h3 b5 vFB hFB h4 h5 h6 h7 h8 h9 Y1 p1 h10 Y2 p2 Y3 p3 h11
    exact (og_no p3 p1).elim
  · rename_i b0 b1 b2 h0 Y0 p0 h1 b3 b4 vLA hLA h2 vJB hJB h3 b5 vFB hFB h4 h5 h6 h7 h8 h9 Y1 p1 h10 Y2 p2
    exact (srt_no p2.1 p2.2.1 (hFB.ofNil p0 _ p1)).elim
  · rename_i b0 b1 b2 h0 Y0 p0 h1 b3 b4 vLA hLA h2 vJB hJB h3 b5 vFB hFB h4 h5 h6 h7 h8 h9 Y1 p1 h10 Y2 p2 Y3 p3
    exact (srt_no p2.1 p2.2.1 (hFB.ofNil p0 _ p1)).elim
  · rename_i b0 b1 b2 h0 Y0 p0 h1 b3 b4 vLA hLA h2 vJB hJB h3 b5 vFB hFB h4 h5 h6 h7 h8 h9 Y1 p1 h10 Y2 p2 Y3 p3 Y4 p4
    exact (srt_no p2.1 p2.2.1 (hFB.ofNil p0 _ p1)).elim
  · rename_i b0 b1 b2 h0 Y0 p0 h1 b3 b4 vLA hLA h2 vJB hJB h3 b5 vFB hFB h4 h5 h6 h7 h8 h9 Y1 p1 h10 Y2 p2 Y3 p3 Y4 p4
    exact (og_no p4 p1).elim
  · rename_i b0 b1 b2 h0 Y0 p0 h1 b3 b4 vLA hLA h2 vJB hJB h3 b5 vFB hFB h4 h5 h6 h7 h8 h9 Y1 p1 h10 Y2 p2 Y3 p3 Y4 p4 h11
    exact (og_no p4 p1).elim
  · rename_i b0 b1 b2 h0 Y0 p0 h1 b3 b4 vLA hLA h2 vJB hJB h3 b5 vFB hFB h4 h5 h6 h7 h8 h9 Y1 p1 h10 Y2 p2 Y3 p3 Y4 p4 h11
    exact (og_no p4 p1).elim
  · rename_i b0 b1 b2 h0 Y0 p0 h1 b3 b4 vLA hLA h2 vJB hJB h3 b5 vFB hFB h4 h5 h6 h7 h8 h9 Y1 p1 h10 Y2 p2 Y3 p3 Y4 p4 h11
    exact (og_no p4 p1).elim
  · rename_i b0 b1 b2 h0 Y0 p0 h1 b3 b4 vLA hLA h2 vJB hJB h3 b5 vFB hFB h4 h5 h6 h7 h8 h9 Y1 p1 h10
    exact (hFB.lenN p0 p1 rfl h10).elim
  · rename_i b0 b1 b2 h0 Y0 p0 h1 b3 b4 vLA hLA h2 vJB hJB h3 b5 vFB hFB h4 h5 h6 h7 h8 h9 Y1 p1 h10
    exact tok_of hFB.sb.rep hFB.sb.syn p0 (le200 hFB.sb.le h0) rfl rfl rfl rfl
  · rename_i b0 b1 b2 h0 Y0 p0 h1 b3 b4 vLA hLA h2 vJB hJB h3 b5 vFB hFB h4 h5 h6 h7 h8 h9 Y1 p1 h10 Y2 p2
    exact (hFB.ogSrt p0 p1 p2).elim
  · rename_i b0 b1 b2 h0 Y0 p0 h1 b3 b4 vLA hLA h2 vJB hJB h3 b5 vFB hFB h4 h5 h6 h7 h8 h9 Y1 p1 h10 Y2 p2 Y3 p3
    exact (og_no p1 p3).elim
  · rename_i b0 b1 b2 h0 Y0 p0 h1 b3 b4 vLA hLA h2 vJB hJB h3 b5 vFB hFB h4 h5 h6 h7 h8 h9 Y1 p1 h10 Y2 p2 Y3 p3
    exact (og_no p1 p3).elim
  · rename_i b0 b1 b2 h0 Y0 p0 h1 b3 b4 vLA hLA h2 vJB hJB h3 b5 vFB hFB h4 h5 h6 h7 h8 h9 Y1 p1 h10 Y2 p2 Y3 p3
    exact (hFB.ogSrt p0 p1 p2).elim
  · rename_i b0 b1 b2 h0 Y0 p0 h1 b3 b4 vLA hLA h2 vJB hJB h3 b5 vFB hFB h4 h5 h6 h7 h8 h9 Y1 p1 h10 Y2 p2 Y3 p3 h11
    exact (hFB.ogSrt p0 p1 p2).elim
  · rename_i b0 b1 b2 h0 Y0 p0 h1 b3 b4 vLA hLA h2 vJB hJB h3 b5 vFB hFB h4 h5 h6 h7 h8 h9 Y1 p1 h10 Y2 p2 Y3 p3 h11
    exact (hFB.ogSrt p0 p1 p2).elim
  · rename_i b0 b1 b2 h0 Y0 p0 h1 b3 b4 vLA hLA h2 vJB hJB h3 b5 vFB hFB h4 h5 h6 h7 h8 h9 Y1 p1 h10 Y2 p2 Y3 p3 h11
    exact (hFB.ogSrt p0 p1 p2).elim
  · rename_i b0 b1 b2 h0 Y0 p0 h1 b3 b4 vLA hLA h2 vJB hJB h3 b5 vFB hFB h4 h5 h6 h7 h8 h9 Y1 p1 h10 Y2 p2
    exact hFB.bsPre h0 p2.1 p2.2.1
  · rename_i b0 b1 b2 h0 Y0 p0 h1 b3 b4 vLA hLA h2 vJB hJB h3 b5 vFB hFB h4 h5 h6 h7 h8 h9 Y1 p1 h10 Y2 p2 Y3 p3
    exact ⟨hFB.rk h0, may_ps p0⟩
  · rename_i b0 b1 b2 h0 Y0 p0 h1 b3 b4 vLA hLA h2 vJB hJB h3 b5 vFB hFB h4 h5 h6 h7 h8 h9 Y1 p1 h10 Y2 p2 Y3 p3 Y4 p4
    exact (og_no p1 p4).elim
  · rename_i b0 b1 b2 h0 Y0 p0 h1 b3 b4 vLA hLA h2 vJB hJB h3 b5 vFB hFB h4 h5 h6 h7 h8 h9 Y1 p1 h10 Y2 p2 Y3 p3 Y4 p4
    exact hFB.bssPre h0 p2.1 p3 p4
  · rename_i b0 b1 b2 h0 Y0 p0 h1 b3 b4 vLA hLA h2 vJB hJB h3 b5 vFB hFB h4 h5 h6 h7 h8 h9 Y1 p1 h10 Y2 p2 Y3 p3 Y4 p4 h11
    exact (hFB.same p0 p2.1 p3 p4 h11).elim
  · rename_i b0 b1 b2 h0 Y0 p0 h1 b3 b4 vLA hLA h2 vJB hJB h3 b5 vFB hFB h4 h5 h6 h7 h8 h9 Y1 p1 h10 Y2 p2 Y3 p3 Y4 p4 h11
    exact inr2 hFB.sb.le h0
  · rename_i b0 b1 b2 h0 Y0 p0 h1 b3 b4 vLA hLA h2 vJB hJB h3 b5 vFB hFB h4 h5 h6 h7 h8 h9 Y1 p1 h10 Y2 p2 Y3 p3 Y4 p4 h11
    refine Stands.next (Stands.one (vFB.2.1 + 1, vFB.2.2.1, vFB.2.2.2) ⟨hFB.sb, dec3 h3 h4 hFB.sb.le, ?_⟩)
    ((refine Tr.via ?_ ?_ ?_; rotate_left; (as_aux_lemma => ((conv => (rhs; reduce))))); with_reducible repeat' (first | exact Tr.yes_h | refine Tr.and_h ?_ ?_ | refine Tr.imp_h fun _ => ?_ | refine Tr.all_h fun _ => ?_ | refine Tr.lf_h ?_))
    all_goals (first | first | (show Region.lexB _ _ = true; kernel_rfl) | (show planned _ _ = true; kernel_rfl) | exact rfl | exact True.intro | (first | exact key3 | exact key30 | exact zero3 | exact zero53 | exact eq30 | exact ⟨key3, zero53⟩ | exact ⟨key30, zero3⟩) | ((try dsimp only [imp, C0, cG, cInt, cPl, cSlot, cDo] at *); (try refine inR64 ?_ ?_) <;> (try simp only [List.length_set, List.length_append, List.length_take, List.length_drop]) <;> omega))
  · rename_i b0 b1 b2 h0 Y0 p0 h1 b3 b4 vLA hLA h2
    exact tok_of hLA.rep hLA.syn p0 (le200 hLA.le h0) rfl rfl rfl rfl
  · rename_i b0 b1 b2 h0 Y0 p0 h1 b3 b4 vLA hLA h2 Y1 p1 b5
    refine Stands.one (0, b5) ⟨Nat.zero_le _, ?_⟩
    ((refine Tr.via ?_ ?_ ?_; rotate_left; (as_aux_lemma => ((conv => (rhs; reduce))))); with_reducible repeat' (first | exact Tr.yes_h | refine Tr.and_h ?_ ?_ | refine Tr.imp_h fun _ => ?_ | refine Tr.all_h fun _ => ?_ | refine Tr.lf_h ?_))
    all_goals (first | first | (show Region.lexB _ _ = true; kernel_rfl) | (show planned _ _ = true; kernel_rfl) | exact rfl | exact True.intro | (first | exact key3 | exact key30 | exact zero3 | exact zero53 | exact eq30 | exact ⟨key3, zero53⟩ | exact ⟨key30, zero3⟩) | ((try dsimp only [imp, C0, cG, cInt, cPl, cSlot, cDo] at *); (try refine inR64 ?_ ?_) <;> (try simp only [List.length_set, List.length_append, List.length_take, List.length_drop]) <;> omega))
  · rename_i b0 b1 b2 h0 Y0 p0 h1 b3 b4 vLA hLA h2 Y1 p1 b5 vRA hRA h3 b6 Y2 p2 b7
    exact tok_of hLA.rep hLA.syn p0 (le200 hLA.le h0) rfl rfl rfl rfl
  · rename_i b0 b1 b2 h0 Y0 p0 h1 b3 b4 vLA hLA h2 Y1 p1 b5 vRA hRA h3 b6 Y2 p2 b7 Y3 p3
    refine Stands.one () ⟨trivial, ?_⟩
    ((refine Tr.via ?_ ?_ ?_; rotate_left; (as_aux_lemma => ((conv => (rhs; reduce))))); with_reducible repeat' (first | exact Tr.yes_h | refine Tr.and_h ?_ ?_ | refine Tr.imp_h fun _ => ?_ | refine Tr.all_h fun _ => ?_ | refine Tr.lf_h ?_))
    all_goals (first | first | (show Region.lexB _ _ = true; kernel_rfl) | (show planned _ _ = true; kernel_rfl) | exact rfl | exact True.intro | (first | exact key3 | exact key30 | exact zero3 | exact zero53 | exact eq30 | exact ⟨key3, zero53⟩ | exact ⟨key30, zero3⟩) | ((try dsimp only [imp, C0, cG, cInt, cPl, cSlot, cDo] at *); (try refine inR64 ?_ ?_) <;> (try simp only [List.length_set, List.length_append, List.length_take, List.length_drop]) <;> omega))
  · rename_i b0 b1 b2 h0 Y0 p0 h1 b3 b4 vLA hLA h2 Y1 p1 b5 vRA hRA h3 b6 Y2 p2 b7 Y3 p3 vKN hKN h4
    exact absurd h4 (by decide)
  · rename_i b0 b1 b2 h0 Y0 p0 h1 b3 b4 vLA hLA h2 Y1 p1 b5 vRA hRA h3 b6 Y2 p2 b7 Y3 p3 vKN hKN h4 h5
    exact absurd h5 (by simp)
  · rename_i b0 b1 b2 h0 Y0 p0 h1 b3 b4 vLA hLA h2 Y1 p1 b5 vRA hRA h3 b6 Y2 p2 b7 Y3 p3 vKN hKN h4 h5 b8
    exact rd_inr h3
  · rename_i b0 b1 b2 h0 Y0 p0 h1 b3 b4 vLA hLA h2 Y1 p1 b5 vRA hRA h3 b6 Y2 p2 b7 Y3 p3 vKN hKN h4 h5 b8
    refine Stands.one (vRA.1 + 1, b8) ⟨rd_le h3, rd_ms h3, ?_⟩
    ((refine Tr.via ?_ ?_ ?_; rotate_left; (as_aux_lemma => ((conv => (rhs; reduce))))); with_reducible repeat' (first | exact Tr.yes_h | refine Tr.and_h ?_ ?_ | refine Tr.imp_h fun _ => ?_ | refine Tr.all_h fun _ => ?_ | refine Tr.lf_h ?_))
    all_goals (first | first | (show Region.lexB _ _ = true; kernel_rfl) | (show planned _ _ = true; kernel_rfl) | exact rfl | exact True.intro | (first | exact key3 | exact key30 | exact zero3 | exact zero53 | exact eq30 | exact ⟨key3, zero53⟩ | exact ⟨key30, zero3⟩) | ((try dsimp only [imp, C0, cG, cInt, cPl, cSlot, cDo] at *); (try refine inR64 ?_ ?_) <;> (try simp only [List.length_set, List.length_append, List.length_take, List.length_drop]) <;> omega))
  · rename_i b0 b1 b2 h0 Y0 p0 h1 b3 b4 vLA hLA h2 Y1 p1 b5 vRA hRA h3 b6 Y2 p2 b7 Y3 p3
    exact (all_no hLA.syn p3).elim
  · rename_i b0 b1 b2 h0 Y0 p0 h1 b3 b4 vLA hLA h2 Y1 p1
    exact (all_no hLA.syn p1).elim
  · rename_i b0 b1 b2 h0 Y0 p0 h1 b3 b4 vLA hLA h2 Y1 p1 Y2 p2
    exact (all_no hLA.syn p1).elim
  · rename_i b0 b1 b2 h0 Y0 p0 h1 b3 b4 vLB hLB h2
    exact Int.natCast_nonneg _
  · rename_i b0 b1 b2 h0 Y0 p0 h1 b3 b4 vLB hLB h2
    exact of_decide_eq_true h2
  · rename_i b0 b1 b2 h0 Y0 p0 h1 b3 b4 vLB hLB h2
    exact idx2 h2 hN
  · rename_i b0 b1 b2 h0 Y0 p0 h1 b3 b4 vLB hLB h2 h3
    exact Int.natCast_nonneg _
  · rename_i b0 b1 b2 h0 Y0 p0 h1 b3 b4 vLB hLB h2 h3
    exact of_decide_eq_true h2
  · rename_i b0 b1 b2 h0 Y0 p0 h1 b3 b4 vLB hLB h2 h3
    exact idx2 h2 hN
  · rename_i b0 b1 b2 h0 Y0 p0 h1 b3 b4 vLB hLB h2 h3
    exact Int.natCast_nonneg _
  · rename_i b0 b1 b2 h0 Y0 p0 h1 b3 b4 vLB hLB h2 h3
    exact of_decide_eq_true h2
  · rename_i b0 b1 b2 h0 Y0 p0 h1 b3 b4 vLB hLB h2 h3
    exact idx2 h2 hN
  · rename_i b0 b1 b2 h0 Y0 p0 h1 b3 b4 vLB hLB h2 h3
    exact hLB.rep.of rfl rfl rfl rfl
  · rename_i b0 b1 b2 h0 Y0 p0 h1 b3 b4 vLB hLB h2 h3 Y1 p1
    exact ⟨rk_of hLB.syn (le200 hLB.le h0) hLB.cap hLB.fit, hLB.syn.okR.nk⟩
  · rename_i b0 b1 b2 h0 Y0 p0 h1 b3 b4 vLB hLB h2 h3 Y1 p1 Y2 p2 h4
    exact (dropB0_kill hLB.syn p2 h4).elim
  · rename_i b0 b1 b2 h0 Y0 p0 h1 b3 b4 vLB hLB h2 h3 Y1 p1 Y2 p2 h4
    refine Stands.next (Stands.one (vLB.1, Y1, vLB.2.2) ⟨⟨lt2 h2, p1.1.of rfl rfl rfl rfl, syn_drop0 hLB.syn p1.2 p2, hLB.cap, hLB.fit⟩, ?_⟩)
    ((refine Tr.via ?_ ?_ ?_; rotate_left; (as_aux_lemma => ((conv => (rhs; reduce))))); with_reducible repeat' (first | exact Tr.yes_h | refine Tr.and_h ?_ ?_ | refine Tr.imp_h fun _ => ?_ | refine Tr.all_h fun _ => ?_ | refine Tr.lf_h ?_))
    all_goals (first | first | (show Region.lexB _ _ = true; kernel_rfl) | (show planned _ _ = true; kernel_rfl) | exact rfl | exact True.intro | (first | exact key3 | exact key30 | exact zero3 | exact zero53 | exact eq30 | exact ⟨key3, zero53⟩ | exact ⟨key30, zero3⟩) | ((try dsimp only [imp, C0, cG, cInt, cPl, cSlot, cDo] at *); (try refine inR64 ?_ ?_) <;> (try simp only [List.length_set, List.length_append, List.length_take, List.length_drop]) <;> omega))
  · rename_i b0 b1 b2 h0 Y0 p0 h1 b3 b4 vLB hLB h2 h3 Y1 p1 Y2 p2 h4
    exact (dropB1_kill hLB.syn p2.1 h4).elim
  · rename_i b0 b1 b2 h0 Y0 p0 h1 b3 b4 vLB hLB h2 h3 Y1 p1 Y2 p2 h4
    refine Stands.next (Stands.one (vLB.1, Y1, Y2) ⟨⟨lt2 h2, p1.1.of rfl rfl rfl rfl, syn_drop1 hLB.syn p1.2 p2.2.1, p2.2.2.2.1, p2.2.2.2.2⟩, ?_⟩)
    ((refine Tr.via ?_ ?_ ?_; rotate_left; (as_aux_lemma => ((conv => (rhs; reduce))))); with_reducible repeat' (first | exact Tr.yes_h | refine Tr.and_h ?_ ?_ | refine Tr.imp_h fun _ => ?_ | refine Tr.all_h fun _ => ?_ | refine Tr.lf_h ?_))
    all_goals (first | first | (show Region.lexB _ _ = true; kernel_rfl) | (show planned _ _ = true; kernel_rfl) | exact rfl | exact True.intro | (first | exact key3 | exact key30 | exact zero3 | exact zero53 | exact eq30 | exact ⟨key3, zero53⟩ | exact ⟨key30, zero3⟩) | ((try dsimp only [imp, C0, cG, cInt, cPl, cSlot, cDo] at *); (try refine inR64 ?_ ?_) <;> (try simp only [List.length_set, List.length_append, List.length_take, List.length_drop]) <;> omega))
  · rename_i b0 b1 b2 h0 Y0 p0 h1 b3 b4 vLB hLB h2 h3
    exact Int.natCast_nonneg _
  · rename_i b0 b1 b2 h0 Y0 p0 h1 b3 b4 vLB hLB h2 h3
    exact of_decide_eq_true h2
  · rename_i b0 b1 b2 h0 Y0 p0 h1 b3 b4 vLB hLB h2 h3
    exact idx2 h2 hN
  · rename_i b0 b1 b2 h0 Y0 p0 h1 b3 b4 vLB hLB h2 h3
    exact Int.natCast_nonneg _
  · rename_i b0 b1 b2 h0 Y0 p0 h1 b3 b4 vLB hLB h2 h3
    exact of_decide_eq_true h2
  · rename_i b0 b1 b2 h0 Y0 p0 h1 b3 b4 vLB hLB h2 h3
    exact idx2 h2 hN
  · rename_i b0 b1 b2 h0 Y0 p0 h1 b3 b4 vLB hLB h2 h3
    exact Int.natCast_nonneg _
  · rename_i b0 b1 b2 h0 Y0 p0 h1 b3 b4 vLB hLB h2 h3
    exact of_decide_eq_true h2
  · rename_i b0 b1 b2 h0 Y0 p0 h1 b3 b4 vLB hLB h2 h3
    exact idx2 h2 hN
  · rename_i b0 b1 b2 h0 Y0 p0 h1 b3 b4 vLB hLB h2 h3
    exact hLB.rep.of rfl rfl rfl rfl
  · rename_i b0 b1 b2 h0 Y0 p0 h1 b3 b4 vLB hLB h2 h3 Y1 p1 b5
    refine Stands.next (Stands.next (Stands.one ((vLB.1, b5, (lget (tl (tq bs ps vLB.2.1)) (dAt l vLB.1).key).pl, lhas (tl (tq bs ps vLB.2.1)) (dAt l vLB.1).key), Y1, vLB.2.2) ⟨⟨⟨lt2 h2, p1.2.1.of rfl rfl rfl rfl, ⟨tl (tq bs ps vLB.2.1), hLB.syn, p1.2.2, rfl, rfl⟩, p1.1.1, no_of hLB.syn p1.1.2⟩, hLB.cap, hLB.fit⟩, ?_⟩))
    ((refine Tr.via ?_ ?_ ?_; rotate_left; (as_aux_lemma => ((conv => (rhs; reduce))))); with_reducible repeat' (first | exact Tr.yes_h | refine Tr.and_h ?_ ?_ | refine Tr.imp_h fun _ => ?_ | refine Tr.all_h fun _ => ?_ | refine Tr.lf_h ?_))
    all_goals (first | first | (show Region.lexB _ _ = true; kernel_rfl) | (show planned _ _ = true; kernel_rfl) | exact rfl | exact True.intro | (first | exact key3 | exact key30 | exact zero3 | exact zero53 | exact eq30 | exact ⟨key3, zero53⟩ | exact ⟨key30, zero3⟩) | ((try dsimp only [imp, C0, cG, cInt, cPl, cSlot, cDo] at *); (try refine inR64 ?_ ?_) <;> (try simp only [List.length_set, List.length_append, List.length_take, List.length_drop]) <;> omega))
  · rename_i b0 b1 b2 h0 Y0 p0 h1 b3 b4 vLB hLB h2 h3 Y1 p1 b5
    refine Stands.next (Stands.next (Stands.next (Stands.one ((vLB.1, b5), vLB.2.1, vLB.2.2) ⟨⟨⟨lt2 h2, hLB.rep, hLB.syn, p1⟩, hLB.cap, hLB.fit⟩, ?_⟩)))
    ((refine Tr.via ?_ ?_ ?_; rotate_left; (as_aux_lemma => ((conv => (rhs; reduce))))); with_reducible repeat' (first | exact Tr.yes_h | refine Tr.and_h ?_ ?_ | refine Tr.imp_h fun _ => ?_ | refine Tr.all_h fun _ => ?_ | refine Tr.lf_h ?_))
    all_goals (first | first | (show Region.lexB _ _ = true; kernel_rfl) | (show planned _ _ = true; kernel_rfl) | exact rfl | exact True.intro | (first | exact key3 | exact key30 | exact zero3 | exact zero53 | exact eq30 | exact ⟨key3, zero53⟩ | exact ⟨key30, zero3⟩) | ((try dsimp only [imp, C0, cG, cInt, cPl, cSlot, cDo] at *); (try refine inR64 ?_ ?_) <;> (try simp only [List.length_set, List.length_append, List.length_take, List.length_drop]) <;> omega))
  · rename_i b0 b1 b2 h0 Y0 p0 h1 b3 b4 vLB hLB h2 h3 Y1 p1 b5
    refine Stands.next (Stands.next (Stands.next (Stands.next (Stands.one ((vLB.1, b5), vLB.2.1, vLB.2.2) ⟨⟨⟨lt2 h2, hLB.rep, hLB.syn, p1.1, (hLB.syn.tk _ _).2 p1.2⟩, hLB.cap, hLB.fit⟩, ?_⟩))))
    ((refine Tr.via ?_ ?_ ?_; rotate_left; (as_aux_lemma => ((conv => (rhs; reduce))))); with_reducible repeat' (first | exact Tr.yes_h | refine Tr.and_h ?_ ?_ | refine Tr.imp_h fun _ => ?_ | refine Tr.all_h fun _ => ?_ | refine Tr.lf_h ?_))
    all_goals (first | first | (show Region.lexB _ _ = true; kernel_rfl) | (show planned _ _ = true; kernel_rfl) | exact rfl | exact True.intro | (first | exact key3 | exact key30 | exact zero3 | exact zero53 | exact eq30 | exact ⟨key3, zero53⟩ | exact ⟨key30, zero3⟩) | ((try dsimp only [imp, C0, cG, cInt, cPl, cSlot, cDo] at *); (try refine inR64 ?_ ?_) <;> (try simp only [List.length_set, List.length_append, List.length_take, List.length_drop]) <;> omega))
  · rename_i b0 b1 b2 h0 Y0 p0 h1 b3 b4 vLB hLB h2 h3 b5
    exact hLB.rep.of rfl rfl rfl rfl
  · rename_i b0 b1 b2 h0 Y0 p0 h1 b3 b4 vLB hLB h2 h3 b5 Y1 p1
    refine Stands.next (Stands.next (Stands.one ((vLB.1, b5, (lget (tl (tq bs ps vLB.2.1)) (dAt l vLB.1).key).pl, lhas (tl (tq bs ps vLB.2.1)) (dAt l vLB.1).key), Y1, vLB.2.2) ⟨⟨⟨lt2 h2, p1.2.1.of rfl rfl rfl rfl, ⟨tl (tq bs ps vLB.2.1), hLB.syn, p1.2.2, rfl, rfl⟩, p1.1.1, no_of hLB.syn p1.1.2⟩, hLB.cap, hLB.fit⟩, ?_⟩))
    ((refine Tr.via ?_ ?_ ?_; rotate_left; (as_aux_lemma => ((conv => (rhs; reduce))))); with_reducible repeat' (first | exact Tr.yes_h | refine Tr.and_h ?_ ?_ | refine Tr.imp_h fun _ => ?_ | refine Tr.all_h fun _ => ?_ | refine Tr.lf_h ?_))
    all_goals (first | first | (show Region.lexB _ _ = true; kernel_rfl) | (show planned _ _ = true; kernel_rfl) | exact rfl | exact True.intro | (first | exact key3 | exact key30 | exact zero3 | exact zero53 | exact eq30 | exact ⟨key3, zero53⟩ | exact ⟨key30, zero3⟩) | ((try dsimp only [imp, C0, cG, cInt, cPl, cSlot, cDo] at *); (try refine inR64 ?_ ?_) <;> (try simp only [List.length_set, List.length_append, List.length_take, List.length_drop]) <;> omega))
  · rename_i b0 b1 b2 h0 Y0 p0 h1 b3 b4 vLB hLB h2 h3 b5 Y1 p1
    refine Stands.next (Stands.next (Stands.next (Stands.one ((vLB.1, b5), vLB.2.1, vLB.2.2) ⟨⟨⟨lt2 h2, hLB.rep, hLB.syn, p1⟩, hLB.cap, hLB.fit⟩, ?_⟩)))
    ((refine Tr.via ?_ ?_ ?_; rotate_left; (as_aux_lemma => ((conv => (rhs; reduce))))); with_reducible repeat' (first | exact Tr.yes_h | refine Tr.and_h ?_ ?_ | refine Tr.imp_h fun _ => ?_ | refine Tr.all_h fun _ => ?_ | refine Tr.lf_h ?_))
    all_goals (first | first | (show Region.lexB _ _ = true; kernel_rfl) | (show planned _ _ = true; kernel_rfl) | exact rfl | exact True.intro | (first | exact key3 | exact key30 | exact zero3 | exact zero53 | exact eq30 | exact ⟨key3, zero53⟩ | exact ⟨key30, zero3⟩) | ((try dsimp only [imp, C0, cG, cInt, cPl, cSlot, cDo] at *); (try refine inR64 ?_ ?_) <;> (try simp only [List.length_set, List.length_append, List.length_take, List.length_drop]) <;> omega))
  · rename_i b0 b1 b2 h0 Y0 p0 h1 b3 b4 vLB hLB h2 h3 b5 Y1 p1
    refine Stands.next (Stands.next (Stands.next (Stands.next (Stands.one ((vLB.1, b5), vLB.2.1, vLB.2.2) ⟨⟨⟨lt2 h2, hLB.rep, hLB.syn, p1.1, (hLB.syn.tk _ _).2 p1.2⟩, hLB.cap, hLB.fit⟩, ?_⟩))))
    ((refine Tr.via ?_ ?_ ?_; rotate_left; (as_aux_lemma => ((conv => (rhs; reduce))))); with_reducible repeat' (first | exact Tr.yes_h | refine Tr.and_h ?_ ?_ | refine Tr.imp_h fun _ => ?_ | refine Tr.all_h fun _ => ?_ | refine Tr.lf_h ?_))
    all_goals (first | first | (show Region.lexB _ _ = true; kernel_rfl) | (show planned _ _ = true; kernel_rfl) | exact rfl | exact True.intro | (first | exact key3 | exact key30 | exact zero3 | exact zero53 | exact eq30 | exact ⟨key3, zero53⟩ | exact ⟨key30, zero3⟩) | ((try dsimp only [imp, C0, cG, cInt, cPl, cSlot, cDo] at *); (try refine inR64 ?_ ?_) <;> (try simp only [List.length_set, List.length_append, List.length_take, List.length_drop]) <;> omega))
  · rename_i b0 b1 b2 h0 Y0 p0 h1 b3 b4 vLB hLB h2 h3 vJB0 hJB0 h4
    exact Int.natCast_nonneg _
  · rename_i b0 b1 b2 h0 Y0 p0 h1 b3 b4 vLB hLB h2 h3 vJB0 hJB0 h4
    exact Int.ofNat_lt.2 hJB0.1.lt
  · rename_i b0 b1 b2 h0 Y0 p0 h1 b3 b4 vLB hLB h2 h3 vJB0 hJB0 h4
    exact Nat.lt_of_lt_of_le hJB0.1.lt hN
  · rename_i b0 b1 b2 h0 Y0 p0 h1 b3 b4 vLB hLB h2 h3 vJB0 hJB0 h4
    exact Int.natCast_nonneg _
  · rename_i b0 b1 b2 h0 Y0 p0 h1 b3 b4 vLB hLB h2 h3 vJB0 hJB0 h4
    exact Int.ofNat_lt.2 hJB0.1.lt
  · rename_i b0 b1 b2 h0 Y0 p0 h1 b3 b4 vLB hLB h2 h3 vJB0 hJB0 h4
    exact Nat.lt_of_lt_of_le hJB0.1.lt hN
  · rename_i b0 b1 b2 h0 Y0 p0 h1 b3 b4 vLB hLB h2 h3 vJB0 hJB0 h4
    exact Int.natCast_nonneg _
  · rename_i b0 b1 b2 h0 Y0 p0 h1 b3 b4 vLB hLB h2 h3 vJB0 hJB0 h4
    exact Int.ofNat_lt.2 hJB0.1.lt
  · rename_i b0 b1 b2 h0 Y0 p0 h1 b3 b4 vLB hLB h2 h3 vJB0 hJB0 h4
    exact Nat.lt_of_lt_of_le hJB0.1.lt hN
  · rename_i b0 b1 b2 h0 Y0 p0 h1 b3 b4 vLB hLB h2 h3 vJB0 hJB0 h4
    exact hJB0.1.pre h0 hJB0.2.1 hJB0.2.2
  · rename_i b0 b1 b2 h0 Y0 p0 h1 b3 b4 vLB hLB h2 h3 vJB0 hJB0 h4 Y1 p1 b5 h5
    exact (okB_kill hJB0.1 rfl rfl h5).elim
  · rename_i b0 b1 b2 h0 Y0 p0 h1 b3 b4 vLB hLB h2 h3 vJB0 hJB0 h4 Y1 p1 b5 h5
    refine Stands.next (Stands.one (vJB0.1.1, vJB0.2.1, Y1) ⟨⟨hJB0.1.lt, hJB0.1.rep, (by have e : rlw Y1 = _ := p1.2.1; rw [e]; exact hJB0.1.syn), p1.2.2.2.1, p1.2.2.2.2⟩, ?_⟩)
    ((refine Tr.via ?_ ?_ ?_; rotate_left; (as_aux_lemma => ((conv => (rhs; reduce))))); with_reducible repeat' (first | exact Tr.yes_h | refine Tr.and_h ?_ ?_ | refine Tr.imp_h fun _ => ?_ | refine Tr.all_h fun _ => ?_ | refine Tr.lf_h ?_))
    all_goals (first | first | (show Region.lexB _ _ = true; kernel_rfl) | (show planned _ _ = true; kernel_rfl) | exact rfl | exact True.intro | (first | exact key3 | exact key30 | exact zero3 | exact zero53 | exact eq30 | exact ⟨key3, zero53⟩ | exact ⟨key30, zero3⟩) | ((try dsimp only [imp, C0, cG, cInt, cPl, cSlot, cDo] at *); (try refine inR64 ?_ ?_) <;> (try simp only [List.length_set, List.length_append, List.length_take, List.length_drop]) <;> omega))
  · rename_i b0 b1 b2 h0 Y0 p0 h1 b3 b4 vLB hLB h2 h3 vJB0 hJB0 h4 Y1 p1 b5 h5
    exact (p1 hJB0.1.fit).elim
  · rename_i b0 b1 b2 h0 Y0 p0 h1 b3 b4 vLB hLB h2 h3 vJB0 hJB0 h4 Y1 p1 b5 h5
    exact (p1 hJB0.1.fit).elim
  · rename_i b0 b1 b2 h0 Y0 p0 h1 b3 b4 vLB hLB h2 h3 vJB0 hJB0 h4 Y1 p1 b5 h5
    exact (Bool.false_ne_true (hJB0.1.no.symm.trans p1.2)).elim
  · rename_i b0 b1 b2 h0 Y0 p0 h1 b3 b4 vLB hLB h2 h3 vJB0 hJB0 h4 Y1 p1 b5 h5
    exact (Bool.false_ne_true (hJB0.1.no.symm.trans p1.2)).elim
  · rename_i b0 b1 b2 h0 Y0 p0 h1 b3 b4 vLB hLB h2 h3 vJB0 hJB0 h4 b5
    exact hJB0.1.pre h0 hJB0.2.1 hJB0.2.2
  · rename_i b0 b1 b2 h0 Y0 p0 h1 b3 b4 vLB hLB h2 h3 vJB0 hJB0 h4 b5 Y1 p1 h5
    exact (okB_kill hJB0.1 rfl rfl h5).elim
  · rename_i b0 b1 b2 h0 Y0 p0 h1 b3 b4 vLB hLB h2 h3 vJB0 hJB0 h4 b5 Y1 p1 h5
    refine Stands.next (Stands.one (vJB0.1.1, vJB0.2.1, Y1) ⟨⟨hJB0.1.lt, hJB0.1.rep, (by have e : rlw Y1 = _ := p1.2.1; rw [e]; exact hJB0.1.syn), p1.2.2.2.1, p1.2.2.2.2⟩, ?_⟩)
    ((refine Tr.via ?_ ?_ ?_; rotate_left; (as_aux_lemma => ((conv => (rhs; reduce))))); with_reducible repeat' (first | exact Tr.yes_h | refine Tr.and_h ?_ ?_ | refine Tr.imp_h fun _ => ?_ | refine Tr.all_h fun _ => ?_ | refine Tr.lf_h ?_))
    all_goals (first | first | (show Region.lexB _ _ = true; kernel_rfl) | (show planned _ _ = true; kernel_rfl) | exact rfl | exact True.intro | (first | exact key3 | exact key30 | exact zero3 | exact zero53 | exact eq30 | exact ⟨key3, zero53⟩ | exact ⟨key30, zero3⟩) | ((try dsimp only [imp, C0, cG, cInt, cPl, cSlot, cDo] at *); (try refine inR64 ?_ ?_) <;> (try simp only [List.length_set, List.length_append, List.length_take, List.length_drop]) <;> omega))
  · rename_i b0 b1 b2 h0 Y0 p0 h1 b3 b4 vLB hLB h2 h3 vJB0 hJB0 h4 b5 Y1 p1 h5
    exact (p1 hJB0.1.fit).elim
  · rename_i b0 b1 b2 h0 Y0 p0 h1 b3 b4 vLB hLB h2 h3 vJB0 hJB0 h4 b5 Y1 p1 h5
    exact (p1 hJB0.1.fit).elim
  · rename_i b0 b1 b2 h0 Y0 p0 h1 b3 b4 vLB hLB h2 h3 vJB0 hJB0 h4 b5 Y1 p1 h5
    exact (Bool.false_ne_true (hJB0.1.no.symm.trans p1.2)).elim
  · rename_i b0 b1 b2 h0 Y0 p0 h1 b3 b4 vLB hLB h2 h3 vJB0 hJB0 h4 b5 Y1 p1 h5
    exact (Bool.false_ne_true (hJB0.1.no.symm.trans p1.2)).elim
  · rename_i b0 b1 b2 h0 Y0 p0 h1 b3 b4 vLB hLB h2 h3 vJB2 hJB2 h4
    exact Int.natCast_nonneg _
  · rename_i b0 b1 b2 h0 Y0 p0 h1 b3 b4 vLB hLB h2 h3 vJB2 hJB2 h4
    exact Int.ofNat_lt.2 hJB2.1.lt
  · rename_i b0 b1 b2 h0 Y0 p0 h1 b3 b4 vLB hLB h2 h3 vJB2 hJB2 h4
    exact Nat.lt_of_lt_of_le hJB2.1.lt hN
  · rename_i b0 b1 b2 h0 Y0 p0 h1 b3 b4 vLB hLB h2 h3 vJB2 hJB2 h4
    exact Int.natCast_nonneg _
  · rename_i b0 b1 b2 h0 Y0 p0 h1 b3 b4 vLB hLB h2 h3 vJB2 hJB2 h4
    exact Int.ofNat_lt.2 hJB2.1.lt
  · rename_i b0 b1 b2 h0 Y0 p0 h1 b3 b4 vLB hLB h2 h3 vJB2 hJB2 h4
    exact Nat.lt_of_lt_of_le hJB2.1.lt hN
  · rename_i b0 b1 b2 h0 Y0 p0 h1 b3 b4 vLB hLB h2 h3 vJB2 hJB2 h4
    exact Int.natCast_nonneg _
  · rename_i b0 b1 b2 h0 Y0 p0 h1 b3 b4 vLB hLB h2 h3 vJB2 hJB2 h4
    exact Int.ofNat_lt.2 hJB2.1.lt
  · rename_i b0 b1 b2 h0 Y0 p0 h1 b3 b4 vLB hLB h2 h3 vJB2 hJB2 h4
    exact Nat.lt_of_lt_of_le hJB2.1.lt hN
  · rename_i b0 b1 b2 h0 Y0 p0 h1 b3 b4 vLB hLB h2 h3 vJB2 hJB2 h4
    exact hJB2.1.pre h0 hJB2.2.1 hJB2.2.2
  · rename_i b0 b1 b2 h0 Y0 p0 h1 b3 b4 vLB hLB h2 h3 vJB2 hJB2 h4 Y1 p1 b5 h5
    exact plainN 2 (by decide)
  · rename_i b0 b1 b2 h0 Y0 p0 h1 b3 b4 vLB hLB h2 h3 vJB2 hJB2 h4 Y1 p1 b5 h5
    exact (hJB2.1.fit p1.1.1).elim
  · rename_i b0 b1 b2 h0 Y0 p0 h1 b3 b4 vLB hLB h2 h3 vJB2 hJB2 h4 Y1 p1 b5 h5
    exact (hJB2.1.fit p1.1.1).elim
  · rename_i b0 b1 b2 h0 Y0 p0 h1 b3 b4 vLB hLB h2 h3 vJB2 hJB2 h4 Y1 p1 b5 h5
    exact plainN 2 (by decide)
  · rename_i b0 b1 b2 h0 Y0 p0 h1 b3 b4 vLB hLB h2 h3 vJB2 hJB2 h4 Y1 p1 b5 h5
    exact (code_kill (code2 hA) h5).elim
  · rename_i b0 b1 b2 h0 Y0 p0 h1 b3 b4 vLB hLB h2 h3 vJB2 hJB2 h4 Y1 p1 b5 h5
    refine Stands.next (Stands.one (vJB2.1.1, vJB2.2.1, vJB2.2.2) ⟨⟨hJB2.1.lt, hJB2.1.rep, hJB2.1.syn.mono (Nat.le_succ _), hJB2.2.1, hJB2.2.2⟩, ?_⟩)
    ((refine Tr.via ?_ ?_ ?_; rotate_left; (as_aux_lemma => ((conv => (rhs; reduce))))); with_reducible repeat' (first | exact Tr.yes_h | refine Tr.and_h ?_ ?_ | refine Tr.imp_h fun _ => ?_ | refine Tr.all_h fun _ => ?_ | refine Tr.lf_h ?_))
    all_goals (first | first | (show Region.lexB _ _ = true; kernel_rfl) | (show planned _ _ = true; kernel_rfl) | exact rfl | exact True.intro | (first | exact key3 | exact key30 | exact zero3 | exact zero53 | exact eq30 | exact ⟨key3, zero53⟩ | exact ⟨key30, zero3⟩) | ((try dsimp only [imp, C0, cG, cInt, cPl, cSlot, cDo] at *); (try refine inR64 ?_ ?_) <;> (try simp only [List.length_set, List.length_append, List.length_take, List.length_drop]) <;> omega))
  · rename_i b0 b1 b2 h0 Y0 p0 h1 b3 b4 vLB hLB h2 h3 vJB2 hJB2 h4 Y1 p1 b5 h5
    exact plainN 2 (by decide)
  · rename_i b0 b1 b2 h0 Y0 p0 h1 b3 b4 vLB hLB h2 h3 vJB2 hJB2 h4 Y1 p1 b5 h5
    exact (hJB2.1.fit p1.1).elim
  · rename_i b0 b1 b2 h0 Y0 p0 h1 b3 b4 vLB hLB h2 h3 vJB2 hJB2 h4 Y1 p1 b5 h5
    exact (hJB2.1.fit p1.1).elim
  · rename_i b0 b1 b2 h0 Y0 p0 h1 b3 b4 vLB hLB h2 h3 vJB2 hJB2 h4 b5
    exact hJB2.1.pre h0 hJB2.2.1 hJB2.2.2
  · rename_i b0 b1 b2 h0 Y0 p0 h1 b3 b4 vLB hLB h2 h3 vJB2 hJB2 h4 b5 Y1 p1 h5
    exact plainN 2 (by decide)
  · rename_i b0 b1 b2 h0 Y0 p0 h1 b3 b4 vLB hLB h2 h3 vJB2 hJB2 h4 b5 Y1 p1 h5
    exact (hJB2.1.fit p1.1.1).elim
  · rename_i b0 b1 b2 h0 Y0 p0 h1 b3 b4 vLB hLB h2 h3 vJB2 hJB2 h4 b5 Y1 p1 h5
    exact (hJB2.1.fit p1.1.1).elim
  · rename_i b0 b1 b2 h0 Y0 p0 h1 b3 b4 vLB hLB h2 h3 vJB2 hJB2 h4 b5 Y1 p1 h5
    exact plainN 2 (by decide)
  · rename_i b0 b1 b2 h0 Y0 p0 h1 b3 b4 vLB hLB h2 h3 vJB2 hJB2 h4 b5 Y1 p1 h5
    exact (code_kill (code2 hA) h5).elim
  · rename_i b0 b1 b2 h0 Y0 p0 h1 b3 b4 vLB hLB h2 h3 vJB2 hJB2 h4 b5 Y1 p1 h5
    refine Stands.next (Stands.one (vJB2.1.1, vJB2.2.1, vJB2.2.2) ⟨⟨hJB2.1.lt, hJB2.1.rep, hJB2.1.syn.mono (Nat.le_succ _), hJB2.2.1, hJB2.2.2⟩, ?_⟩)
    ((refine Tr.via ?_ ?_ ?_; rotate_left; (as_aux_lemma => ((conv => (rhs; reduce))))); with_reducible repeat' (first | exact Tr.yes_h | refine Tr.and_h ?_ ?_ | refine Tr.imp_h fun _ => ?_ | refine Tr.all_h fun _ => ?_ | refine Tr.lf_h ?_))
    all_goals (first | first | (show Region.lexB _ _ = true; kernel_rfl) | (show planned _ _ = true; kernel_rfl) | exact rfl | exact True.intro | (first | exact key3 | exact key30 | exact zero3 | exact zero53 | exact eq30 | exact ⟨key3, zero53⟩ | exact ⟨key30, zero3⟩) | ((try dsimp only [imp, C0, cG, cInt, cPl, cSlot, cDo] at *); (try refine inR64 ?_ ?_) <;> (try simp only [List.length_set, List.length_append, List.length_take, List.length_drop]) <;> omega))
  · rename_i b0 b1 b2 h0 Y0 p0 h1 b3 b4 vLB hLB h2 h3 vJB2 hJB2 h4 b5 Y1 p1 h5
    exact plainN 2 (by decide)
  · rename_i b0 b1 b2 h0 Y0 p0 h1 b3 b4 vLB hLB h2 h3 vJB2 hJB2 h4 b5 Y1 p1 h5
    exact (hJB2.1.fit p1.1).elim
  · rename_i b0 b1 b2 h0 Y0 p0 h1 b3 b4 vLB hLB h2 h3 vJB2 hJB2 h4 b5 Y1 p1 h5
    exact (hJB2.1.fit p1.1).elim
  · rename_i b0 b1 b2 h0 Y0 p0 h1 b3 b4 vLB hLB h2 h3 vJB1 hJB1 h4
    exact Int.natCast_nonneg _
  · rename_i b0 b1 b2 h0 Y0 p0 h1 b3 b4 vLB hLB h2 h3 vJB1 hJB1 h4
    exact Int.ofNat_lt.2 hJB1.1.lt
  · rename_i b0 b1 b2 h0 Y0 p0 h1 b3 b4 vLB hLB h2 h3 vJB1 hJB1 h4
    exact Nat.lt_of_lt_of_le hJB1.1.lt hN
  · rename_i b0 b1 b2 h0 Y0 p0 h1 b3 b4 vLB hLB h2 h3 vJB1 hJB1 h4
    exact Int.natCast_nonneg _
  · rename_i b0 b1 b2 h0 Y0 p0 h1 b3 b4 vLB hLB h2 h3 vJB1 hJB1 h4
    exact Int.ofNat_lt.2 hJB1.1.lt
  · rename_i b0 b1 b2 h0 Y0 p0 h1 b3 b4 vLB hLB h2 h3 vJB1 hJB1 h4
    exact Nat.lt_of_lt_of_le hJB1.1.lt hN
  · rename_i b0 b1 b2 h0 Y0 p0 h1 b3 b4 vLB hLB h2 h3 vJB1 hJB1 h4
    exact Int.natCast_nonneg _
  · rename_i b0 b1 b2 h0 Y0 p0 h1 b3 b4 vLB hLB h2 h3 vJB1 hJB1 h4
    exact Int.ofNat_lt.2 hJB1.1.lt
  · rename_i b0 b1 b2 h0 Y0 p0 h1 b3 b4 vLB hLB h2 h3 vJB1 hJB1 h4
    exact Nat.lt_of_lt_of_le hJB1.1.lt hN
  · rename_i b0 b1 b2 h0 Y0 p0 h1 b3 b4 vLB hLB h2 h3 vJB1 hJB1 h4
    exact hJB1.1.pre h0 hJB1.2.1 hJB1.2.2
  · rename_i b0 b1 b2 h0 Y0 p0 h1 b3 b4 vLB hLB h2 h3 vJB1 hJB1 h4 Y1 p1 b5 h5
    exact plainN 0 (by decide)
  · rename_i b0 b1 b2 h0 Y0 p0 h1 b3 b4 vLB hLB h2 h3 vJB1 hJB1 h4 Y1 p1 b5 h5
    exact (Bool.false_ne_true (p1.1.2.symm.trans hJB1.1.yes)).elim
  · rename_i b0 b1 b2 h0 Y0 p0 h1 b3 b4 vLB hLB h2 h3 vJB1 hJB1 h4 Y1 p1 b5 h5
    exact (Bool.false_ne_true (p1.1.2.symm.trans hJB1.1.yes)).elim
  · rename_i b0 b1 b2 h0 Y0 p0 h1 b3 b4 vLB hLB h2 h3 vJB1 hJB1 h4 Y1 p1 b5 h5
    exact plainN 0 (by decide)
  · rename_i b0 b1 b2 h0 Y0 p0 h1 b3 b4 vLB hLB h2 h3 vJB1 hJB1 h4 Y1 p1 b5 h5
    exact (p1 hJB1.1.fit).elim
  · rename_i b0 b1 b2 h0 Y0 p0 h1 b3 b4 vLB hLB h2 h3 vJB1 hJB1 h4 Y1 p1 b5 h5
    exact (p1 hJB1.1.fit).elim
  · rename_i b0 b1 b2 h0 Y0 p0 h1 b3 b4 vLB hLB h2 h3 vJB1 hJB1 h4 Y1 p1 b5 h5
    exact plainN 0 (by decide)
  · rename_i b0 b1 b2 h0 Y0 p0 h1 b3 b4 vLB hLB h2 h3 vJB1 hJB1 h4 Y1 p1 b5 h5
    exact (code_kill (code0 hA) h5).elim
  · rename_i b0 b1 b2 h0 Y0 p0 h1 b3 b4 vLB hLB h2 h3 vJB1 hJB1 h4 Y1 p1 b5 h5
    refine Stands.next (Stands.one (vJB1.1.1, vJB1.2.1, vJB1.2.2) ⟨⟨hJB1.1.lt, hJB1.1.rep, hJB1.1.syn.mono (Nat.le_succ _), hJB1.2.1, hJB1.2.2⟩, ?_⟩)
    ((refine Tr.via ?_ ?_ ?_; rotate_left; (as_aux_lemma => ((conv => (rhs; reduce))))); with_reducible repeat' (first | exact Tr.yes_h | refine Tr.and_h ?_ ?_ | refine Tr.imp_h fun _ => ?_ | refine Tr.all_h fun _ => ?_ | refine Tr.lf_h ?_))
    all_goals (first | first | (show Region.lexB _ _ = true; kernel_rfl) | (show planned _ _ = true; kernel_rfl) | exact rfl | exact True.intro | (first | exact key3 | exact key30 | exact zero3 | exact zero53 | exact eq30 | exact ⟨key3, zero53⟩ | exact ⟨key30, zero3⟩) | ((try dsimp only [imp, C0, cG, cInt, cPl, cSlot, cDo] at *); (try refine inR64 ?_ ?_) <;> (try simp only [List.length_set, List.length_append, List.length_take, List.length_drop]) <;> omega))
  · rename_i b0 b1 b2 h0 Y0 p0 h1 b3 b4 vLB hLB h2 h3 vJB1 hJB1 h4 b5
    exact hJB1.1.pre h0 hJB1.2.1 hJB1.2.2
  · rename_i b0 b1 b2 h0 Y0 p0 h1 b3 b4 vLB hLB h2 h3 vJB1 hJB1 h4 b5 Y1 p1 h5
    exact plainN 0 (by decide)
  · rename_i b0 b1 b2 h0 Y0 p0 h1 b3 b4 vLB hLB h2 h3 vJB1 hJB1 h4 b5 Y1 p1 h5
    exact (Bool.false_ne_true (p1.1.2.symm.trans hJB1.1.yes)).elim
  · rename_i b0 b1 b2 h0 Y0 p0 h1 b3 b4 vLB hLB h2 h3 vJB1 hJB1 h4 b5 Y1 p1 h5
    exact (Bool.false_ne_true (p1.1.2.symm.trans hJB1.1.yes)).elim
  · rename_i b0 b1 b2 h0 Y0 p0 h1 b3 b4 vLB hLB h2 h3 vJB1 hJB1 h4 b5 Y1 p1 h5
    exact plainN 0 (by decide)
  · rename_i b0 b1 b2 h0 Y0 p0 h1 b3 b4 vLB hLB h2 h3 vJB1 hJB1 h4 b5 Y1 p1 h5
    exact (p1 hJB1.1.fit).elim
  · rename_i b0 b1 b2 h0 Y0 p0 h1 b3 b4 vLB hLB h2 h3 vJB1 hJB1 h4 b5 Y1 p1 h5
    exact (p1 hJB1.1.fit).elim
  · rename_i b0 b1 b2 h0 Y0 p0 h1 b3 b4 vLB hLB h2 h3 vJB1 hJB1 h4 b5 Y1 p1 h5
    exact plainN 0 (by decide)
  · rename_i b0 b1 b2 h0 Y0 p0 h1 b3 b4 vLB hLB h2 h3 vJB1 hJB1 h4 b5 Y1 p1 h5
    exact (code_kill (code0 hA) h5).elim
  · rename_i b0 b1 b2 h0 Y0 p0 h1 b3 b4 vLB hLB h2 h3 vJB1 hJB1 h4 b5 Y1 p1 h5
    refine Stands.next (Stands.one (vJB1.1.1, vJB1.2.1, vJB1.2.2) ⟨⟨hJB1.1.lt, hJB1.1.rep, hJB1.1.syn.mono (Nat.le_succ _), hJB1.2.1, hJB1.2.2⟩, ?_⟩)
    ((refine Tr.via ?_ ?_ ?_; rotate_left; (as_aux_lemma => ((conv => (rhs; reduce))))); with_reducible repeat' (first | exact Tr.yes_h | refine Tr.and_h ?_ ?_ | refine Tr.imp_h fun _ => ?_ | refine Tr.all_h fun _ => ?_ | refine Tr.lf_h ?_))
    all_goals (first | first | (show Region.lexB _ _ = true; kernel_rfl) | (show planned _ _ = true; kernel_rfl) | exact rfl | exact True.intro | (first | exact key3 | exact key30 | exact zero3 | exact zero53 | exact eq30 | exact ⟨key3, zero53⟩ | exact ⟨key30, zero3⟩) | ((try dsimp only [imp, C0, cG, cInt, cPl, cSlot, cDo] at *); (try refine inR64 ?_ ?_) <;> (try simp only [List.length_set, List.length_append, List.length_take, List.length_drop]) <;> omega))
  · rename_i b0 b1 b2 h0 Y0 p0 h1 b3 b4 vLB hLB h2 vJB hJB h3
    exact hJB.rep.of rfl rfl rfl rfl
  · rename_i b0 b1 b2 h0 Y0 p0 h1 b3 b4 vLB hLB h2 vJB hJB h3 b5
    exact hJB.rep.of rfl rfl rfl rfl
  · rename_i b0 b1 b2 h0 Y0 p0 h1 b3 b4 vLB hLB h2 vJB hJB h3 b5
    refine Stands.next (Stands.one ((0, -1, -1), vJB.1, vJB.2.1, vJB.2.2) ⟨⟨hJB, Fl.zero ..⟩, ?_⟩)
    ((refine Tr.via ?_ ?_ ?_; rotate_left; (as_aux_lemma => ((conv => (rhs; reduce))))); with_reducible repeat' (first | exact Tr.yes_h | refine Tr.and_h ?_ ?_ | refine Tr.imp_h fun _ => ?_ | refine Tr.all_h fun _ => ?_ | refine Tr.lf_h ?_))
    all_goals (first | first | (show Region.lexB _ _ = true; kernel_rfl) | (show planned _ _ = true; kernel_rfl) | exact rfl | exact True.intro | (first | exact key3 | exact key30 | exact zero3 | exact zero53 | exact eq30 | exact ⟨key3, zero53⟩ | exact ⟨key30, zero3⟩) | ((try dsimp only [imp, C0, cG, cInt, cPl, cSlot, cDo] at *); (try refine inR64 ?_ ?_) <;> (try simp only [List.length_set, List.length_append, List.length_take, List.length_drop]) <;> omega))
  · rename_i b0 b1 b2 h0 Y0 p0 h1 b3 b4 vLB hLB h2 vJB hJB h3 b5 vFB hFB h4 h5 h6
    exact Int.natCast_nonneg _
  · rename_i b0 b1 b2 h0 Y0 p0 h1 b3 b4 vLB hLB h2 vJB hJB h3 b5 vFB hFB h4 h5 h6
    exact of_decide_eq_true h6
  · rename_i b0 b1 b2 h0 Y0 p0 h1 b3 b4 vLB hLB h2 vJB hJB h3 b5 vFB hFB h4 h5 h6
    exact hFB.idx h6
  · rename_i b0 b1 b2 h0 Y0 p0 h1 b3 b4 vLB hLB h2 vJB hJB h3 b5 vFB hFB h4 h5 h6 h7
    exact Int.natCast_nonneg _
  · rename_i b0 b1 b2 h0 Y0 p0 h1 b3 b4 vLB hLB h2 vJB hJB h3 b5 vFB hFB h4 h5 h6 h7
    exact of_decide_eq_true h6
  · rename_i b0 b1 b2 h0 Y0 p0 h1 b3 b4 vLB hLB h2 vJB hJB h3 b5 vFB hFB h4 h5 h6 h7
    exact hFB.idx h6
  · rename_i b0 b1 b2 h0 Y0 p0 h1 b3 b4 vLB hLB h2 vJB hJB h3 b5 vFB hFB h4 h5 h6 h7 h8
    exact hFB.inr h0 h6
  · rename_i b0 b1 b2 h0 Y0 p0 h1 b3 b4 vLB hLB h2 vJB hJB h3 b5 vFB hFB h4 h5 h6 h7 h8
    refine Stands.next (Stands.one ((vFB.1.1 + 1, (vFB.1.1 : Int), (vFB.1.1 : Int)), vFB.2) ⟨hFB.step h6 (.inl ⟨rfl, h7⟩) (.inl ⟨rfl, h8⟩), Fx.mless h6, ?_⟩)
    ((refine Tr.via ?_ ?_ ?_; rotate_left; (as_aux_lemma => ((conv => (rhs; reduce))))); with_reducible repeat' (first | exact Tr.yes_h | refine Tr.and_h ?_ ?_ | refine Tr.imp_h fun _ => ?_ | refine Tr.all_h fun _ => ?_ | refine Tr.lf_h ?_))
    all_goals (first | first | (show Region.lexB _ _ = true; kernel_rfl) | (show planned _ _ = true; kernel_rfl) | exact rfl | exact True.intro | (first | exact key3 | exact key30 | exact zero3 | exact zero53 | exact eq30 | exact ⟨key3, zero53⟩ | exact ⟨key30, zero3⟩) | ((try dsimp only [imp, C0, cG, cInt, cPl, cSlot, cDo] at *); (try refine inR64 ?_ ?_) <;> (try simp only [List.length_set, List.length_append, List.length_take, List.length_drop]) <;> omega))
  · rename_i b0 b1 b2 h0 Y0 p0 h1 b3 b4 vLB hLB h2 vJB hJB h3 b5 vFB hFB h4 h5 h6 h7 h8
    exact hFB.inr h0 h6
  · rename_i b0 b1 b2 h0 Y0 p0 h1 b3 b4 vLB hLB h2 vJB hJB h3 b5 vFB hFB h4 h5 h6 h7 h8
    refine Stands.next (Stands.one ((vFB.1.1 + 1, (vFB.1.1 : Int), vFB.1.2.2), vFB.2) ⟨hFB.step h6 (.inl ⟨rfl, h7⟩) (.inr ⟨rfl, h8⟩), Fx.mless h6, ?_⟩)
    ((refine Tr.via ?_ ?_ ?_; rotate_left; (as_aux_lemma => ((conv => (rhs; reduce))))); with_reducible repeat' (first | exact Tr.yes_h | refine Tr.and_h ?_ ?_ | refine Tr.imp_h fun _ => ?_ | refine Tr.all_h fun _ => ?_ | refine Tr.lf_h ?_))
    all_goals (first | first | (show Region.lexB _ _ = true; kernel_rfl) | (show planned _ _ = true; kernel_rfl) | exact rfl | exact True.intro | (first | exact key3 | exact key30 | exact zero3 | exact zero53 | exact eq30 | exact ⟨key3, zero53⟩ | exact ⟨key30, zero3⟩) | ((try dsimp only [imp, C0, cG, cInt, cPl, cSlot, cDo] at *); (try refine inR64 ?_ ?_) <;> (try simp only [List.length_set, List.length_append, List.length_take, List.length_drop]) <;> omega))
  · rename_i b0 b1 b2 h0 Y0 p0 h1 b3 b4 vLB hLB h2 vJB hJB h3 b5 vFB hFB h4 h5 h6 h7
    exact Int.natCast_nonneg _
  · rename_i b0 b1 b2 h0 Y0 p0 h1 b3 b4 vLB hLB h2 vJB hJB h3 b5 vFB hFB h4 h5 h6 h7
    exact of_decide_eq_true h6
  · rename_i b0 b1 b2 h0 Y0 p0 h1 b3 b4 vLB hLB h2 vJB hJB h3 b5 vFB hFB h4 h5 h6 h7
    exact hFB.idx h6
  · rename_i b0 b1 b2 h0 Y0 p0 h1 b3 b4 vLB hLB h2 vJB hJB h3 b5 vFB hFB h4 h5 h6 h7 h8
    exact hFB.inr h0 h6
  · rename_i b0 b1 b2 h0 Y0 p0 h1 b3 b4 vLB hLB h2 vJB hJB h3 b5 vFB hFB h4 h5 h6 h7 h8
    refine Stands.next (Stands.one ((vFB.1.1 + 1, vFB.1.2.1, (vFB.1.1 : Int)), vFB.2) ⟨hFB.step h6 (.inr ⟨rfl, h7⟩) (.inl ⟨rfl, h8⟩), Fx.mless h6, ?_⟩)
    ((refine Tr.via ?_ ?_ ?_; rotate_left; (as_aux_lemma => ((conv => (rhs; reduce))))); with_reducible repeat' (first | exact Tr.yes_h | refine Tr.and_h ?_ ?_ | refine Tr.imp_h fun _ => ?_ | refine Tr.all_h fun _ => ?_ | refine Tr.lf_h ?_))
    all_goals (first | first | (show Region.lexB _ _ = true; kernel_rfl) | (show planned _ _ = true; kernel_rfl) | exact rfl | exact True.intro | (first | exact key3 | exact key30 | exact zero3 | exact zero53 | exact eq30 | exact ⟨key3, zero53⟩ | exact ⟨key30, zero3⟩) | ((try dsimp only [imp, C0, cG, cInt, cPl, cSlot, cDo] at *); (try refine inR64 ?_ ?_) <;> (try simp only [List.length_set, List.length_append, List.length_take, List.length_drop]) <;> omega))
  · rename_i b0 b1 b2 h0 Y0 p0 h1 b3 b4 vLB hLB h2 vJB hJB h3 b5 vFB hFB h4 h5 h6 h7 h8
    exact hFB.inr h0 h6
  · rename_i b0 b1 b2 h0 Y0 p0 h1 b3 b4 vLB hLB h2 vJB hJB h3 b5 vFB hFB h4 h5 h6 h7 h8
    refine Stands.next (Stands.one ((vFB.1.1 + 1, vFB.1.2.1, vFB.1.2.2), vFB.2) ⟨hFB.step h6 (.inr ⟨rfl, h7⟩) (.inr ⟨rfl, h8⟩), Fx.mless h6, ?_⟩)
    ((refine Tr.via ?_ ?_ ?_; rotate_left; (as_aux_lemma => ((conv => (rhs; reduce))))); with_reducible repeat' (first | exact Tr.yes_h | refine Tr.and_h ?_ ?_ | refine Tr.imp_h fun _ => ?_ | refine Tr.all_h fun _ => ?_ | refine Tr.lf_h ?_))
    all_goals (first | first | (show Region.lexB _ _ = true; kernel_rfl) | (show planned _ _ = true; kernel_rfl) | exact rfl | exact True.intro | (first | exact key3 | exact key30 | exact zero3 | exact zero53 | exact eq30 | exact ⟨key3, zero53⟩ | exact ⟨key30, zero3⟩) | ((try dsimp only [imp, C0, cG, cInt, cPl, cSlot, cDo] at *); (try refine inR64 ?_ ?_) <;> (try simp only [List.length_set, List.length_append, List.length_take, List.length_drop]) <;> omega))
  · rename_i b0 b1 b2 h0 Y0 p0 h1 b3 b4 vLB hLB h2 vJB hJB h3 b5 vFB hFB h4 h5 h6 h7 h8
    exact (hFB.finr h0 h6 h8).1
  · rename_i b0 b1 b2 h0 Y0 p0 h1 b3 b4 vLB hLB h2 vJB hJB h3 b5 vFB hFB h4 h5 h6 h7 h8
    exact (hFB.finr h0 h6 h8).2.1
  · rename_i b0 b1 b2 h0 Y0 p0 h1 b3 b4 vLB hLB h2 vJB hJB h3 b5 vFB hFB h4 h5 h6 h7 h8
    exact (hFB.finr h0 h6 h8).2.2.1
  · rename_i b0 b1 b2 h0 Y0 p0 h1 b3 b4 vLB hLB h2 vJB hJB h3 b5 vFB hFB h4 h5 h6 h7 h8
    exact (hFB.finr h0 h6 h8).2.2.2.1
  · rename_i b0 b1 b2 h0 Y0 p0 h1 b3 b4 vLB hLB h2 vJB hJB h3 b5 vFB hFB h4 h5 h6 h7 h8
    exact (hFB.finr h0 h6 h8).2.2.2.2
  · rename_i b0 b1 b2 h0 Y0 p0 h1 b3 b4 vLB hLB h2 vJB hJB h3 b5 vFB hFB h4 h5 h6 h7
    exact ((hFB.dn h6).c1 h7).elim
  · rename_i b0 b1 b2 h0 Y0 p0 h1 b3 b4 vLB hLB h2 vJB hJB h3 b5 vFB hFB h4 h5 h6 h7 h8 b6
    exact ⟨by simp, by decide, by decide⟩
  · rename_i b0 b1 b2 h0 Y0 p0 h1 b3 b4 vLB hLB h2 vJB hJB h3 b5 vFB hFB h4 h5 h6 h7 h8 b6 Y1 p1
    exact hFB.ss h6 h8 p1
  · rename_i b0 b1 b2 h0 Y0 p0 h1 b3 b4 vLB hLB h2 vJB hJB h3 b5 vFB hFB h4 h5 h6 h7 h8 b6 Y1 p1 h9 h10
    exact (hFB.gidx h6 h10).1
  · rename_i b0 b1 b2 h0 Y0 p0 h1 b3 b4 vLB hLB h2 vJB hJB h3 b5 vFB hFB h4 h5 h6 h7 h8 b6 Y1 p1 h9 h10
    exact (hFB.gidx h6 h10).2.1
  · rename_i b0 b1 b2 h0 Y0 p0 h1 b3 b4 vLB hLB h2 vJB hJB h3 b5 vFB hFB h4 h5 h6 h7 h8 b6 Y1 p1 h9 h10
    exact (hFB.gidx h6 h10).2.2
  · rename_i b0 b1 b2 h0 Y0 p0 h1 b3 b4 vLB hLB h2 vJB hJB h3 b5 vFB hFB h4 h5 h6 h7 h8 b6 Y1 p1 h9
    exact tok_of hFB.sb.rep hFB.sb.syn p0 (le200 hFB.sb.le h0) rfl rfl rfl rfl
  · rename_i b0 b1 b2 h0 Y0 p0 h1 b3 b4 vLB hLB h2 vJB hJB h3 b5 vFB hFB h4 h5 h6 h7 h8 b6 Y1 p1 h9
    exact (hFB.killT h6 h8 p1 rfl rfl h9).elim
  · rename_i b0 b1 b2 h0 Y0 p0 h1 b3 b4 vLB hLB h2 vJB hJB h3 b5 vFB hFB h4 h5 h6 h7 h8 b6 Y1 p1 h9
    exact ⟨hFB.rk h0, may_ps p0⟩
  · rename_i b0 b1 b2 h0 Y0 p0 h1 b3 b4 vLB hLB h2 vJB hJB h3 b5 vFB hFB h4 h5 h6 h7 h8 b6 Y1 p1 h9 Y2 p2 h10
    exact (hFB.len0 p0 p2 rfl h10).elim
  · rename_i b0 b1 b2 h0 Y0 p0 h1 b3 b4 vLB hLB h2 vJB hJB h3 b5 vFB hFB h4 h5 h6 h7 h8 b6 Y1 p1 h9 Y2 p2 h10
    exact tok_of hFB.sb.rep hFB.sb.syn p0 (le200 hFB.sb.le h0) rfl rfl rfl rfl
  · rename_i b0 b1 b2 h0 Y0 p0 h1 b3 b4 vLB hLB h2 vJB hJB h3 b5 vFB hFB h4 h5 h6 h7 h8 b6 Y1 p1 h9 Y2 p2 h10 Y3 p3
    exact ⟨hFB.rk h0, may_ps p0⟩
  · rename_i b0 b1 b2 h0 Y0 p0 h1 b3 b4 vLB hLB h2 vJB hJB h3 b5 vFB hFB h4 h5 h6 h7 h8 b6 Y1 p1 h9 Y2 p2 h10 Y3 p3 Y4 p4
    exact inr2 hFB.sb.le h0
  · rename_i b0 b1 b2 h0 Y0 p0 h1 b3 b4 vLB hLB h2 vJB hJB h3 b5 vFB hFB h4 h5 h6 h7 h8 b6 Y1 p1 h9 Y2 p2 h10 Y3 p3 Y4 p4
    refine Stands.next (Stands.one (vFB.2.1 + 1, vFB.2.2.1, vFB.2.2.2) ⟨hFB.sb, dec3 h3 h4 hFB.sb.le, ?_⟩)
    ((refine Tr.via ?_ ?_ ?_; rotate_left; (as_aux_lemma => ((conv => (rhs; reduce))))); with_reducible repeat' (first | exact Tr.yes_h | refine Tr.and_h ?_ ?_ | refine Tr.imp_h fun _ => ?_ | refine Tr.all_h fun _ => ?_ | refine Tr.lf_h ?_))
    all_goals (first | first | (show Region.lexB _ _ = true; kernel_rfl) | (show planned _ _ = true; kernel_rfl) | exact rfl | exact True.intro | (first | exact key3 | exact key30 | exact zero3 | exact zero53 | exact eq30 | exact ⟨key3, zero53⟩ | exact ⟨key30, zero3⟩) | ((try dsimp only [imp, C0, cG, cInt, cPl, cSlot, cDo] at *); (try refine inR64 ?_ ?_) <;> (try simp only [List.length_set, List.length_append, List.length_take, List.length_drop]) <;> omega))
  · rename_i b0 b1 b2 h0 Y0 p0 h1 b3 b4 vLB hLB h2 vJB hJB h3 b5 vFB hFB h4 h5 h6 h7 h8 b6 Y1 p1 h9 Y2 p2 h10 Y3 p3 Y4 p4
    exact (og_no p4 p2).elim
  · rename_i b0 b1 b2 h0 Y0 p0 h1 b3 b4 vLB hLB h2 vJB hJB h3 b5 vFB hFB h4 h5 h6 h7 h8 b6 Y1 p1 h9 Y2 p2 h10 Y3 p3 Y4 p4 h11
    exact (og_no p4 p2).elim
  · rename_i b0 b1 b2 h0 Y0 p0 h1 b3 b4 vLB hLB h2 vJB hJB h3 b5 vFB hFB h4 h5 h6 h7 h8 b6 Y1 p1 h9 Y2 p2 h10 Y3 p3 Y4 p4 h11
    exact (og_no p4 p2).elim
  · rename_i b0 b1 b2 h0 Y0 p0 h1 b3 b4 vLB hLB h2 vJB hJB h3 b5 vFB hFB h4 h5 h6 h7 h8 b6 Y1 p1 h9 Y2 p2 h10 Y3 p3 Y4 p4 h11
    exact (og_no p4 p2).elim
  · rename_i b0 b1 b2 h0 Y0 p0 h1 b3 b4 vLB hLB h2 vJB hJB h3 b5 vFB hFB h4 h5 h6 h7 h8 b6 Y1 p1 h9 Y2 p2 h10 Y3 p3
    exact (srt_no p3.1 p3.2.1 (hFB.ofNil p0 _ p2)).elim
  · rename_i b0 b1 b2 h0 Y0 p0 h1 b3 b4 vLB hLB h2 vJB hJB h3 b5 vFB hFB h4 h5 h6 h7 h8 b6 Y1 p1 h9 Y2 p2 h10 Y3 p3 Y4 p4
    exact (srt_no p3.1 p3.2.1 (hFB.ofNil p0 _ p2)).elim
  · rename_i b0 b1 b2 h0 Y0 p0 h1 b3 b4 vLB hLB h2 vJB hJB h3 b5 vFB hFB h4 h5 h6 h7 h8 b6 Y1 p1 h9 Y2 p2 h10 Y3 p3 Y4 p4 Y5 p5
    exact (srt_no p3.1 p3.2.1 (hFB.ofNil p0 _ p2)).elim
  · rename_i b0 b1 b2 h0 Y0 p0 h1 b3 b4 vLB hLB h2 vJB hJB h3 b5 vFB hFB h4 h5 h6 h7 h8 b6 Y1 p1 h9 Y2 p2 h10 Y3 p3 Y4 p4 Y5 p5
    exact (og_no p5 p2).elim
  · rename_i b0 b1 b2 h0 Y0 p0 h1 b3 b4 vLB hLB h2 vJB hJB h3 b5 vFB hFB h4 h5 h6 h7 h8 b6 Y1 p1 h9 Y2 p2 h10 Y3 p3 Y4 p4 Y5 p5 h11
    exact (og_no p5 p2).elim
  · rename_i b0 b1 b2 h0 Y0 p0 h1 b3 b4 vLB hLB h2 vJB hJB h3 b5 vFB hFB h4 h5 h6 h7 h8 b6 Y1 p1 h9 Y2 p2 h10 Y3 p3 Y4 p4 Y5 p5 h11
    exact (og_no p5 p2).elim
  · rename_i b0 b1 b2 h0 Y0 p0 h1 b3 b4 vLB hLB h2 vJB hJB h3 b5 vFB hFB h4 h5 h6 h7 h8 b6 Y1 p1 h9 Y2 p2 h10 Y3 p3 Y4 p4 Y5 p5 h11
    exact (og_no p5 p2).elim
  · rename_i b0 b1 b2 h0 Y0 p0 h1 b3 b4 vLB hLB h2 vJB hJB h3 b5 vFB hFB h4 h5 h6 h7 h8 b6 Y1 p1 h9 Y2 p2 h10
    exact (hFB.lenN p0 p2 rfl h10).elim
  · rename_i b0 b1 b2 h0 Y0 p0 h1 b3 b4 vLB hLB h2 vJB hJB h3 b5 vFB hFB h4 h5 h6 h7 h8 b6 Y1 p1 h9 Y2 p2 h10
    exact tok_of hFB.sb.rep hFB.sb.syn p0 (le200 hFB.sb.le h0) rfl rfl rfl rfl
  · rename_i b0 b1 b2 h0 Y0 p0 h1 b3 b4 vLB hLB h2 vJB hJB h3 b5 vFB hFB h4 h5 h6 h7 h8 b6 Y1 p1 h9 Y2 p2 h10 Y3 p3
    exact (hFB.ogSrt p0 p2 p3).elim
  · rename_i b0 b1 b2 h0 Y0 p0 h1 b3 b4 vLB hLB h2 vJB hJB h3 b5 vFB hFB h4 h5 h6 h7 h8 b6 Y1 p1 h9 Y2 p2 h10 Y3 p3 Y4 p4
    exact (og_no p2 p4).elim
  · rename_i b0 b1 b2 h0 Y0 p0 h1 b3 b4 vLB hLB h2 vJB hJB h3 b5 vFB hFB h4 h5 h6 h7 h8 b6 Y1 p1 h9 Y2 p2 h10 Y3 p3 Y4 p4
    exact (og_no p2 p4).elim
  · rename_i b0 b1 b2 h0 Y0 p0 h1 b3 b4 vLB hLB h2 vJB hJB h3 b5 vFB hFB h4 h5 h6 h7 h8 b6 Y1 p1 h9 Y2 p2 h10 Y3 p3 Y4 p4
    exact (hFB.ogSrt p0 p2 p3).elim
  · rename_i b0 b1 b2 h0 Y0 p0 h1 b3 b4 vLB hLB h2 vJB hJB h3 b5 vFB hFB h4 h5 h6 h7 h8 b6 Y1 p1 h9 Y2 p2 h10 Y3 p3 Y4 p4 h11
    exact (hFB.ogSrt p0 p2 p3).elim
  · rename_i b0 b1 b2 h0 Y0 p0 h1 b3 b4 vLB hLB h2 vJB hJB h3 b5 vFB hFB h4 h5 h6 h7 h8 b6 Y1 p1 h9 Y2 p2 h10 Y3 p3 Y4 p4 h11
    exact (hFB.ogSrt p0 p2 p3).elim
  · rename_i b0 b1 b2 h0 Y0 p0 h1 b3 b4 vLB hLB h2 vJB hJB h3 b5 vFB hFB h4 h5 h6 h7 h8 b6 Y1 p1 h9 Y2 p2 h10 Y3 p3 Y4 p4 h11
    exact (hFB.ogSrt p0 p2 p3).elim
  · rename_i b0 b1 b2 h0 Y0 p0 h1 b3 b4 vLB hLB h2 vJB hJB h3 b5 vFB hFB h4 h5 h6 h7 h8 b6 Y1 p1 h9 Y2 p2 h10 Y3 p3
    exact hFB.bsPre h0 p3.1 p3.2.1
  · rename_i b0 b1 b2 h0 Y0 p0 h1 b3 b4 vLB hLB h2 vJB hJB h3 b5 vFB hFB h4 h5 h6 h7 h8 b6 Y1 p1 h9 Y2 p2 h10 Y3 p3 Y4 p4
    exact ⟨hFB.rk h0, may_ps p0⟩
  · rename_i b0 b1 b2 h0 Y0 p0 h1 b3 b4 vLB hLB h2 vJB hJB h3 b5 vFB hFB h4 h5 h6 h7 h8 b6 Y1 p1 h9 Y2 p2 h10 Y3 p3 Y4 p4 Y5 p5
    exact (og_no p2 p5).elim
  · rename_i b0 b1 b2 h0 Y0 p0 h1 b3 b4 vLB hLB h2 vJB hJB h3 b5 vFB hFB h4 h5 h6 h7 h8 b6 Y1 p1 h9 Y2 p2 h10 Y3 p3 Y4 p4 Y5 p5
    exact hFB.bssPre h0 p3.1 p4 p5
  · rename_i b0 b1 b2 h0 Y0 p0 h1 b3 b4 vLB hLB h2 vJB hJB h3 b5 vFB hFB h4 h5 h6 h7 h8 b6 Y1 p1 h9 Y2 p2 h10 Y3 p3 Y4 p4 Y5 p5 h11
    exact (hFB.same p0 p3.1 p4 p5 h11).elim
  · rename_i b0 b1 b2 h0 Y0 p0 h1 b3 b4 vLB hLB h2 vJB hJB h3 b5 vFB hFB h4 h5 h6 h7 h8 b6 Y1 p1 h9 Y2 p2 h10 Y3 p3 Y4 p4 Y5 p5 h11
    exact inr2 hFB.sb.le h0
  · rename_i b0 b1 b2 h0 Y0 p0 h1 b3 b4 vLB hLB h2 vJB hJB h3 b5 vFB hFB h4 h5 h6 h7 h8 b6 Y1 p1 h9 Y2 p2 h10 Y3 p3 Y4 p4 Y5 p5 h11
    refine Stands.next (Stands.one (vFB.2.1 + 1, vFB.2.2.1, vFB.2.2.2) ⟨hFB.sb, dec3 h3 h4 hFB.sb.le, ?_⟩)
    ((refine Tr.via ?_ ?_ ?_; rotate_left; (as_aux_lemma => ((conv => (rhs; reduce))))); with_reducible repeat' (first | exact Tr.yes_h | refine Tr.and_h ?_ ?_ | refine Tr.imp_h fun _ => ?_ | refine Tr.all_h fun _ => ?_ | refine Tr.lf_h ?_))
    all_goals (first | first | (show Region.lexB _ _ = true; kernel_rfl) | (show planned _ _ = true; kernel_rfl) | exact rfl | exact True.intro | (first | exact key3 | exact key30 | exact zero3 | exact zero53 | exact eq30 | exact ⟨key3, zero53⟩ | exact ⟨key30, zero3⟩) | ((try dsimp only [imp, C0, cG, cInt, cPl, cSlot, cDo] at *); (try refine inR64 ?_ ?_) <;> (try simp only [List.length_set, List.length_append, List.length_take, List.length_drop]) <;> omega))
  · rename_i b0 b1 b2 h0 Y0 p0 h1 b3 b4 vLB hLB h2 vJB hJB h3 b5 vFB hFB h4 h5 h6 h7 h8 h9 h10
    exact (hFB.gidx h6 h10).1
  · rename_i b0 b1 b2 h0 Y0 p0 h1 b3 b4 vLB hLB h2 vJB hJB h3 b5 vFB hFB h4 h5 h6 h7 h8 h9 h10
    exact (hFB.gidx h6 h10).2.1
  · rename_i b0 b1 b2 h0 Y0 p0 h1 b3 b4 vLB hLB h2 vJB hJB h3 b5 vFB hFB h4 h5 h6 h7 h8 h9 h10
    exact (hFB.gidx h6 h10).2.2
  · rename_i b0 b1 b2 h0 Y0 p0 h1 b3 b4 vLB hLB h2 vJB hJB h3 b5 vFB hFB h4 h5 h6 h7 h8 h9
    exact tok_of hFB.sb.rep hFB.sb.syn p0 (le200 hFB.sb.le h0) rfl rfl rfl rfl
  · rename_i b0 b1 b2 h0 Y0 p0 h1 b3 b4 vLB hLB h2 vJB hJB h3 b5 vFB hFB h4 h5 h6 h7 h8 h9
    exact (hFB.rest h6 rfl rfl h9).elim
  · rename_i b0 b1 b2 h0 Y0 p0 h1 b3 b4 vLB hLB h2 vJB hJB h3 b5 vFB hFB h4 h5 h6 h7 h8 h9
    exact ⟨hFB.rk h0, may_ps p0⟩
  · rename_i b0 b1 b2 h0 Y0 p0 h1 b3 b4 vLB hLB h2 vJB hJB h3 b5 vFB hFB h4 h5 h6 h7 h8 h9 Y1 p1 h10
    exact (hFB.len0 p0 p1 rfl h10).elim
  · rename_i b0 b1 b2 h0 Y0 p0 h1 b3 b4 vLB hLB h2 vJB hJB h3 b5 vFB hFB h4 h5 h6 h7 h8 h9 Y1 p1 h10
    exact tok_of hFB.sb.rep hFB.sb.syn p0 (le200 hFB.sb.le h0) rfl rfl rfl rfl
  · rename_i b0 b1 b2 h0 Y0 p0 h1 b3 b4 vLB hLB h2 vJB hJB h3 b5 vFB hFB h4 h5 h6 h7 h8 h9 Y1 p1 h10 Y2 p2
    exact ⟨hFB.rk h0, may_ps p0⟩
  · rename_i b0 b1 b2 h0 Y0 p0 h1 b3 b4 vLB hLB h2 vJB hJB h3 b5 vFB hFB h4 h5 h6 h7 h8 h9 Y1 p1 h10 Y2 p2 Y3 p3
    exact inr2 hFB.sb.le h0
  · rename_i b0 b1 b2 h0 Y0 p0 h1 b3 b4 vLB hLB h2 vJB hJB h3 b5 vFB hFB h4 h5 h6 h7 h8 h9 Y1 p1 h10 Y2 p2 Y3 p3
    refine Stands.next (Stands.one (vFB.2.1 + 1, vFB.2.2.1, vFB.2.2.2) ⟨hFB.sb, dec3 h3 h4 hFB.sb.le, ?_⟩)
    ((refine Tr.via ?_ ?_ ?_; rotate_left; (as_aux_lemma => ((conv => (rhs; reduce))))); with_reducible repeat' (first | exact Tr.yes_h | refine Tr.and_h ?_ ?_ | refine Tr.imp_h fun _ => ?_ | refine Tr.all_h fun _ => ?_ | refine Tr.lf_h ?_))
    all_goals (first | first | (show Region.lexB _ _ = true; kernel_rfl) | (show planned _ _ = true; kernel_rfl) | exact rfl | exact True.intro | (first | exact key3 | exact key30 | exact zero3 | exact zero53 | exact eq30 | exact ⟨key3, zero53⟩ | exact ⟨key30, zero3⟩) | ((try dsimp only [imp, C0, cG, cInt, cPl, cSlot, cDo] at *); (try refine inR64 ?_ ?_) <;> (try simp only [List.length_set, List.length_append, List.length_take, List.length_drop]) <;> omega))
  · rename_i b0 b1 b2 h0 Y0 p0 h1 b3 b4 vLB hLB h2 vJB hJB h3 b5 vFB hFB h4 h5 h6 h7 h8 h9 Y1 p1 h10 Y2 p2 Y3 p3
    exact (og_no p3 p1).elim
  · rename_i b0 b1 b2 h0 Y0 p0 h1 b3 b4 vLB hLB h2 vJB hJB h3 b5 vFB hFB h4 h5 h6 h7 h8 h9 Y1 p1 h10 Y2 p2 Y3 p3 h11
    exact (og_no p3 p1).elim
  · rename_i b0 b1 b2 h0 Y0 p0 h1 b3 b4 vLB hLB h2 vJB hJB h3 b5 vFB hFB h4 h5 h6 h7 h8 h9 Y1 p1 h10 Y2 p2 Y3 p3 h11
    exact (og_no p3 p1).elim
  · rename_i b0 b1 b2 h0 Y0 p0 h1 b3 b4 vLB hLB h2 vJB hJB h3 b5 vFB hFB h4 h5 h6 h7 h8 h9 Y1 p1 h10 Y2 p2 Y3 p3 h11
    exact (og_no p3 p1).elim
  · rename_i b0 b1 b2 h0 Y0 p0 h1 b3 b4 vLB hLB h2 vJB hJB h3 b5 vFB hFB h4 h5 h6 h7 h8 h9 Y1 p1 h10 Y2 p2
    exact (srt_no p2.1 p2.2.1 (hFB.ofNil p0 _ p1)).elim
  · rename_i b0 b1 b2 h0 Y0 p0 h1 b3 b4 vLB hLB h2 vJB hJB h3 b5 vFB hFB h4 h5 h6 h7 h8 h9 Y1 p1 h10 Y2 p2 Y3 p3
    exact (srt_no p2.1 p2.2.1 (hFB.ofNil p0 _ p1)).elim
  · rename_i b0 b1 b2 h0 Y0 p0 h1 b3 b4 vLB hLB h2 vJB hJB h3 b5 vFB hFB h4 h5 h6 h7 h8 h9 Y1 p1 h10 Y2 p2 Y3 p3 Y4 p4
    exact (srt_no p2.1 p2.2.1 (hFB.ofNil p0 _ p1)).elim
  · rename_i b0 b1 b2 h0 Y0 p0 h1 b3 b4 vLB hLB h2 vJB hJB h3 b5 vFB hFB h4 h5 h6 h7 h8 h9 Y1 p1 h10 Y2 p2 Y3 p3 Y4 p4
    exact (og_no p4 p1).elim
  · rename_i b0 b1 b2 h0 Y0 p0 h1 b3 b4 vLB hLB h2 vJB hJB h3 b5 vFB hFB h4 h5 h6 h7 h8 h9 Y1 p1 h10 Y2 p2 Y3 p3 Y4 p4 h11
    exact (og_no p4 p1).elim
  · rename_i b0 b1 b2 h0 Y0 p0 h1 b3 b4 vLB hLB h2 vJB hJB h3 b5 vFB hFB h4 h5 h6 h7 h8 h9 Y1 p1 h10 Y2 p2 Y3 p3 Y4 p4 h11
    exact (og_no p4 p1).elim
  · rename_i b0 b1 b2 h0 Y0 p0 h1 b3 b4 vLB hLB h2 vJB hJB h3 b5 vFB hFB h4 h5 h6 h7 h8 h9 Y1 p1 h10 Y2 p2 Y3 p3 Y4 p4 h11
    exact (og_no p4 p1).elim
  · rename_i b0 b1 b2 h0 Y0 p0 h1 b3 b4 vLB hLB h2 vJB hJB h3 b5 vFB hFB h4 h5 h6 h7 h8 h9 Y1 p1 h10
    exact (hFB.lenN p0 p1 rfl h10).elim
  · rename_i b0 b1 b2 h0 Y0 p0 h1 b3 b4 vLB hLB h2 vJB hJB h3 b5 vFB hFB h4 h5 h6 h7 h8 h9 Y1 p1 h10
    exact tok_of hFB.sb.rep hFB.sb.syn p0 (le200 hFB.sb.le h0) rfl rfl rfl rfl
  · rename_i b0 b1 b2 h0 Y0 p0 h1 b3 b4 vLB hLB h2 vJB hJB h3 b5 vFB hFB h4 h5 h6 h7 h8 h9 Y1 p1 h10 Y2 p2
    exact (hFB.ogSrt p0 p1 p2).elim
  · rename_i b0 b1 b2 h0 Y0 p0 h1 b3 b4 vLB hLB h2 vJB hJB h3 b5 vFB hFB h4 h5 h6 h7 h8 h9 Y1 p1 h10 Y2 p2 Y3 p3
    exact (og_no p1 p3).elim
  · rename_i b0 b1 b2 h0 Y0 p0 h1 b3 b4 vLB hLB h2 vJB hJB h3 b5 vFB hFB h4 h5 h6 h7 h8 h9 Y1 p1 h10 Y2 p2 Y3 p3
    exact (og_no p1 p3).elim
  · rename_i b0 b1 b2 h0 Y0 p0 h1 b3 b4 vLB hLB h2 vJB hJB h3 b5 vFB hFB h4 h5 h6 h7 h8 h9 Y1 p1 h10 Y2 p2 Y3 p3
    exact (hFB.ogSrt p0 p1 p2).elim
  · rename_i b0 b1 b2 h0 Y0 p0 h1 b3 b4 vLB hLB h2 vJB hJB h3 b5 vFB hFB h4 h5 h6 h7 h8 h9 Y1 p1 h10 Y2 p2 Y3 p3 h11
    exact (hFB.ogSrt p0 p1 p2).elim
  · rename_i b0 b1 b2 h0 Y0 p0 h1 b3 b4 vLB hLB h2 vJB hJB h3 b5 vFB hFB h4 h5 h6 h7 h8 h9 Y1 p1 h10 Y2 p2 Y3 p3 h11
    exact (hFB.ogSrt p0 p1 p2).elim
  · rename_i b0 b1 b2 h0 Y0 p0 h1 b3 b4 vLB hLB h2 vJB hJB h3 b5 vFB hFB h4 h5 h6 h7 h8 h9 Y1 p1 h10 Y2 p2 Y3 p3 h11
    exact (hFB.ogSrt p0 p1 p2).elim
  · rename_i b0 b1 b2 h0 Y0 p0 h1 b3 b4 vLB hLB h2 vJB hJB h3 b5 vFB hFB h4 h5 h6 h7 h8 h9 Y1 p1 h10 Y2 p2
    exact hFB.bsPre h0 p2.1 p2.2.1
  · rename_i b0 b1 b2 h0 Y0 p0 h1 b3 b4 vLB hLB h2 vJB hJB h3 b5 vFB hFB h4 h5 h6 h7 h8 h9 Y1 p1 h10 Y2 p2 Y3 p3
    exact ⟨hFB.rk h0, may_ps p0⟩
  · rename_i b0 b1 b2 h0 Y0 p0 h1 b3 b4 vLB hLB h2 vJB hJB h3 b5 vFB hFB h4 h5 h6 h7 h8 h9 Y1 p1 h10 Y2 p2 Y3 p3 Y4 p4
    exact (og_no p1 p4).elim
  · rename_i b0 b1 b2 h0 Y0 p0 h1 b3 b4 vLB hLB h2 vJB hJB h3 b5 vFB hFB h4 h5 h6 h7 h8 h9 Y1 p1 h10 Y2 p2 Y3 p3 Y4 p4
    exact hFB.bssPre h0 p2.1 p3 p4
  · rename_i b0 b1 b2 h0 Y0 p0 h1 b3 b4 vLB hLB h2 vJB hJB h3 b5 vFB hFB h4 h5 h6 h7 h8 h9 Y1 p1 h10 Y2 p2 Y3 p3 Y4 p4 h11
    exact (hFB.same p0 p2.1 p3 p4 h11).elim
  · rename_i b0 b1 b2 h0 Y0 p0 h1 b3 b4 vLB hLB h2 vJB hJB h3 b5 vFB hFB h4 h5 h6 h7 h8 h9 Y1 p1 h10 Y2 p2 Y3 p3 Y4 p4 h11
    exact inr2 hFB.sb.le h0
  · rename_i b0 b1 b2 h0 Y0 p0 h1 b3 b4 vLB hLB h2 vJB hJB h3 b5 vFB hFB h4 h5 h6 h7 h8 h9 Y1 p1 h10 Y2 p2 Y3 p3 Y4 p4 h11
    refine Stands.next (Stands.one (vFB.2.1 + 1, vFB.2.2.1, vFB.2.2.2) ⟨hFB.sb, dec3 h3 h4 hFB.sb.le, ?_⟩)
    ((refine Tr.via ?_ ?_ ?_; rotate_left; (as_aux_lemma => ((conv => (rhs; reduce))))); with_reducible repeat' (first | exact Tr.yes_h | refine Tr.and_h ?_ ?_ | refine Tr.imp_h fun _ => ?_ | refine Tr.all_h fun _ => ?_ | refine Tr.lf_h ?_))
    all_goals (first | first | (show Region.lexB _ _ = true; kernel_rfl) | (show planned _ _ = true; kernel_rfl) | exact rfl | exact True.intro | (first | exact key3 | exact key30 | exact zero3 | exact zero53 | exact eq30 | exact ⟨key3, zero53⟩ | exact ⟨key30, zero3⟩) | ((try dsimp only [imp, C0, cG, cInt, cPl, cSlot, cDo] at *); (try refine inR64 ?_ ?_) <;> (try simp only [List.length_set, List.length_append, List.length_take, List.length_drop]) <;> omega))
  · rename_i b0 b1 b2 h0 Y0 p0 h1 b3 b4 vLB hLB h2
    exact tok_of hLB.rep hLB.syn p0 (le200 hLB.le h0) rfl rfl rfl rfl
  · rename_i b0 b1 b2 h0 Y0 p0 h1 b3 b4 vLB hLB h2 Y1 p1
    exact hLB.nsPre
  · rename_i b0 b1 b2 h0 Y0 p0 h1 b3 b4 vLB hLB h2 Y1 p1 h3
    exact (hLB.nsKill p1 h3).elim
  · rename_i b0 b1 b2 h0 Y0 p0 h1 b3 b4 vLB hLB h2 Y1 p1 h3 b5
    refine Stands.next (Stands.one (0, b5) ⟨Nat.zero_le _, ?_⟩)
    ((refine Tr.via ?_ ?_ ?_; rotate_left; (as_aux_lemma => ((conv => (rhs; reduce))))); with_reducible repeat' (first | exact Tr.yes_h | refine Tr.and_h ?_ ?_ | refine Tr.imp_h fun _ => ?_ | refine Tr.all_h fun _ => ?_ | refine Tr.lf_h ?_))
    all_goals (first | first | (show Region.lexB _ _ = true; kernel_rfl) | (show planned _ _ = true; kernel_rfl) | exact rfl | exact True.intro | (first | exact key3 | exact key30 | exact zero3 | exact zero53 | exact eq30 | exact ⟨key3, zero53⟩ | exact ⟨key30, zero3⟩) | ((try dsimp only [imp, C0, cG, cInt, cPl, cSlot, cDo] at *); (try refine inR64 ?_ ?_) <;> (try simp only [List.length_set, List.length_append, List.length_take, List.length_drop]) <;> omega))
  · rename_i b0 b1 b2 h0 Y0 p0 h1 b3 b4 vLB hLB h2 Y1 p1 h3 b5 vRB hRB h4 b6 Y2 p2 b7
    exact tok_of hLB.rep hLB.syn p0 (le200 hLB.le h0) rfl rfl rfl rfl
  · rename_i b0 b1 b2 h0 Y0 p0 h1 b3 b4 vLB hLB h2 Y1 p1 h3 b5 vRB hRB h4 b6 Y2 p2 b7 Y3 p3
    refine Stands.one () ⟨trivial, ?_⟩
    ((refine Tr.via ?_ ?_ ?_; rotate_left; (as_aux_lemma => ((conv => (rhs; reduce))))); with_reducible repeat' (first | exact Tr.yes_h | refine Tr.and_h ?_ ?_ | refine Tr.imp_h fun _ => ?_ | refine Tr.all_h fun _ => ?_ | refine Tr.lf_h ?_))
    all_goals (first | first | (show Region.lexB _ _ = true; kernel_rfl) | (show planned _ _ = true; kernel_rfl) | exact rfl | exact True.intro | (first | exact key3 | exact key30 | exact zero3 | exact zero53 | exact eq30 | exact ⟨key3, zero53⟩ | exact ⟨key30, zero3⟩) | ((try dsimp only [imp, C0, cG, cInt, cPl, cSlot, cDo] at *); (try refine inR64 ?_ ?_) <;> (try simp only [List.length_set, List.length_append, List.length_take, List.length_drop]) <;> omega))
  · rename_i b0 b1 b2 h0 Y0 p0 h1 b3 b4 vLB hLB h2 Y1 p1 h3 b5 vRB hRB h4 b6 Y2 p2 b7 Y3 p3 vKN hKN h5
    exact absurd h5 (by decide)
  · rename_i b0 b1 b2 h0 Y0 p0 h1 b3 b4 vLB hLB h2 Y1 p1 h3 b5 vRB hRB h4 b6 Y2 p2 b7 Y3 p3 vKN hKN h5 h6
    exact (hLB.z p3 h6).elim
  · rename_i b0 b1 b2 h0 Y0 p0 h1 b3 b4 vLB hLB h2 Y1 p1 h3 b5 vRB hRB h4 b6 Y2 p2 b7 Y3 p3 vKN hKN h5 h6 b8
    exact rd_inr h4
  · rename_i b0 b1 b2 h0 Y0 p0 h1 b3 b4 vLB hLB h2 Y1 p1 h3 b5 vRB hRB h4 b6 Y2 p2 b7 Y3 p3 vKN hKN h5 h6 b8
    refine Stands.next (Stands.one (vRB.1 + 1, b8) ⟨rd_le h4, rd_ms h4, ?_⟩)
    ((refine Tr.via ?_ ?_ ?_; rotate_left; (as_aux_lemma => ((conv => (rhs; reduce))))); with_reducible repeat' (first | exact Tr.yes_h | refine Tr.and_h ?_ ?_ | refine Tr.imp_h fun _ => ?_ | refine Tr.all_h fun _ => ?_ | refine Tr.lf_h ?_))
    all_goals (first | first | (show Region.lexB _ _ = true; kernel_rfl) | (show planned _ _ = true; kernel_rfl) | exact rfl | exact True.intro | (first | exact key3 | exact key30 | exact zero3 | exact zero53 | exact eq30 | exact ⟨key3, zero53⟩ | exact ⟨key30, zero3⟩) | ((try dsimp only [imp, C0, cG, cInt, cPl, cSlot, cDo] at *); (try refine inR64 ?_ ?_) <;> (try simp only [List.length_set, List.length_append, List.length_take, List.length_drop]) <;> omega))
  · rename_i b0 b1 b2 h0 Y0 p0 h1 b3 b4 vLB hLB h2 Y1 p1 h3 b5 vRB hRB h4 b6 Y2 p2 b7 Y3 p3
    refine Stands.next (Stands.one (0, Y3.2.2.1.length) ⟨Nat.zero_le _, ?_⟩)
    ((refine Tr.via ?_ ?_ ?_; rotate_left; (as_aux_lemma => ((conv => (rhs; reduce))))); with_reducible repeat' (first | exact Tr.yes_h | refine Tr.and_h ?_ ?_ | refine Tr.imp_h fun _ => ?_ | refine Tr.all_h fun _ => ?_ | refine Tr.lf_h ?_))
    all_goals (first | first | (show Region.lexB _ _ = true; kernel_rfl) | (show planned _ _ = true; kernel_rfl) | exact rfl | exact True.intro | (first | exact key3 | exact key30 | exact zero3 | exact zero53 | exact eq30 | exact ⟨key3, zero53⟩ | exact ⟨key30, zero3⟩) | ((try dsimp only [imp, C0, cG, cInt, cPl, cSlot, cDo] at *); (try refine inR64 ?_ ?_) <;> (try simp only [List.length_set, List.length_append, List.length_take, List.length_drop]) <;> omega))
  · rename_i b0 b1 b2 h0 Y0 p0 h1 b3 b4 vLB hLB h2 Y1 p1 h3 b5 vRB hRB h4 b6 Y2 p2 b7 Y3 p3 vKB hKB h5 h6
    exact Int.natCast_nonneg _
  · rename_i b0 b1 b2 h0 Y0 p0 h1 b3 b4 vLB hLB h2 Y1 p1 h3 b5 vRB hRB h4 b6 Y2 p2 b7 Y3 p3 vKB hKB h5 h6
    exact kb_lt h5 h6
  · rename_i b0 b1 b2 h0 Y0 p0 h1 b3 b4 vLB hLB h2 Y1 p1 h3 b5 vRB hRB h4 b6 Y2 p2 b7 Y3 p3 vKB hKB h5 h6
    exact kb_ix h5 h6
  · rename_i b0 b1 b2 h0 Y0 p0 h1 b3 b4 vLB hLB h2 Y1 p1 h3 b5 vRB hRB h4 b6 Y2 p2 b7 Y3 p3 vKB hKB h5 h6 b8 b9 h7
    exact Int.natCast_nonneg _
  · rename_i b0 b1 b2 h0 Y0 p0 h1 b3 b4 vLB hLB h2 Y1 p1 h3 b5 vRB hRB h4 b6 Y2 p2 b7 Y3 p3 vKB hKB h5 h6 b8 b9 h7
    exact (hLB.kbLt p3.1 h5 h6).1
  · rename_i b0 b1 b2 h0 Y0 p0 h1 b3 b4 vLB hLB h2 Y1 p1 h3 b5 vRB hRB h4 b6 Y2 p2 b7 Y3 p3 vKB hKB h5 h6 b8 b9 h7
    exact (hLB.kbLt p3.1 h5 h6).2
  · rename_i b0 b1 b2 h0 Y0 p0 h1 b3 b4 vLB hLB h2 Y1 p1 h3 b5 vRB hRB h4 b6 Y2 p2 b7 Y3 p3 vKB hKB h5 h6 b8 b9 h7
    exact (hLB.kbKill p3.1 h5 h6 h7).elim
  · rename_i b0 b1 b2 h0 Y0 p0 h1 b3 b4 vLB hLB h2 Y1 p1 h3 b5 vRB hRB h4 b6 Y2 p2 b7 Y3 p3 vKB hKB h5 h6 b8 b9 h7
    exact hLB.kbIn h0 p3.1 h5 h6
  · rename_i b0 b1 b2 h0 Y0 p0 h1 b3 b4 vLB hLB h2 Y1 p1 h3 b5 vRB hRB h4 b6 Y2 p2 b7 Y3 p3 vKB hKB h5 h6 b8 b9 h7 h8 h9
    exact (br_kill h8 h9).elim
  · rename_i b0 b1 b2 h0 Y0 p0 h1 b3 b4 vLB hLB h2 Y1 p1 h3 b5 vRB hRB h4 b6 Y2 p2 b7 Y3 p3 vKB hKB h5 h6 b8 b9 h7 h8 h9 b10
    exact rd_inr h4
  · rename_i b0 b1 b2 h0 Y0 p0 h1 b3 b4 vLB hLB h2 Y1 p1 h3 b5 vRB hRB h4 b6 Y2 p2 b7 Y3 p3 vKB hKB h5 h6 b8 b9 h7 h8 h9 b10
    refine Stands.next (Stands.one (vRB.1 + 1, b10) ⟨rd_le h4, rd_ms h4, ?_⟩)
    ((refine Tr.via ?_ ?_ ?_; rotate_left; (as_aux_lemma => ((conv => (rhs; reduce))))); with_reducible repeat' (first | exact Tr.yes_h | refine Tr.and_h ?_ ?_ | refine Tr.imp_h fun _ => ?_ | refine Tr.all_h fun _ => ?_ | refine Tr.lf_h ?_))
    all_goals (first | first | (show Region.lexB _ _ = true; kernel_rfl) | (show planned _ _ = true; kernel_rfl) | exact rfl | exact True.intro | (first | exact key3 | exact key30 | exact zero3 | exact zero53 | exact eq30 | exact ⟨key3, zero53⟩ | exact ⟨key30, zero3⟩) | ((try dsimp only [imp, C0, cG, cInt, cPl, cSlot, cDo] at *); (try refine inR64 ?_ ?_) <;> (try simp only [List.length_set, List.length_append, List.length_take, List.length_drop]) <;> omega))
  · rename_i b0 b1 b2 h0 Y0 p0 h1 b3 b4 vLB hLB h2 Y1 p1 h3 b5 vRB hRB h4 b6 Y2 p2 b7 Y3 p3 vKB hKB h5 h6 b8 b9 h7 h8
    exact hLB.kbIn h0 p3.1 h5 h6
  · rename_i b0 b1 b2 h0 Y0 p0 h1 b3 b4 vLB hLB h2 Y1 p1 h3 b5 vRB hRB h4 b6 Y2 p2 b7 Y3 p3 vKB hKB h5 h6 b8 b9 h7 h8
    refine Stands.next (Stands.one (vKB.1 + 1, vKB.2) ⟨(kb_ms h6).1, (kb_ms h6).2, ?_⟩)
    ((refine Tr.via ?_ ?_ ?_; rotate_left; (as_aux_lemma => ((conv => (rhs; reduce))))); with_reducible repeat' (first | exact Tr.yes_h | refine Tr.and_h ?_ ?_ | refine Tr.imp_h fun _ => ?_ | refine Tr.all_h fun _ => ?_ | refine Tr.lf_h ?_))
    all_goals (first | first | (show Region.lexB _ _ = true; kernel_rfl) | (show planned _ _ = true; kernel_rfl) | exact rfl | exact True.intro | (first | exact key3 | exact key30 | exact zero3 | exact zero53 | exact eq30 | exact ⟨key3, zero53⟩ | exact ⟨key30, zero3⟩) | ((try dsimp only [imp, C0, cG, cInt, cPl, cSlot, cDo] at *); (try refine inR64 ?_ ?_) <;> (try simp only [List.length_set, List.length_append, List.length_take, List.length_drop]) <;> omega))
  · rename_i b0 b1 b2 h0 Y0 p0 h1 b3 b4 vLB hLB h2 Y1 p1 h3 b5 vRB hRB h4 b6 Y2 p2 b7 Y3 p3 vKB hKB h5 h6 h7
    exact (hLB.kbEnd p3.1 h5 hKB h6 h7).elim
  · rename_i b0 b1 b2 h0 Y0 p0 h1 b3 b4 vLB hLB h2 Y1 p1 h3 b5 vRB hRB h4 b6 Y2 p2 b7 Y3 p3 vKB hKB h5 h6 h7 b8
    exact rd_inr h4
  · rename_i b0 b1 b2 h0 Y0 p0 h1 b3 b4 vLB hLB h2 Y1 p1 h3 b5 vRB hRB h4 b6 Y2 p2 b7 Y3 p3 vKB hKB h5 h6 h7 b8
    refine Stands.next (Stands.one (vRB.1 + 1, b8) ⟨rd_le h4, rd_ms h4, ?_⟩)
    ((refine Tr.via ?_ ?_ ?_; rotate_left; (as_aux_lemma => ((conv => (rhs; reduce))))); with_reducible repeat' (first | exact Tr.yes_h | refine Tr.and_h ?_ ?_ | refine Tr.imp_h fun _ => ?_ | refine Tr.all_h fun _ => ?_ | refine Tr.lf_h ?_))
    all_goals (first | first | (show Region.lexB _ _ = true; kernel_rfl) | (show planned _ _ = true; kernel_rfl) | exact rfl | exact True.intro | (first | exact key3 | exact key30 | exact zero3 | exact zero53 | exact eq30 | exact ⟨key3, zero53⟩ | exact ⟨key30, zero3⟩) | ((try dsimp only [imp, C0, cG, cInt, cPl, cSlot, cDo] at *); (try refine inR64 ?_ ?_) <;> (try simp only [List.length_set, List.length_append, List.length_take, List.length_drop]) <;> omega))
  · rename_i b0 b1 b2 h0 Y0 p0 h1 b3 b4 vLB hLB h2 Y1 p1
    exact hLB.asPre h0 p1.1 p1.2.1
  · rename_i b0 b1 b2 h0 Y0 p0 h1 b3 b4 vLB hLB h2 Y1 p1 Y2 p2
    exact hLB.ssPre h0 p1.1 p2
  · rename_i b0 b1 b2 h0 Y0 p0 h1 b3 b4 vLB hLB h2 Y1 p1 Y2 p2 h3
    exact (hLB.ssKill p1.1 p2 h3).elim
  · rename_i b0 b1 b2 h0 Y0 p0 h1 b3 b4 vLB hLB h2 Y1 p1 Y2 p2 h3 b5
    refine Stands.next (Stands.one (0, b5) ⟨Nat.zero_le _, ?_⟩)
    ((refine Tr.via ?_ ?_ ?_; rotate_left; (as_aux_lemma => ((conv => (rhs; reduce))))); with_reducible repeat' (first | exact Tr.yes_h | refine Tr.and_h ?_ ?_ | refine Tr.imp_h fun _ => ?_ | refine Tr.all_h fun _ => ?_ | refine Tr.lf_h ?_))
    all_goals (first | first | (show Region.lexB _ _ = true; kernel_rfl) | (show planned _ _ = true; kernel_rfl) | exact rfl | exact True.intro | (first | exact key3 | exact key30 | exact zero3 | exact zero53 | exact eq30 | exact ⟨key3, zero53⟩ | exact ⟨key30, zero3⟩) | ((try dsimp only [imp, C0, cG, cInt, cPl, cSlot, cDo] at *); (try refine inR64 ?_ ?_) <;> (try simp only [List.length_set, List.length_append, List.length_take, List.length_drop]) <;> omega))
  · rename_i b0 b1 b2 h0 Y0 p0 h1 b3 b4 vLB hLB h2 Y1 p1 Y2 p2 h3 b5 vRB hRB h4 b6 Y3 p3 b7
    exact tok_of hLB.rep hLB.syn p0 (le200 hLB.le h0) rfl rfl rfl rfl
  · rename_i b0 b1 b2 h0 Y0 p0 h1 b3 b4 vLB hLB h2 Y1 p1 Y2 p2 h3 b5 vRB hRB h4 b6 Y3 p3 b7 Y4 p4
    refine Stands.one () ⟨trivial, ?_⟩
    ((refine Tr.via ?_ ?_ ?_; rotate_left; (as_aux_lemma => ((conv => (rhs; reduce))))); with_reducible repeat' (first | exact Tr.yes_h | refine Tr.and_h ?_ ?_ | refine Tr.imp_h fun _ => ?_ | refine Tr.all_h fun _ => ?_ | refine Tr.lf_h ?_))
    all_goals (first | first | (show Region.lexB _ _ = true; kernel_rfl) | (show planned _ _ = true; kernel_rfl) | exact rfl | exact True.intro | (first | exact key3 | exact key30 | exact zero3 | exact zero53 | exact eq30 | exact ⟨key3, zero53⟩ | exact ⟨key30, zero3⟩) | ((try dsimp only [imp, C0, cG, cInt, cPl, cSlot, cDo] at *); (try refine inR64 ?_ ?_) <;> (try simp only [List.length_set, List.length_append, List.length_take, List.length_drop]) <;> omega))
  · rename_i b0 b1 b2 h0 Y0 p0 h1 b3 b4 vLB hLB h2 Y1 p1 Y2 p2 h3 b5 vRB hRB h4 b6 Y3 p3 b7 Y4 p4 vKN hKN h5
    exact absurd h5 (by decide)
  · rename_i b0 b1 b2 h0 Y0 p0 h1 b3 b4 vLB hLB h2 Y1 p1 Y2 p2 h3 b5 vRB hRB h4 b6 Y3 p3 b7 Y4 p4 vKN hKN h5 h6
    exact (hLB.z p4 h6).elim
  · rename_i b0 b1 b2 h0 Y0 p0 h1 b3 b4 vLB hLB h2 Y1 p1 Y2 p2 h3 b5 vRB hRB h4 b6 Y3 p3 b7 Y4 p4 vKN hKN h5 h6 b8
    exact rd_inr h4
  · rename_i b0 b1 b2 h0 Y0 p0 h1 b3 b4 vLB hLB h2 Y1 p1 Y2 p2 h3 b5 vRB hRB h4 b6 Y3 p3 b7 Y4 p4 vKN hKN h5 h6 b8
    refine Stands.next (Stands.one (vRB.1 + 1, b8) ⟨rd_le h4, rd_ms h4, ?_⟩)
    ((refine Tr.via ?_ ?_ ?_; rotate_left; (as_aux_lemma => ((conv => (rhs; reduce))))); with_reducible repeat' (first | exact Tr.yes_h | refine Tr.and_h ?_ ?_ | refine Tr.imp_h fun _ => ?_ | refine Tr.all_h fun _ => ?_ | refine Tr.lf_h ?_))
    all_goals (first | first | (show Region.lexB _ _ = true; kernel_rfl) | (show planned _ _ = true; kernel_rfl) | exact rfl | exact True.intro | (first | exact key3 | exact key30 | exact zero3 | exact zero53 | exact eq30 | exact ⟨key3, zero53⟩ | exact ⟨key30, zero3⟩) | ((try dsimp only [imp, C0, cG, cInt, cPl, cSlot, cDo] at *); (try refine inR64 ?_ ?_) <;> (try simp only [List.length_set, List.length_append, List.length_take, List.length_drop]) <;> omega))
  · rename_i b0 b1 b2 h0 Y0 p0 h1 b3 b4 vLB hLB h2 Y1 p1 Y2 p2 h3 b5 vRB hRB h4 b6 Y3 p3 b7 Y4 p4
    refine Stands.next (Stands.one (0, Y4.2.2.1.length) ⟨Nat.zero_le _, ?_⟩)
    ((refine Tr.via ?_ ?_ ?_; rotate_left; (as_aux_lemma => ((conv => (rhs; reduce))))); with_reducible repeat' (first | exact Tr.yes_h | refine Tr.and_h ?_ ?_ | refine Tr.imp_h fun _ => ?_ | refine Tr.all_h fun _ => ?_ | refine Tr.lf_h ?_))
    all_goals (first | first | (show Region.lexB _ _ = true; kernel_rfl) | (show planned _ _ = true; kernel_rfl) | exact rfl | exact True.intro | (first | exact key3 | exact key30 | exact zero3 | exact zero53 | exact eq30 | exact ⟨key3, zero53⟩ | exact ⟨key30, zero3⟩) | ((try dsimp only [imp, C0, cG, cInt, cPl, cSlot, cDo] at *); (try refine inR64 ?_ ?_) <;> (try simp only [List.length_set, List.length_append, List.length_take, List.length_drop]) <;> omega))
  · rename_i b0 b1 b2 h0 Y0 p0 h1 b3 b4 vLB hLB h2 Y1 p1 Y2 p2 h3 b5 vRB hRB h4 b6 Y3 p3 b7 Y4 p4 vKB hKB h5 h6
    exact Int.natCast_nonneg _
  · rename_i b0 b1 b2 h0 Y0 p0 h1 b3 b4 vLB hLB h2 Y1 p1 Y2 p2 h3 b5 vRB hRB h4 b6 Y3 p3 b7 Y4 p4 vKB hKB h5 h6
    exact kb_lt h5 h6
  · rename_i b0 b1 b2 h0 Y0 p0 h1 b3 b4 vLB hLB h2 Y1 p1 Y2 p2 h3 b5 vRB hRB h4 b6 Y3 p3 b7 Y4 p4 vKB hKB h5 h6
    exact kb_ix h5 h6
  · rename_i b0 b1 b2 h0 Y0 p0 h1 b3 b4 vLB hLB h2 Y1 p1 Y2 p2 h3 b5 vRB hRB h4 b6 Y3 p3 b7 Y4 p4 vKB hKB h5 h6 b8 b9 h7
    exact Int.natCast_nonneg _
  · rename_i b0 b1 b2 h0 Y0 p0 h1 b3 b4 vLB hLB h2 Y1 p1 Y2 p2 h3 b5 vRB hRB h4 b6 Y3 p3 b7 Y4 p4 vKB hKB h5 h6 b8 b9 h7
    exact (hLB.kbLt p4.1 h5 h6).1
  · rename_i b0 b1 b2 h0 Y0 p0 h1 b3 b4 vLB hLB h2 Y1 p1 Y2 p2 h3 b5 vRB hRB h4 b6 Y3 p3 b7 Y4 p4 vKB hKB h5 h6 b8 b9 h7
    exact (hLB.kbLt p4.1 h5 h6).2
  · rename_i b0 b1 b2 h0 Y0 p0 h1 b3 b4 vLB hLB h2 Y1 p1 Y2 p2 h3 b5 vRB hRB h4 b6 Y3 p3 b7 Y4 p4 vKB hKB h5 h6 b8 b9 h7
    exact (hLB.kbKill p4.1 h5 h6 h7).elim
  · rename_i b0 b1 b2 h0 Y0 p0 h1 b3 b4 vLB hLB h2 Y1 p1 Y2 p2 h3 b5 vRB hRB h4 b6 Y3 p3 b7 Y4 p4 vKB hKB h5 h6 b8 b9 h7
    exact hLB.kbIn h0 p4.1 h5 h6
  · rename_i b0 b1 b2 h0 Y0 p0 h1 b3 b4 vLB hLB h2 Y1 p1 Y2 p2 h3 b5 vRB hRB h4 b6 Y3 p3 b7 Y4 p4 vKB hKB h5 h6 b8 b9 h7 h8 h9
    exact (br_kill h8 h9).elim
  · rename_i b0 b1 b2 h0 Y0 p0 h1 b3 b4 vLB hLB h2 Y1 p1 Y2 p2 h3 b5 vRB hRB h4 b6 Y3 p3 b7 Y4 p4 vKB hKB h5 h6 b8 b9 h7 h8 h9 b10
    exact rd_inr h4
  · rename_i b0 b1 b2 h0 Y0 p0 h1 b3 b4 vLB hLB h2 Y1 p1 Y2 p2 h3 b5 vRB hRB h4 b6 Y3 p3 b7 Y4 p4 vKB hKB h5 h6 b8 b9 h7 h8 h9 b10
    refine Stands.next (Stands.one (vRB.1 + 1, b10) ⟨rd_le h4, rd_ms h4, ?_⟩)
    ((refine Tr.via ?_ ?_ ?_; rotate_left; (as_aux_lemma => ((conv => (rhs; reduce))))); with_reducible repeat' (first | exact Tr.yes_h | refine Tr.and_h ?_ ?_ | refine Tr.imp_h fun _ => ?_ | refine Tr.all_h fun _ => ?_ | refine Tr.lf_h ?_))
    all_goals (first | first | (show Region.lexB _ _ = true; kernel_rfl) | (show planned _ _ = true; kernel_rfl) | exact rfl | exact True.intro | (first | exact key3 | exact key30 | exact zero3 | exact zero53 | exact eq30 | exact ⟨key3, zero53⟩ | exact ⟨key30, zero3⟩) | ((try dsimp only [imp, C0, cG, cInt, cPl, cSlot, cDo] at *); (try refine inR64 ?_ ?_) <;> (try simp only [List.length_set, List.length_append, List.length_take, List.length_drop]) <;> omega))
  · rename_i b0 b1 b2 h0 Y0 p0 h1 b3 b4 vLB hLB h2 Y1 p1 Y2 p2 h3 b5 vRB hRB h4 b6 Y3 p3 b7 Y4 p4 vKB hKB h5 h6 b8 b9 h7 h8
    exact hLB.kbIn h0 p4.1 h5 h6
  · rename_i b0 b1 b2 h0 Y0 p0 h1 b3 b4 vLB hLB h2 Y1 p1 Y2 p2 h3 b5 vRB hRB h4 b6 Y3 p3 b7 Y4 p4 vKB hKB h5 h6 b8 b9 h7 h8
    refine Stands.next (Stands.one (vKB.1 + 1, vKB.2) ⟨(kb_ms h6).1, (kb_ms h6).2, ?_⟩)
    ((refine Tr.via ?_ ?_ ?_; rotate_left; (as_aux_lemma => ((conv => (rhs; reduce))))); with_reducible repeat' (first | exact Tr.yes_h | refine Tr.and_h ?_ ?_ | refine Tr.imp_h fun _ => ?_ | refine Tr.all_h fun _ => ?_ | refine Tr.lf_h ?_))
    all_goals (first | first | (show Region.lexB _ _ = true; kernel_rfl) | (show planned _ _ = true; kernel_rfl) | exact rfl | exact True.intro | (first | exact key3 | exact key30 | exact zero3 | exact zero53 | exact eq30 | exact ⟨key3, zero53⟩ | exact ⟨key30, zero3⟩) | ((try dsimp only [imp, C0, cG, cInt, cPl, cSlot, cDo] at *); (try refine inR64 ?_ ?_) <;> (try simp only [List.length_set, List.length_append, List.length_take, List.length_drop]) <;> omega))
  · rename_i b0 b1 b2 h0 Y0 p0 h1 b3 b4 vLB hLB h2 Y1 p1 Y2 p2 h3 b5 vRB hRB h4 b6 Y3 p3 b7 Y4 p4 vKB hKB h5 h6 h7
    exact (hLB.kbEnd p4.1 h5 hKB h6 h7).elim
  · rename_i b0 b1 b2 h0 Y0 p0 h1 b3 b4 vLB hLB h2 Y1 p1 Y2 p2 h3 b5 vRB hRB h4 b6 Y3 p3 b7 Y4 p4 vKB hKB h5 h6 h7 b8
    exact rd_inr h4
  · rename_i b0 b1 b2 h0 Y0 p0 h1 b3 b4 vLB hLB h2 Y1 p1 Y2 p2 h3 b5 vRB hRB h4 b6 Y3 p3 b7 Y4 p4 vKB hKB h5 h6 h7 b8
    refine Stands.next (Stands.one (vRB.1 + 1, b8) ⟨rd_le h4, rd_ms h4, ?_⟩)
    ((refine Tr.via ?_ ?_ ?_; rotate_left; (as_aux_lemma => ((conv => (rhs; reduce))))); with_reducible repeat' (first | exact Tr.yes_h | refine Tr.and_h ?_ ?_ | refine Tr.imp_h fun _ => ?_ | refine Tr.all_h fun _ => ?_ | refine Tr.lf_h ?_))
    all_goals (first | first | (show Region.lexB _ _ = true; kernel_rfl) | (show planned _ _ = true; kernel_rfl) | exact rfl | exact True.intro | (first | exact key3 | exact key30 | exact zero3 | exact zero53 | exact eq30 | exact ⟨key3, zero53⟩ | exact ⟨key30, zero3⟩) | ((try dsimp only [imp, C0, cG, cInt, cPl, cSlot, cDo] at *); (try refine inR64 ?_ ?_) <;> (try simp only [List.length_set, List.length_append, List.length_take, List.length_drop]) <;> omega))
end Go.Vx
