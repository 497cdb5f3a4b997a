/-
  Round 20: TableSums where the first slice is nil.
  Conditions: none.
-/
import Derived.Test.YtgbgfdmhmahonaaDoorTaS
set_option linter.unusedSectionVars false
set_option maxRecDepth 100000
set_option linter.unusedVariables false
set_option linter.unusedSimpArgs false
namespace Go.Vx
open Go Go.Proofs
variable [Gl]
def T9n : Inv' C0 := ⟨9, Unit, fun _ => [(10, .int .i64 0)], fun _ m => m, fun _ => True, fun _ => 0⟩
def T13n : Inv' C0 := ⟨13, Unit, fun _ => [(11, .int .i64 0)], fun _ m => m, fun _ => True, fun _ => 0⟩
set_option maxHeartbeats 32000000 in
theorem sums_ns (b' q' : Nat) (l' : List Do) (n' c' : Nat) (hl' : n' ≤ l'.length) :
    Tells (C := C0) Tryd.prog (.fn 5) [⟨b', q', 10, false, none, .rows 48 l'⟩] [.nils, .sl 0 0 n' c'] (.bool .t) := by
  refine loc_pc (P := Tryd.prog) (E := ⟨[fcNewOk, fcSet3, fcAll], [pcFirst, pcSamePlace, pcAtL, pcLenL, pcLive, pcGetL, pcSame1, pcSame2], 238, [(11, [], [.p 0, .p 1, .p 2, .p 3, .p 4, .p 5, .p 6, .p 7, .p 8, .p 9, .p 10, .p 11, .p 12, .p 13, .p 14, .p 15, .e 16]),
    (15, [0], [.p 0, .p 1, .p 2, .p 3, .p 4, .p 5, .p 6, .p 7, .p 8, .p 9, .p 10, .p 11, .p 12, .p 13, .p 14, .p 15, .e 16])]⟩) (L := [T9n, T13 n', T18, T23, T30 7, T30n]) mix Tryd.func5 rfl (by kernel_rfl) (by kernel_rfl) rfl rfl ?_
  ((conv => (arg 1; reduce)); with_reducible repeat' (first | exact Tr.yes_h | refine Tr.and_h ?_ ?_ | refine Tr.imp_h fun _ => ?_ | refine Tr.all_h fun _ => ?_ | refine Tr.lf_h ?_))
  all_goals try (first | first | (show Region.lexB _ _ = true; kernel_rfl) | (show planned _ _ = true; kernel_rfl) | exact rfl | exact True.intro | (first | exact key3 | exact key30 | exact zero3 | exact zero53 | exact eq30 | exact ⟨key3, zero53⟩ | exact ⟨key30, zero3⟩) | ((try dsimp only [imp, C0, cG, cInt, cPl, cSlot, cDo] at *); (try refine inR64 ?_ ?_) <;> (try simp only [List.length_set, List.length_append, List.length_take, List.length_drop]) <;> omega))
  · rename_i h0
    exact (by decide : 1 ≤ (8 : Int) ∧ (8 : Int) ≤ 64 ∧ 1 ≤ (8 : Int) ∧ (8 : Int) ≤ 64)
  · rename_i h0 Y0 p0
    exact (by decide : 1 ≤ (8 : Int) ∧ (8 : Int) ≤ 64 ∧ 1 ≤ (8 : Int) ∧ (8 : Int) ≤ 64)
  · rename_i h0 Y0 p0 Y1 p1
    refine Stands.one () ⟨trivial, ?_⟩
    ((conv => (arg 1; reduce)); with_reducible repeat' (first | exact Tr.yes_h | refine Tr.and_h ?_ ?_ | refine Tr.imp_h fun _ => ?_ | refine Tr.all_h fun _ => ?_ | refine Tr.lf_h ?_))
    all_goals (first | first | (show Region.lexB _ _ = true; kernel_rfl) | (show planned _ _ = true; kernel_rfl) | exact rfl | exact True.intro | (first | exact key3 | exact key30 | exact zero3 | exact zero53 | exact eq30 | exact ⟨key3, zero53⟩ | exact ⟨key30, zero3⟩) | ((try dsimp only [imp, C0, cG, cInt, cPl, cSlot, cDo] at *); (try refine inR64 ?_ ?_) <;> (try simp only [List.length_set, List.length_append, List.length_take, List.length_drop]) <;> omega))
  · rename_i h0 Y0 p0 Y1 p1 v0 hv0 h1
    exact absurd (by with_reducible assumption : decide ((0 : Int) < 0) = true) (by decide)
  · rename_i h0 Y0 p0 Y1 p1 v0 hv0 h1
    refine Stands.one (0, ([], 0, [], 0)) ⟨⟨Nat.zero_le _, Tq.nil 0⟩, ?_⟩
    ((conv => (arg 1; reduce)); with_reducible repeat' (first | exact Tr.yes_h | refine Tr.and_h ?_ ?_ | refine Tr.imp_h fun _ => ?_ | refine Tr.all_h fun _ => ?_ | refine Tr.lf_h ?_))
    all_goals (first | first | (show Region.lexB _ _ = true; kernel_rfl) | (show planned _ _ = true; kernel_rfl) | exact rfl | exact True.intro | (first | exact key3 | exact key30 | exact zero3 | exact zero53 | exact eq30 | exact ⟨key3, zero53⟩ | exact ⟨key30, zero3⟩) | ((try dsimp only [imp, C0, cG, cInt, cPl, cSlot, cDo] at *); (try refine inR64 ?_ ?_) <;> (try simp only [List.length_set, List.length_append, List.length_take, List.length_drop]) <;> omega))
  · rename_i h0 Y0 p0 Y1 p1 v0 hv0 h1 v1 hv1 h2
    exact of_decide_eq_true h2
  · rename_i h0 Y0 p0 Y1 p1 v0 hv0 h1 v1 hv1 h2
    obtain ⟨i, y⟩ := v1
    have h' : decide ((i : Int) < (n' : Int)) = true := h2
    have h' := of_decide_eq_true h'
    have hN := two_len (n := 0) h0
    show (i : Int).toNat + 0 < l'.length
    omega
  · rename_i h0 Y0 p0 Y1 p1 v0 hv0 h1 v1 hv1 h2
    exact of_decide_eq_true h2
  · rename_i h0 Y0 p0 Y1 p1 v0 hv0 h1 v1 hv1 h2
    obtain ⟨i, y⟩ := v1
    have h' : decide ((i : Int) < (n' : Int)) = true := h2
    have h' := of_decide_eq_true h'
    have hN := two_len (n := 0) h0
    show (i : Int).toNat + 0 < l'.length
    omega
  · rename_i h0 Y0 p0 Y1 p1 v0 hv0 h1 v1 hv1 h2
    exact of_decide_eq_true h2
  · rename_i h0 Y0 p0 Y1 p1 v0 hv0 h1 v1 hv1 h2
    obtain ⟨i, y⟩ := v1
    have h' : decide ((i : Int) < (n' : Int)) = true := h2
    have h' := of_decide_eq_true h'
    have hN := two_len (n := 0) h0
    show (i : Int).toNat + 0 < l'.length
    omega
  · rename_i h0 Y0 p0 Y1 p1 v0 hv0 h1 v1 hv1 h2
    exact hv1.2.rep.of rfl rfl rfl rfl
  · rename_i h0 Y0 p0 Y1 p1 v0 hv0 h1 v1 hv1 h2 Y2 p2
    obtain ⟨i, y⟩ := v1
    have h' : decide ((i : Int) < (n' : Int)) = true := h2
    have h' := of_decide_eq_true h'
    have hN := two_len (n := 0) h0
    exact inR_nat (N := 100) (i := i) (by omega) (by decide) 1 (by decide) (by decide)
  · rename_i h0 Y0 p0 Y1 p1 v0 hv0 h1 v1 hv1 h2 Y2 p2
    obtain ⟨i, y⟩ := v1
    have h' : decide ((i : Int) < (n' : Int)) = true := h2
    have h' := of_decide_eq_true h'
    have hN := two_len (n := 0) h0
    refine Stands.one (Nat.succ i, Y2) ⟨⟨by omega, hv1.2.set rfl rfl rfl p2.1.1 p2.2.1 p2.2.2 rfl rfl rfl rfl⟩, ?_, ?_⟩
    · show n' - (i + 1) < n' - i
      omega
    ((conv => (arg 1; reduce)); with_reducible repeat' (first | exact Tr.yes_h | refine Tr.and_h ?_ ?_ | refine Tr.imp_h fun _ => ?_ | refine Tr.all_h fun _ => ?_ | refine Tr.lf_h ?_))
    all_goals (first | first | (show Region.lexB _ _ = true; kernel_rfl) | (show planned _ _ = true; kernel_rfl) | exact rfl | exact True.intro | (first | exact key3 | exact key30 | exact zero3 | exact zero53 | exact eq30 | exact ⟨key3, zero53⟩ | exact ⟨key30, zero3⟩) | ((try dsimp only [imp, C0, cG, cInt, cPl, cSlot, cDo] at *); (try refine inR64 ?_ ?_) <;> (try simp only [List.length_set, List.length_append, List.length_take, List.length_drop]) <;> omega))
  · rename_i h0 Y0 p0 Y1 p1 v0 hv0 h1 v1 hv1 h2 Y2 p2
    obtain ⟨i, y⟩ := v1
    have h' : decide ((i : Int) < (n' : Int)) = true := h2
    have h' := of_decide_eq_true h'
    have hN := two_len (n := 0) h0
    exact inR_nat (N := 100) (i := i) (by omega) (by decide) 1 (by decide) (by decide)
  · rename_i h0 Y0 p0 Y1 p1 v0 hv0 h1 v1 hv1 h2 Y2 p2
    obtain ⟨i, y⟩ := v1
    have h' : decide ((i : Int) < (n' : Int)) = true := h2
    have h' := of_decide_eq_true h'
    have hN := two_len (n := 0) h0
    refine Stands.one (Nat.succ i, y) ⟨⟨by omega, hv1.2.mono (Nat.le_succ _)⟩, ?_, ?_⟩
    · show n' - (i + 1) < n' - i
      omega
    ((conv => (arg 1; reduce)); with_reducible repeat' (first | exact Tr.yes_h | refine Tr.and_h ?_ ?_ | refine Tr.imp_h fun _ => ?_ | refine Tr.all_h fun _ => ?_ | refine Tr.lf_h ?_))
    all_goals (first | first | (show Region.lexB _ _ = true; kernel_rfl) | (show planned _ _ = true; kernel_rfl) | exact rfl | exact True.intro | (first | exact key3 | exact key30 | exact zero3 | exact zero53 | exact eq30 | exact ⟨key3, zero53⟩ | exact ⟨key30, zero3⟩) | ((try dsimp only [imp, C0, cG, cInt, cPl, cSlot, cDo] at *); (try refine inR64 ?_ ?_) <;> (try simp only [List.length_set, List.length_append, List.length_take, List.length_drop]) <;> omega))
  · rename_i h0 Y0 p0 Y1 p1 v0 hv0 h1 v1 hv1 h2 Y2 p2
    obtain ⟨i, y⟩ := v1
    have h' : decide ((i : Int) < (n' : Int)) = true := h2
    have h' := of_decide_eq_true h'
    have hN := two_len (n := 0) h0
    exact inR_nat (N := 100) (i := i) (by omega) (by decide) 1 (by decide) (by decide)
  · rename_i h0 Y0 p0 Y1 p1 v0 hv0 h1 v1 hv1 h2 Y2 p2
    obtain ⟨i, y⟩ := v1
    have h' : decide ((i : Int) < (n' : Int)) = true := h2
    have h' := of_decide_eq_true h'
    have hN := two_len (n := 0) h0
    refine Stands.one (Nat.succ i, y) ⟨⟨by omega, hv1.2.mono (Nat.le_succ _)⟩, ?_, ?_⟩
    · show n' - (i + 1) < n' - i
      omega
    ((conv => (arg 1; reduce)); with_reducible repeat' (first | exact Tr.yes_h | refine Tr.and_h ?_ ?_ | refine Tr.imp_h fun _ => ?_ | refine Tr.all_h fun _ => ?_ | refine Tr.lf_h ?_))
    all_goals (first | first | (show Region.lexB _ _ = true; kernel_rfl) | (show planned _ _ = true; kernel_rfl) | exact rfl | exact True.intro | (first | exact key3 | exact key30 | exact zero3 | exact zero53 | exact eq30 | exact ⟨key3, zero53⟩ | exact ⟨key30, zero3⟩) | ((try dsimp only [imp, C0, cG, cInt, cPl, cSlot, cDo] at *); (try refine inR64 ?_ ?_) <;> (try simp only [List.length_set, List.length_append, List.length_take, List.length_drop]) <;> omega))
  · rename_i h0 Y0 p0 Y1 p1 v0 hv0 h1 v1 hv1 h2
    have hq : Tq 100 (([], 0, [], 0) : Yt) := Tq.nil 100
    have e := hq.upto0
    refine Stands.one (0, (([], 0, [], 0) : Yt)) ⟨⟨Nat.zero_le _, hq⟩, ?_⟩
    ((conv => (arg 1; reduce)); with_reducible repeat' (first | exact Tr.yes_h | refine Tr.and_h ?_ ?_ | refine Tr.imp_h fun _ => ?_ | refine Tr.all_h fun _ => ?_ | refine Tr.lf_h ?_))
    all_goals first | (first | first | (show Region.lexB _ _ = true; kernel_rfl) | (show planned _ _ = true; kernel_rfl) | exact rfl | exact True.intro | (first | exact key3 | exact key30 | exact zero3 | exact zero53 | exact eq30 | exact ⟨key3, zero53⟩ | exact ⟨key30, zero3⟩) | ((try dsimp only [imp, C0, cG, cInt, cPl, cSlot, cDo] at *); (try refine inR64 ?_ ?_) <;> (try simp only [List.length_set, List.length_append, List.length_take, List.length_drop]) <;> omega)) | (rw [e]; rfl)
  · rename_i h0 Y0 p0 Y1 p1 v0 hv0 h1 v1 hv1 h2 v2 hv2 h3
    exact hv2.2.tok (by decide) rfl rfl rfl rfl
  · rename_i h0 Y0 p0 Y1 p1 v0 hv0 h1 v1 hv1 h2 v2 hv2 h3
    obtain ⟨b, y⟩ := v2
    exact cnt_sum hv2.2 (upto b) (inBlk (b : Int))
  · rename_i h0 Y0 p0 Y1 p1 v0 hv0 h1 v1 hv1 h2 v2 hv2 h3
    obtain ⟨b, y⟩ := v2
    have h3' : decide ((b : Int) < 8) = true := h3
    have h3' := of_decide_eq_true h3'
    exact inR_nat (N := 100) (i := b) (by omega) (by decide) 1 (by decide) (by decide)
  · rename_i h0 Y0 p0 Y1 p1 v0 hv0 h1 v1 hv1 h2 v2 hv2 h3
    obtain ⟨b, y⟩ := v2
    have h3' : decide ((b : Int) < 8) = true := h3
    have h3' := of_decide_eq_true h3'
    refine Stands.one (Nat.succ b, y) ⟨⟨by omega, hv2.2⟩, ?_, ?_⟩
    · show 8 - (b + 1) < 8 - b
      omega
    ((conv => (arg 1; reduce)); with_reducible repeat' (first | exact Tr.yes_h | refine Tr.and_h ?_ ?_ | refine Tr.imp_h fun _ => ?_ | refine Tr.all_h fun _ => ?_ | refine Tr.lf_h ?_))
    all_goals first | (first | first | (show Region.lexB _ _ = true; kernel_rfl) | (show planned _ _ = true; kernel_rfl) | exact rfl | exact True.intro | (first | exact key3 | exact key30 | exact zero3 | exact zero53 | exact eq30 | exact ⟨key3, zero53⟩ | exact ⟨key30, zero3⟩) | ((try dsimp only [imp, C0, cG, cInt, cPl, cSlot, cDo] at *); (try refine inR64 ?_ ?_) <;> (try simp only [List.length_set, List.length_append, List.length_take, List.length_drop]) <;> omega)) | exact upto_int b _ | exact (upto_int b _).symm
  · rename_i h0 Y0 p0 Y1 p1 v0 hv0 h1 v1 hv1 h2 v2 hv2 h3
    exact hv2.2.tok (by decide) rfl rfl rfl rfl
  · rename_i h0 Y0 p0 Y1 p1 v0 hv0 h1 v1 hv1 h2 v2 hv2 h3 Y2 p2
    refine Stands.one (0 : Nat) ⟨trivial, ?_⟩
    ((conv => (arg 1; reduce)); with_reducible repeat' (first | exact Tr.yes_h | refine Tr.and_h ?_ ?_ | refine Tr.imp_h fun _ => ?_ | refine Tr.all_h fun _ => ?_ | refine Tr.lf_h ?_))
    all_goals (first | first | (show Region.lexB _ _ = true; kernel_rfl) | (show planned _ _ = true; kernel_rfl) | exact rfl | exact True.intro | (first | exact key3 | exact key30 | exact zero3 | exact zero53 | exact eq30 | exact ⟨key3, zero53⟩ | exact ⟨key30, zero3⟩) | ((try dsimp only [imp, C0, cG, cInt, cPl, cSlot, cDo] at *); (try refine inR64 ?_ ?_) <;> (try simp only [List.length_set, List.length_append, List.length_take, List.length_drop]) <;> omega))
  · rename_i h0 Y0 p0 Y1 p1 v0 hv0 h1 v1 hv1 h2 v2 hv2 h3 Y2 p2 v3 hv3 h4
    change Nat at v3
    have h4' : decide ((v3 : Int) < 0) = true := h4
    have := of_decide_eq_true h4'
    omega
  · rename_i h0 Y0 p0 Y1 p1 v0 hv0 h1 v1 hv1 h2 v2 hv2 h3 Y2 p2 v3 hv3 h4
    obtain ⟨b, y⟩ := v2
    obtain ⟨i1, y1⟩ := v1
    have hN := two_len (n := 0) h0
    have h3' : decide ((b : Int) < 8) = false := h3
    have h3' := of_decide_eq_false h3'
    have hb : b = 8 := by have : b ≤ 8 := hv2.1; omega
    subst hb
    have e8 := hv2.2.upto8
    have e8' := congrArg (fun L : List Slot => (L.length : Int)) e8
    have hq : Tq 100 y1 := hv1.2.mono (Nat.le_trans hv1.1 hN.2)
    have p2 : tl (tz y) = [] := p2
    refine Stands.next (Stands.one (decide ((0 : Int) = ((tl (tz y1)).length : Int)), y, y1) ⟨⟨Nat.zero_le _, hv2.2, hq, ?_, ?_⟩, ?_⟩)
    · rw [p2, srtK_nil]
    · simp
    ((conv => (arg 1; reduce)); with_reducible repeat' (first | exact Tr.yes_h | refine Tr.and_h ?_ ?_ | refine Tr.imp_h fun _ => ?_ | refine Tr.all_h fun _ => ?_ | refine Tr.lf_h ?_))
    all_goals first | (first | first | (show Region.lexB _ _ = true; kernel_rfl) | (show planned _ _ = true; kernel_rfl) | exact rfl | exact True.intro | (first | exact key3 | exact key30 | exact zero3 | exact zero53 | exact eq30 | exact ⟨key3, zero53⟩ | exact ⟨key30, zero3⟩) | ((try dsimp only [imp, C0, cG, cInt, cPl, cSlot, cDo] at *); (try refine inR64 ?_ ?_) <;> (try simp only [List.length_set, List.length_append, List.length_take, List.length_drop]) <;> omega)) | exact e8' | exact e8'.symm
  · rename_i h0 Y0 p0 Y1 p1 v0 hv0 h1 v1 hv1 h2 v2 hv2 h3 Y2 p2 v3 hv3 h4 v4 hv4 h5 h6
    obtain ⟨b, y, y'⟩ := v4
    have h6' : (decide ((0 : Int) < 0) && (SB.tm b).val) = true := h6
    simp at h6'
  · rename_i h0 Y0 p0 Y1 p1 v0 hv0 h1 v1 hv1 h2 v2 hv2 h3 Y2 p2 v3 hv3 h4 v4 hv4 h5 h6 h7
    exact ⟨hv4.t.tok (by decide) rfl rfl rfl rfl, hv4.u.tok (by decide) rfl rfl rfl rfl⟩
  · rename_i h0 Y0 p0 Y1 p1 v0 hv0 h1 v1 hv1 h2 v2 hv2 h3 Y2 p2 v3 hv3 h4 v4 hv4 h5 h6 h7
    exact ⟨hv4.u.tok (by decide) rfl rfl rfl rfl, hv4.t.tok (by decide) rfl rfl rfl rfl⟩
  · rename_i h0 Y0 p0 Y1 p1 v0 hv0 h1 v1 hv1 h2 v2 hv2 h3 Y2 p2 v3 hv3 h4 v4 hv4 h5 h6 h7
    exact hv4.t.tok (by decide) rfl rfl rfl rfl
  · rename_i h0 Y0 p0 Y1 p1 v0 hv0 h1 v1 hv1 h2 v2 hv2 h3 Y2 p2 v3 hv3 h4 v4 hv4 h5 h6
    obtain ⟨b, y, y'⟩ := v4
    exact hv4.last h6 rfl rfl
  · rename_i h0 Y0 p0 Y1 p1 v0 hv0 h1 v1 hv1 h2 v2 hv2 h3 Y2 p2
    refine Stands.one (0 : Nat) ⟨trivial, ?_⟩
    ((conv => (arg 1; reduce)); with_reducible repeat' (first | exact Tr.yes_h | refine Tr.and_h ?_ ?_ | refine Tr.imp_h fun _ => ?_ | refine Tr.all_h fun _ => ?_ | refine Tr.lf_h ?_))
    all_goals (first | first | (show Region.lexB _ _ = true; kernel_rfl) | (show planned _ _ = true; kernel_rfl) | exact rfl | exact True.intro | (first | exact key3 | exact key30 | exact zero3 | exact zero53 | exact eq30 | exact ⟨key3, zero53⟩ | exact ⟨key30, zero3⟩) | ((try dsimp only [imp, C0, cG, cInt, cPl, cSlot, cDo] at *); (try refine inR64 ?_ ?_) <;> (try simp only [List.length_set, List.length_append, List.length_take, List.length_drop]) <;> omega))
  · rename_i h0 Y0 p0 Y1 p1 v0 hv0 h1 v1 hv1 h2 v2 hv2 h3 Y2 p2 v3 hv3 h4
    exact of_decide_eq_true h4
  · rename_i h0 Y0 p0 Y1 p1 v0 hv0 h1 v1 hv1 h2 v2 hv2 h3 Y2 p2 v3 hv3 h4
    change Nat at v3
    have h4' : decide ((v3 : Int) < (Y2.2.2.1.length : Int)) = true := h4
    have h4' := of_decide_eq_true h4'
    show (v3 : Int).toNat + 0 < (Y2.2.2.1 ++ Y2.2.2.2.2).length
    rw [List.length_append]
    omega
  · rename_i h0 Y0 p0 Y1 p1 v0 hv0 h1 v1 hv1 h2 v2 hv2 h3 Y2 p2 v3 hv3 h4
    exact hv2.2.rep.of rfl rfl rfl rfl
  · rename_i h0 Y0 p0 Y1 p1 v0 hv0 h1 v1 hv1 h2 v2 hv2 h3 Y2 p2 v3 hv3 h4 h5
    exact of_decide_eq_true h4
  · rename_i h0 Y0 p0 Y1 p1 v0 hv0 h1 v1 hv1 h2 v2 hv2 h3 Y2 p2 v3 hv3 h4 h5
    change Nat at v3
    have h4' : decide ((v3 : Int) < (Y2.2.2.1.length : Int)) = true := h4
    have h4' := of_decide_eq_true h4'
    show (v3 : Int).toNat + 0 < (Y2.2.2.1 ++ Y2.2.2.2.2).length
    rw [List.length_append]
    omega
  · rename_i h0 Y0 p0 Y1 p1 v0 hv0 h1 v1 hv1 h2 v2 hv2 h3 Y2 p2 v3 hv3 h4 h5 h6
    change Nat at v3
    have h4' : decide ((v3 : Int) < (Y2.2.2.1.length : Int)) = true := h4
    have h4' := of_decide_eq_true h4'
    have hlen : Y2.2.2.1.length ≤ 100 := by rw [p2.1.perm.length_eq]; exact hv2.2.len
    exact inR_nat (N := 100) (i := v3) (by omega) (by decide) (-1) (by decide) (by decide)
  · rename_i h0 Y0 p0 Y1 p1 v0 hv0 h1 v1 hv1 h2 v2 hv2 h3 Y2 p2 v3 hv3 h4 h5 h6
    change Nat at v3
    have h4' : decide ((v3 : Int) < (Y2.2.2.1.length : Int)) = true := h4
    have h4' := of_decide_eq_true h4'
    have h6' : decide (0 < (v3 : Int)) = true := h6
    have h6' := of_decide_eq_true h6'
    show 0 ≤ (v3 : Int) - 1
    omega
  · rename_i h0 Y0 p0 Y1 p1 v0 hv0 h1 v1 hv1 h2 v2 hv2 h3 Y2 p2 v3 hv3 h4 h5 h6
    change Nat at v3
    have h4' : decide ((v3 : Int) < (Y2.2.2.1.length : Int)) = true := h4
    have h4' := of_decide_eq_true h4'
    show (v3 : Int) - 1 < (Y2.2.2.1.length : Int)
    omega
  · rename_i h0 Y0 p0 Y1 p1 v0 hv0 h1 v1 hv1 h2 v2 hv2 h3 Y2 p2 v3 hv3 h4 h5 h6
    change Nat at v3
    have h4' : decide ((v3 : Int) < (Y2.2.2.1.length : Int)) = true := h4
    have h4' := of_decide_eq_true h4'
    show ((v3 : Int) - 1).toNat + 0 < (Y2.2.2.1 ++ Y2.2.2.2.2).length
    rw [List.length_append]
    omega
  · rename_i h0 Y0 p0 Y1 p1 v0 hv0 h1 v1 hv1 h2 v2 hv2 h3 Y2 p2 v3 hv3 h4 h5
    change Nat at v3
    have h4' : decide ((v3 : Int) < (Y2.2.2.1.length : Int)) = true := h4
    have h4' := of_decide_eq_true h4'
    exact (all_at hv2.2.rep.ok p2.1 (i := v3) (by omega) h5).elim
  · rename_i h0 Y0 p0 Y1 p1 v0 hv0 h1 v1 hv1 h2 v2 hv2 h3 Y2 p2 v3 hv3 h4 h5
    change Nat at v3
    have h4' : decide ((v3 : Int) < (Y2.2.2.1.length : Int)) = true := h4
    have h4' := of_decide_eq_true h4'
    have hlen : Y2.2.2.1.length ≤ 100 := by rw [p2.1.perm.length_eq]; exact hv2.2.len
    exact inR_nat (N := 100) (i := v3) (by omega) (by decide) 1 (by decide) (by decide)
  · rename_i h0 Y0 p0 Y1 p1 v0 hv0 h1 v1 hv1 h2 v2 hv2 h3 Y2 p2 v3 hv3 h4 h5
    change Nat at v3
    have h4' : decide ((v3 : Int) < (Y2.2.2.1.length : Int)) = true := h4
    have h4' := of_decide_eq_true h4'
    have hlen : Y2.2.2.1.length ≤ 100 := by rw [p2.1.perm.length_eq]; exact hv2.2.len
    refine Stands.one (Nat.succ v3) ⟨trivial, ?_, ?_⟩
    · show 1000 - (v3 + 1) < 1000 - v3
      omega
    ((conv => (arg 1; reduce)); with_reducible repeat' (first | exact Tr.yes_h | refine Tr.and_h ?_ ?_ | refine Tr.imp_h fun _ => ?_ | refine Tr.all_h fun _ => ?_ | refine Tr.lf_h ?_))
    all_goals (first | first | (show Region.lexB _ _ = true; kernel_rfl) | (show planned _ _ = true; kernel_rfl) | exact rfl | exact True.intro | (first | exact key3 | exact key30 | exact zero3 | exact zero53 | exact eq30 | exact ⟨key3, zero53⟩ | exact ⟨key30, zero3⟩) | ((try dsimp only [imp, C0, cG, cInt, cPl, cSlot, cDo] at *); (try refine inR64 ?_ ?_) <;> (try simp only [List.length_set, List.length_append, List.length_take, List.length_drop]) <;> omega))
  · rename_i h0 Y0 p0 Y1 p1 v0 hv0 h1 v1 hv1 h2 v2 hv2 h3 Y2 p2 v3 hv3 h4
    obtain ⟨b, y⟩ := v2
    obtain ⟨i1, y1⟩ := v1
    have hN := two_len (n := 0) h0
    have h3' : decide ((b : Int) < 8) = false := h3
    have h3' := of_decide_eq_false h3'
    have hb : b = 8 := by have : b ≤ 8 := hv2.1; omega
    subst hb
    have e8 := hv2.2.upto8
    have e8' := congrArg (fun L : List Slot => (L.length : Int)) e8
    have hq : Tq 100 y1 := hv1.2.mono (Nat.le_trans hv1.1 hN.2)
    have el : Y2.2.2.1 = srtK (tl (tz y)) := srtK_one hv2.2.rep.ok p2.1
    refine Stands.one (0, decide ((Y2.2.2.1.length : Int) = ((tl (tz y1)).length : Int)), y, y1, Y2.2.2.1, Y2.2.2.2.2, Y2.2.2.2.1) ⟨⟨Nat.zero_le _, hv2.2, hq, el, ?_⟩, ?_⟩
    · simp
    ((conv => (arg 1; reduce)); with_reducible repeat' (first | exact Tr.yes_h | refine Tr.and_h ?_ ?_ | refine Tr.imp_h fun _ => ?_ | refine Tr.all_h fun _ => ?_ | refine Tr.lf_h ?_))
    all_goals first | (first | first | (show Region.lexB _ _ = true; kernel_rfl) | (show planned _ _ = true; kernel_rfl) | exact rfl | exact True.intro | (first | exact key3 | exact key30 | exact zero3 | exact zero53 | exact eq30 | exact ⟨key3, zero53⟩ | exact ⟨key30, zero3⟩) | ((try dsimp only [imp, C0, cG, cInt, cPl, cSlot, cDo] at *); (try refine inR64 ?_ ?_) <;> (try simp only [List.length_set, List.length_append, List.length_take, List.length_drop]) <;> omega)) | exact e8' | exact e8'.symm
  · rename_i h0 Y0 p0 Y1 p1 v0 hv0 h1 v1 hv1 h2 v2 hv2 h3 Y2 p2 v3 hv3 h4 v4 hv4 h5 h6
    obtain ⟨i, b, y, y', l4, sp, cap⟩ := v4
    have hi : i < l4.length := Sy.lt (b := b) h6
    show (i : Int) < (l4.length : Int)
    omega
  · rename_i h0 Y0 p0 Y1 p1 v0 hv0 h1 v1 hv1 h2 v2 hv2 h3 Y2 p2 v3 hv3 h4 v4 hv4 h5 h6
    obtain ⟨i, b, y, y', l4, sp, cap⟩ := v4
    have hi : i < l4.length := Sy.lt (b := b) h6
    show (i : Int).toNat + 0 < (l4 ++ sp).length
    rw [List.length_append]
    omega
  · rename_i h0 Y0 p0 Y1 p1 v0 hv0 h1 v1 hv1 h2 v2 hv2 h3 Y2 p2 v3 hv3 h4 v4 hv4 h5 h6
    exact hv4.u.rep.of rfl rfl rfl rfl
  · rename_i h0 Y0 p0 Y1 p1 v0 hv0 h1 v1 hv1 h2 v2 hv2 h3 Y2 p2 v3 hv3 h4 v4 hv4 h5 h6 b0 h7
    obtain ⟨i, b, y, y', l4, sp, cap⟩ := v4
    have hi : i < l4.length := Sy.lt (b := b) h6
    show (i : Int) < (l4.length : Int)
    omega
  · rename_i h0 Y0 p0 Y1 p1 v0 hv0 h1 v1 hv1 h2 v2 hv2 h3 Y2 p2 v3 hv3 h4 v4 hv4 h5 h6 b0 h7
    obtain ⟨i, b, y, y', l4, sp, cap⟩ := v4
    have hi : i < l4.length := Sy.lt (b := b) h6
    show (i : Int).toNat + 0 < (l4 ++ sp).length
    rw [List.length_append]
    omega
  · rename_i h0 Y0 p0 Y1 p1 v0 hv0 h1 v1 hv1 h2 v2 hv2 h3 Y2 p2 v3 hv3 h4 v4 hv4 h5 h6 b0 h7
    obtain ⟨i, b, y, y', l4, sp, cap⟩ := v4
    have hi : i < l4.length := Sy.lt (b := b) h6
    show (i : Int) < (l4.length : Int)
    omega
  · rename_i h0 Y0 p0 Y1 p1 v0 hv0 h1 v1 hv1 h2 v2 hv2 h3 Y2 p2 v3 hv3 h4 v4 hv4 h5 h6 b0 h7
    obtain ⟨i, b, y, y', l4, sp, cap⟩ := v4
    have hi : i < l4.length := Sy.lt (b := b) h6
    show (i : Int).toNat + 0 < (l4 ++ sp).length
    rw [List.length_append]
    omega
  · rename_i h0 Y0 p0 Y1 p1 v0 hv0 h1 v1 hv1 h2 v2 hv2 h3 Y2 p2 v3 hv3 h4 v4 hv4 h5 h6 b0 h7
    obtain ⟨i, b, y, y', l4, sp, cap⟩ := v4
    have hi : i < l4.length := Sy.lt (b := b) h6
    show (i : Int) < (l4.length : Int)
    omega
  · rename_i h0 Y0 p0 Y1 p1 v0 hv0 h1 v1 hv1 h2 v2 hv2 h3 Y2 p2 v3 hv3 h4 v4 hv4 h5 h6 b0 h7
    obtain ⟨i, b, y, y', l4, sp, cap⟩ := v4
    have hi : i < l4.length := Sy.lt (b := b) h6
    show (i : Int).toNat + 0 < (l4 ++ sp).length
    rw [List.length_append]
    omega
  · rename_i h0 Y0 p0 Y1 p1 v0 hv0 h1 v1 hv1 h2 v2 hv2 h3 Y2 p2 v3 hv3 h4 v4 hv4 h5 h6 b0
    obtain ⟨i, b, y, y', l4, sp, cap⟩ := v4
    have hi : i < l4.length := Sy.lt (b := b) h6
    have hlen : l4.length ≤ 100 := by rw [hv4.el, (srtK_srt _).perm.length_eq]; exact hv4.t.len
    exact inR_nat (N := 100) (i := i) (by omega) (by decide) 1 (by decide) (by decide)
  · rename_i h0 Y0 p0 Y1 p1 v0 hv0 h1 v1 hv1 h2 v2 hv2 h3 Y2 p2 v3 hv3 h4 v4 hv4 h5 h6 b0
    obtain ⟨i, b, y, y', l4, sp, cap⟩ := v4
    have hi : i < l4.length := Sy.lt (b := b) h6
    refine Stands.one (Nat.succ i, good (tl (tz y')) ((l4 ++ sp).getD ((i : Int).toNat + 0) slot0), y, y', l4, sp, cap) ⟨hv4.next h6, ?_, ?_⟩
    · show l4.length - (i + 1) < l4.length - i
      omega
    ((conv => (arg 1; reduce)); with_reducible repeat' (first | exact Tr.yes_h | refine Tr.and_h ?_ ?_ | refine Tr.imp_h fun _ => ?_ | refine Tr.all_h fun _ => ?_ | refine Tr.lf_h ?_))
    all_goals (first | first | (show Region.lexB _ _ = true; kernel_rfl) | (show planned _ _ = true; kernel_rfl) | exact rfl | exact True.intro | (first | exact key3 | exact key30 | exact zero3 | exact zero53 | exact eq30 | exact ⟨key3, zero53⟩ | exact ⟨key30, zero3⟩) | ((try dsimp only [imp, C0, cG, cInt, cPl, cSlot, cDo] at *); (try refine inR64 ?_ ?_) <;> (try simp only [List.length_set, List.length_append, List.length_take, List.length_drop]) <;> omega))
  · rename_i h0 Y0 p0 Y1 p1 v0 hv0 h1 v1 hv1 h2 v2 hv2 h3 Y2 p2 v3 hv3 h4 v4 hv4 h5 h6 h7
    exact ⟨hv4.t.tok (by decide) rfl rfl rfl rfl, hv4.u.tok (by decide) rfl rfl rfl rfl⟩
  · rename_i h0 Y0 p0 Y1 p1 v0 hv0 h1 v1 hv1 h2 v2 hv2 h3 Y2 p2 v3 hv3 h4 v4 hv4 h5 h6 h7
    exact ⟨hv4.u.tok (by decide) rfl rfl rfl rfl, hv4.t.tok (by decide) rfl rfl rfl rfl⟩
  · rename_i h0 Y0 p0 Y1 p1 v0 hv0 h1 v1 hv1 h2 v2 hv2 h3 Y2 p2 v3 hv3 h4 v4 hv4 h5 h6 h7
    exact hv4.t.tok (by decide) rfl rfl rfl rfl
  · rename_i h0 Y0 p0 Y1 p1 v0 hv0 h1 v1 hv1 h2 v2 hv2 h3 Y2 p2 v3 hv3 h4 v4 hv4 h5 h6
    obtain ⟨i, b, y, y', l4, sp, cap⟩ := v4
    exact hv4.last h6 rfl rfl
end Go.Vx
