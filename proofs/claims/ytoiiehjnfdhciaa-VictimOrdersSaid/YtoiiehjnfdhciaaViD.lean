/-
  Round 21: blocks made for the program; the queue built.
  Conditions: none.
-/
import Derived.Test.YtoiiehjnfdhciaaViC
set_option maxRecDepth 100000
set_option linter.unusedVariables false
set_option linter.unusedSimpArgs false
namespace Go.Vi
open Go Go.Vx Go.Proofs

theorem by27 : Try.prog.types[27].bytes = 32 := by kernel_rfl
theorem by57 : Try.prog.types[57].bytes = 40 := by kernel_rfl
abbrev z0 : Blk := (0, 0, 0, false)
theorem take_snoc {α : Type} {l : List α} {d : α} {n : Nat} (h : n < l.length) : l.take (n + 1) = l.take n ++ [l.getD n d] := Hg.take_last h
/-- One more laid behind a list of which the first n are told. -/
theorem grow {α : Type} {l a sp : List α} {x d : α} {n : Nat} (hn : n ≤ l.length) (hl : l.take n = a.take n) (ha : n < a.length) (hx : x = a.getD n d) : (l.take n ++ [x] ++ sp).take (n + 1) = a.take (n + 1) := by
  rw [List.take_append_of_le_length (by simp; omega), List.take_of_length_le (by simp; omega), hl, hx, ← take_snoc ha]

def Ma (N : Nat) : Inv' C1 := ⟨3, Unit, fun _ => [(4, .int .i64 0), (3, .nils)], fun _ m => m, fun _ => True, fun _ => N + 1⟩
def Mb (bl : List Blk) (N : Nat) : Inv' C1 := ⟨3, Nat × Nat × List Blk × Nat × Nat, fun x => [(4, .int .i64 x.2.2.2.2), (3, .sl 1 0 x.2.2.2.2 x.2.2.2.1)], fun x m => m ++ [⟨x.1, x.2.1, 4, true, none, .rows 27 x.2.2.1⟩],
  fun x => 0 < x.2.2.2.2 ∧ x.2.2.2.2 ≤ N ∧ x.2.2.2.2 ≤ x.2.2.2.1 ∧ x.2.2.2.1 ≤ x.2.2.1.length ∧ x.2.2.1.take x.2.2.2.2 = bl.take x.2.2.2.2, fun x => N - x.2.2.2.2⟩
set_option maxHeartbeats 4000000 in
theorem made_ok (b q : Nat) (bl : List Blk) (N m : Nat) (hN : N ≤ bl.length) (hb : N < 1048576) :
    Does (C := C1) Try.prog (.fn 7) [⟨b, q, 4, false, none, .rows 39 bl⟩] [.sl 0 0 N m]
     [⟨Unit, fun _ => N = 0, fun _ => .nils, fun _ => [⟨b, q, 4, false, none, .rows 39 bl⟩]⟩,
      ⟨Nat × Nat × List Blk × Nat, fun y => 0 < N ∧ N ≤ y.2.2.2 ∧ y.2.2.2 ≤ y.2.2.1.length ∧ y.2.2.1.take N = bl.take N, fun y => .sl 1 0 N y.2.2.2, fun y => [⟨b, q, 4, false, none, .rows 39 bl⟩, ⟨y.1, y.2.1, 4, true, none, .rows 27 y.2.2.1⟩]⟩] := by
  refine loc_fn (P := Try.prog) (E := ⟨[], [], 36, [(5, [], [.p 0, .p 1, .p 2, .p 3, .p 4, .p 6, .p 7, .p 8, .p 9, .p 11, .p 12, .p 13, .p 14, .p 16, .p 17, .p 18, .p 19, .q 5, .q 10, .q 15, .q 20, .p 21, .e 22, .e 23, .p 24])]⟩) (L := [Ma N, Mb bl N]) mix Try.func7 rfl (by kernel_rfl) (by kernel_rfl) rfl rfl ?_
  ((conv => (arg 1; reduce)); with_reducible repeat' (first | exact Tr.yes_h | refine Tr.and_h ?_ ?_ | refine Tr.imp_h fun _ => ?_ | refine Tr.all_h fun _ => ?_ | refine Tr.lf_h ?_))
  all_goals try first | (show Region.lexB _ _ = true; kernel_rfl) | (show planned _ _ = true; kernel_rfl) | exact rfl | exact True.intro
  all_goals try exact absurd ‹(1 : Nat) = 0› (by decide)
  all_goals try (have h3 : (0 : Int) < (N : Int) := of_decide_eq_true ‹decide ((0 : Int) < (N : Int)) = true›; omega)
  all_goals try (obtain ⟨g1, g2, g3, g4, g5⟩ := (‹(Mb bl N).inv _› : (Mb bl N).inv _); have h3 : _ < (N : Int) := of_decide_eq_true ‹decide (_ < (N : Int)) = true›; first | omega | exact inR64 (by omega) (by omega))
  · refine Stands.one () ⟨trivial, ?_⟩
    ((conv => (arg 1; reduce)); with_reducible repeat' (first | exact Tr.yes_h | refine Tr.and_h ?_ ?_ | refine Tr.imp_h fun _ => ?_ | refine Tr.all_h fun _ => ?_ | refine Tr.lf_h ?_))
    all_goals (first | first | (show Region.lexB _ _ = true; kernel_rfl) | (show planned _ _ = true; kernel_rfl) | exact rfl | exact True.intro | ((try dsimp only [imp, C1, cBlk, cItm] at *); (try refine inR64 ?_ ?_) <;> (try simp only [List.length_set, List.length_append, List.length_take, List.length_drop]) <;> omega))
  · rw [by27]; exact ⟨Nat.le_refl 1, by decide⟩
  · rename_i x hx hc bs h1 b2 sp
    have hc := of_decide_eq_true hc
    refine Stands.next (Stands.one (b2, 0, List.append [bl.getD 0 z0] sp, 1 + sp.length, 1) ⟨⟨Nat.one_pos, by show 1 ≤ N; omega, Nat.le_add_right _ _, by simp; omega, ?_⟩, ?_, ?_⟩)
    · exact grow (a := bl) (l := []) (n := 0) (x := bl.getD 0 z0) (d := z0) (sp := sp) (Nat.zero_le _) (by simp) (by omega) rfl
    · show N - 1 < N + 1; omega
    · ((conv => (arg 1; reduce)); with_reducible repeat' (first | exact Tr.yes_h | refine Tr.and_h ?_ ?_ | refine Tr.imp_h fun _ => ?_ | refine Tr.all_h fun _ => ?_ | refine Tr.lf_h ?_))
      all_goals (first | first | (show Region.lexB _ _ = true; kernel_rfl) | (show planned _ _ = true; kernel_rfl) | exact rfl | exact True.intro | ((try dsimp only [imp, C1, cBlk, cItm] at *); (try refine inR64 ?_ ?_) <;> (try simp only [List.length_set, List.length_append, List.length_take, List.length_drop]) <;> omega))
  · rename_i x hx hc
    have hc := of_decide_eq_false hc
    refine Ends.one () (by omega) ?_
    ((conv => (arg 1; reduce)); with_reducible repeat' (first | exact Tr.yes_h | refine Tr.and_h ?_ ?_ | refine Tr.imp_h fun _ => ?_ | refine Tr.all_h fun _ => ?_ | refine Tr.lf_h ?_))
    all_goals (first | first | (show Region.lexB _ _ = true; kernel_rfl) | (show planned _ _ = true; kernel_rfl) | exact rfl | exact True.intro | ((try dsimp only [imp, C1, cBlk, cItm] at *); (try refine inR64 ?_ ?_) <;> (try simp only [List.length_set, List.length_append, List.length_take, List.length_drop]) <;> omega))
  · rename_i x hx hc bs
    obtain ⟨g1, g2, g3, g4, g5⟩ := hx
    have hc := of_decide_eq_true hc
    rw [by27]
    exact ⟨g3, by rw [Nat.zero_add]; exact g4, Nat.le_refl 1, by omega⟩
  · rename_i x hx hc bs b2 base2 sp cap h1 h2
    obtain ⟨g1, g2, g3, g4, g5⟩ := hx
    have hc := of_decide_eq_true hc
    refine Stands.next (Stands.one (b2, base2, List.append (x.2.2.1.take x.2.2.2.2 ++ [bl.getD x.2.2.2.2 z0]) sp, cap, x.2.2.2.2 + 1) ⟨⟨Nat.succ_pos _, by show x.2.2.2.2 + 1 ≤ N; omega, h1, ?_, ?_⟩, ?_, ?_⟩)
    · show cap ≤ (x.2.2.1.take x.2.2.2.2 ++ [bl.getD x.2.2.2.2 z0] ++ sp).length
      simp; omega
    · exact grow (by omega) g5 (by omega) rfl
    · show N - (x.2.2.2.2 + 1) < N - x.2.2.2.2; omega
    · ((conv => (arg 1; reduce)); with_reducible repeat' (first | exact Tr.yes_h | refine Tr.and_h ?_ ?_ | refine Tr.imp_h fun _ => ?_ | refine Tr.all_h fun _ => ?_ | refine Tr.lf_h ?_))
      all_goals (first | first | (show Region.lexB _ _ = true; kernel_rfl) | (show planned _ _ = true; kernel_rfl) | exact rfl | exact True.intro | ((try dsimp only [imp, C1, cBlk, cItm] at *); (try refine inR64 ?_ ?_) <;> (try simp only [List.length_set, List.length_append, List.length_take, List.length_drop]) <;> omega))
  · rename_i x hx hc
    obtain ⟨g1, g2, g3, g4, g5⟩ := hx
    have hc := of_decide_eq_false hc
    have e : x.2.2.2.2 = N := by omega
    rw [e] at g3 g5
    refine Ends.next (Ends.one (x.1, x.2.1, x.2.2.1, x.2.2.2.1) ⟨by omega, g3, g4, g5⟩ ?_)
    ((conv => (arg 1; reduce)); with_reducible repeat' (first | exact Tr.yes_h | refine Tr.and_h ?_ ?_ | refine Tr.imp_h fun _ => ?_ | refine Tr.all_h fun _ => ?_ | refine Tr.lf_h ?_))
    all_goals first | (first | first | (show Region.lexB _ _ = true; kernel_rfl) | (show planned _ _ = true; kernel_rfl) | exact rfl | exact True.intro | ((try dsimp only [imp, C1, cBlk, cItm] at *); (try refine inR64 ?_ ?_) <;> (try simp only [List.length_set, List.length_append, List.length_take, List.length_drop]) <;> omega)) | exact e | exact e.symm
end Go.Vi
