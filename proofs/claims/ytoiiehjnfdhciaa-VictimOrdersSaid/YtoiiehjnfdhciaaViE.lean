/-
  Round 21: the queue of blocks.
  Conditions: none.
-/
import Derived.Test.YtoiiehjnfdhciaaViD
set_option maxRecDepth 100000
set_option linter.unusedVariables false
set_option linter.unusedSimpArgs false
namespace Go.Vi
open Go Go.Vx Go.Proofs

theorem made_nil : Does (C := C1) Try.prog (.fn 7) [] [.nils] [⟨Unit, fun _ => True, fun _ => .nils, fun _ => []⟩] := by
  refine loc_fn (P := Try.prog) (E := ⟨[], [], 36, [(5, [], [.p 0, .p 1, .p 2, .p 3, .p 4, .p 6, .p 7, .p 8, .p 9, .p 11, .p 12, .p 13, .p 14, .p 16, .p 17, .p 18, .p 19, .q 5, .q 10, .q 15, .q 20, .p 21, .e 22, .e 23, .p 24])]⟩) (L := [Ma 0]) mix Try.func7 rfl (by kernel_rfl) (by kernel_rfl) rfl rfl ?_
  ((conv => (arg 1; reduce)); with_reducible repeat' (first | exact Tr.yes_h | refine Tr.and_h ?_ ?_ | refine Tr.imp_h fun _ => ?_ | refine Tr.all_h fun _ => ?_ | refine Tr.lf_h ?_))
  all_goals try first | (show Region.lexB _ _ = true; kernel_rfl) | (show planned _ _ = true; kernel_rfl) | exact rfl | exact True.intro
  all_goals try (have h3 : (0 : Int) < 0 := of_decide_eq_true ‹decide ((0 : Int) < 0) = true›; omega)
  · refine Stands.one () ⟨trivial, ?_⟩
    ((conv => (arg 1; reduce)); with_reducible repeat' (first | exact Tr.yes_h | refine Tr.and_h ?_ ?_ | refine Tr.imp_h fun _ => ?_ | refine Tr.all_h fun _ => ?_ | refine Tr.lf_h ?_))
    all_goals (first | first | (show Region.lexB _ _ = true; kernel_rfl) | (show planned _ _ = true; kernel_rfl) | exact rfl | exact True.intro | ((try dsimp only [imp, C1, cBlk, cItm] at *); (try refine inR64 ?_ ?_) <;> (try simp only [List.length_set, List.length_append, List.length_take, List.length_drop]) <;> omega))
  · refine Ends.one () trivial ?_
    ((conv => (arg 1; reduce)); with_reducible repeat' (first | exact Tr.yes_h | refine Tr.and_h ?_ ?_ | refine Tr.imp_h fun _ => ?_ | refine Tr.all_h fun _ => ?_ | refine Tr.lf_h ?_))
    all_goals (first | first | (show Region.lexB _ _ = true; kernel_rfl) | (show planned _ _ = true; kernel_rfl) | exact rfl | exact True.intro | ((try dsimp only [imp, C1, cBlk, cItm] at *); (try refine inR64 ?_ ?_) <;> (try simp only [List.length_set, List.length_append, List.length_take, List.length_drop]) <;> omega))

/-- The blocks with their places. -/
abbrev itms (bl : List Blk) (i : Nat) : List Itm := (List.range i).map fun k => (bl.getD k z0, (k : Int))
theorem itms_succ (bl : List Blk) (i : Nat) : itms bl (i + 1) = itms bl i ++ [(bl.getD i z0, (i : Int))] := by simp [itms, List.range_succ]
theorem itms_len (bl : List Blk) (i : Nat) : (itms bl i).length = i := by simp [itms]
theorem snoc_itms {bl : List Blk} {l sp : List Itm} {n : Nat} (h : l.take n = itms bl n) (hn : n ≤ l.length) : (l.take n ++ [(bl.getD n z0, (n : Int))] ++ sp).take (n + 1) = itms bl (n + 1) := by
  rw [List.take_append_of_le_length (by simp; omega), List.take_of_length_le (by simp; omega), h, itms_succ]
def Oa (N : Nat) : Inv' C1 := ⟨3, Unit, fun _ => [(12, .int .i64 0)], fun _ m => m, fun _ => True, fun _ => N + 1⟩
/-- The queue's variable with its array. -/
abbrev wQ (b base : Nat) (l : List Itm) (n c : Nat) (m : List (Ck C1)) : List (Ck C1) := setCk m 1 (.one [.sl 2 0 n c, lsSV]) ++ [⟨b, base, 5, true, none, .rows 57 l⟩]
def Ob (bl : List Blk) (N : Nat) : Inv' C1 := ⟨3, Nat × Nat × List Itm × Nat × Nat, fun x => [(12, .int .i64 x.2.2.2.2)], fun x m => wQ x.1 x.2.1 x.2.2.1 x.2.2.2.2 x.2.2.2.1 m,
  fun x => 0 < x.2.2.2.2 ∧ x.2.2.2.2 ≤ N ∧ x.2.2.2.2 ≤ x.2.2.2.1 ∧ x.2.2.2.1 ≤ x.2.2.1.length ∧ x.2.2.1.take x.2.2.2.2 = itms bl x.2.2.2.2, fun x => N - x.2.2.2.2⟩
/-- A queue as it lies: the one pointer; the variable; the array. -/
def qq (bb bq bp q b base : Nat) (w : Bool) (l : List Itm) (n c : Nat) : List (Ck C1) :=
  [⟨bb, bq, 1, false, none, .one [.ptr 1 0 0]⟩, ⟨bp, q, 2, w, none, .one [.sl 2 0 n c, lsSV]⟩, ⟨b, base, 5, w, none, .rows 57 l⟩]
/-- A heap of just these. -/
abbrev hOf (its : List Itm) (l : List Itm) (n c : Nat) : Prop := Hg.HOK d0 lessI l n c ∧ (l.take n).Perm its
set_option maxHeartbeats 4000000 in
theorem of_ok (b q : Nat) (bl : List Blk) (N m : Nat) (hN : N ≤ bl.length) (hb : N < 1048576) :
    Does (C := C1) Try.prog (.fn 8) [⟨b, q, 4, false, none, .rows 27 bl⟩] [.sl 0 0 N m]
     [⟨Nat × Nat × Nat × Nat, fun y => N = 0, fun y => .ptr 1 0 0, fun y => [⟨b, q, 4, false, none, .rows 27 bl⟩, ⟨y.1, y.2.1, 1, true, none, .one [.ptr 2 0 0]⟩, ⟨y.2.2.1, y.2.2.2, 2, true, none, .one [.nils, lsSV]⟩]⟩,
      ⟨Nat × Nat × Nat × Nat × Nat × Nat × List Itm × Nat, fun y => 0 < N ∧ hOf (itms bl N) y.2.2.2.2.2.2.1 N y.2.2.2.2.2.2.2, fun y => .ptr 1 0 0,
        fun y => [⟨b, q, 4, false, none, .rows 27 bl⟩, ⟨y.1, y.2.1, 1, true, none, .one [.ptr 2 0 0]⟩, ⟨y.2.2.1, y.2.2.2.1, 2, true, none, .one [.sl 3 0 N y.2.2.2.2.2.2.2, lsSV]⟩, ⟨y.2.2.2.2.1, y.2.2.2.2.2.1, 5, true, none, .rows 57 y.2.2.2.2.2.2.1⟩]⟩] := by
  refine loc_fn (P := Try.prog) (E := ⟨[fcInit, fcInit0], [], 36, [(5, [1], [.p 0, .p 1, .p 2, .p 3, .p 4, .p 6, .q 5, .p 7, .e 8, .e 9, .p 10, .p 11, .f 12])]⟩) (L := [Oa N, Ob bl N]) mix Try.func8 rfl (by kernel_rfl) (by kernel_rfl) rfl rfl ?_
  ((conv => (arg 1; reduce)); with_reducible repeat' (first | exact Tr.yes_h | refine Tr.and_h ?_ ?_ | refine Tr.imp_h fun _ => ?_ | refine Tr.all_h fun _ => ?_ | refine Tr.lf_h ?_))
  all_goals try first | (show Region.lexB _ _ = true; kernel_rfl) | (show planned _ _ = true; kernel_rfl) | exact rfl | exact True.intro
  all_goals try exact absurd ‹(1 : Nat) = 0› (by decide)
  all_goals try (have h3 : (0 : Int) < (N : Int) := of_decide_eq_true ‹decide ((0 : Int) < (N : Int)) = true›; omega)
  all_goals try (obtain ⟨g1, g2, g3, g4, g5⟩ := (‹(Ob bl N).inv _› : (Ob bl N).inv _); have h3 : _ < (N : Int) := of_decide_eq_true ‹decide (_ < (N : Int)) = true›; first | omega | exact inR64 (by omega) (by omega))
  · refine Stands.one () ⟨trivial, ?_⟩
    ((conv => (arg 1; reduce)); with_reducible repeat' (first | exact Tr.yes_h | refine Tr.and_h ?_ ?_ | refine Tr.imp_h fun _ => ?_ | refine Tr.all_h fun _ => ?_ | refine Tr.lf_h ?_))
    all_goals (first | first | (show Region.lexB _ _ = true; kernel_rfl) | (show planned _ _ = true; kernel_rfl) | exact rfl | exact True.intro | ((try dsimp only [imp, C1, cBlk, cItm] at *); (try refine inR64 ?_ ?_) <;> (try simp only [List.length_set, List.length_append, List.length_take, List.length_drop]) <;> omega))
  · rw [by57]; exact ⟨Nat.le_refl 1, by decide⟩
  · rename_i q1 x hx hc b2 bx h1 bs sp
    have hc := of_decide_eq_true hc
    refine Stands.next (Stands.one (bs, 0, List.append [(bl.getD 0 z0, 0)] sp, 1 + sp.length, 1) ⟨⟨Nat.one_pos, by show 1 ≤ N; omega, Nat.le_add_right _ _, by simp; omega, ?_⟩, ?_, ?_⟩)
    · exact snoc_itms (l := []) (n := 0) (sp := sp) rfl (Nat.zero_le _)
    · show N - 1 < N + 1; omega
    · ((conv => (arg 1; reduce)); with_reducible repeat' (first | exact Tr.yes_h | refine Tr.and_h ?_ ?_ | refine Tr.imp_h fun _ => ?_ | refine Tr.all_h fun _ => ?_ | refine Tr.lf_h ?_))
      all_goals (first | first | (show Region.lexB _ _ = true; kernel_rfl) | (show planned _ _ = true; kernel_rfl) | exact rfl | exact True.intro | ((try dsimp only [imp, C1, cBlk, cItm] at *); (try refine inR64 ?_ ?_) <;> (try simp only [List.length_set, List.length_append, List.length_take, List.length_drop]) <;> omega))
  · rename_i q1 x hx hc u hu b2
    have hc := of_decide_eq_false hc
    refine Ends.one (b2, 0, q1, 0) (by show N = 0; omega) ?_
    ((conv => (arg 1; reduce)); with_reducible repeat' (first | exact Tr.yes_h | refine Tr.and_h ?_ ?_ | refine Tr.imp_h fun _ => ?_ | refine Tr.all_h fun _ => ?_ | refine Tr.lf_h ?_))
    all_goals (first | first | (show Region.lexB _ _ = true; kernel_rfl) | (show planned _ _ = true; kernel_rfl) | exact rfl | exact True.intro | ((try dsimp only [imp, C1, cBlk, cItm] at *); (try refine inR64 ?_ ?_) <;> (try simp only [List.length_set, List.length_append, List.length_take, List.length_drop]) <;> omega))
  · rename_i q1 x hx hc bs bx
    obtain ⟨g1, g2, g3, g4, g5⟩ := hx
    have hc := of_decide_eq_true hc
    rw [by57]
    exact ⟨g3, by rw [Nat.zero_add]; exact g4, Nat.le_refl 1, by omega⟩
  · rename_i q1 x hx hc bs bx b2 base2 sp cap h1 h2
    obtain ⟨g1, g2, g3, g4, g5⟩ := hx
    have hc := of_decide_eq_true hc
    refine Stands.next (Stands.one (b2, base2, List.append (x.2.2.1.take x.2.2.2.2 ++ [(bl.getD x.2.2.2.2 z0, (x.2.2.2.2 : Int))]) sp, cap, x.2.2.2.2 + 1) ⟨⟨Nat.succ_pos _, by show x.2.2.2.2 + 1 ≤ N; omega, h1, ?_, ?_⟩, ?_, ?_⟩)
    · show cap ≤ (x.2.2.1.take x.2.2.2.2 ++ [(bl.getD x.2.2.2.2 z0, (x.2.2.2.2 : Int))] ++ sp).length
      simp; omega
    · exact snoc_itms g5 (by omega)
    · show N - (x.2.2.2.2 + 1) < N - x.2.2.2.2; omega
    · ((conv => (arg 1; reduce)); with_reducible repeat' (first | exact Tr.yes_h | refine Tr.and_h ?_ ?_ | refine Tr.imp_h fun _ => ?_ | refine Tr.all_h fun _ => ?_ | refine Tr.lf_h ?_))
      all_goals (first | first | (show Region.lexB _ _ = true; kernel_rfl) | (show planned _ _ = true; kernel_rfl) | exact rfl | exact True.intro | ((try dsimp only [imp, C1, cBlk, cItm] at *); (try refine inR64 ?_ ?_) <;> (try simp only [List.length_set, List.length_append, List.length_take, List.length_drop]) <;> omega))
  · rename_i q1 x hx hc
    obtain ⟨g1, g2, g3, g4, g5⟩ := hx
    exact ⟨g3, g4, by show x.2.2.2.2 < _; omega⟩
  · rename_i q1 x hx hc y hy b2
    obtain ⟨g1, g2, g3, g4, g5⟩ := hx
    have hc := of_decide_eq_false hc
    have e : x.2.2.2.2 = N := by omega
    obtain ⟨k1, k2⟩ := (hy : Hg.Same d0 x.2.2.1 y x.2.2.2.2 ∧ Hg.HeapL d0 lessI y x.2.2.2.2)
    rw [e] at g3 g5 k1 k2
    refine Ends.next (Ends.one (b2, 0, q1, 0, x.1, x.2.1, y, x.2.2.2.1) ⟨by omega, ⟨⟨g3, by rw [k1.1]; exact g4, k2⟩, by rw [← g5]; exact k1.take⟩⟩ ?_)
    ((conv => (arg 1; reduce)); with_reducible repeat' (first | exact Tr.yes_h | refine Tr.and_h ?_ ?_ | refine Tr.imp_h fun _ => ?_ | refine Tr.all_h fun _ => ?_ | refine Tr.lf_h ?_))
    all_goals first | (first | first | (show Region.lexB _ _ = true; kernel_rfl) | (show planned _ _ = true; kernel_rfl) | exact rfl | exact True.intro | ((try dsimp only [imp, C1, cBlk, cItm] at *); (try refine inR64 ?_ ?_) <;> (try simp only [List.length_set, List.length_append, List.length_take, List.length_drop]) <;> omega)) | exact e | exact e.symm
end Go.Vi
