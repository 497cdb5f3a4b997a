/-
  Round 20: Slots, All, Live.
  Conditions: none.
-/
import Derived.Test.YtgbgfdmhmahonaaDoorTaH
set_option linter.unusedSectionVars false
set_option maxRecDepth 100000
set_option linter.unusedVariables false
set_option linter.unusedSimpArgs false
namespace Go.Vx
open Go Go.Proofs
variable [Gl]

structure Tok (x : Tb) : Prop where
  rep : Rep x
  sm : ∀ s ∈ tl x, Sm s
  len : x.kl.length < 1048576
set_option maxHeartbeats 8000000 in
theorem slots_ok (x : Tb) (n : Int) (h : Tok x) : Does (C := C0) Tryd.prog (.fn 21) (tbr x) [.ptr 0 0 0, .int .i64 n]
    [⟨Unit, fun _ => (tl x).filter (inBlk n) = [], fun _ => .nils, fun _ => tbr x⟩,
     ⟨Nat × Nat × List Slot × Nat × List Slot, fun y => Srt lePage ((tl x).filter (inBlk n)) y.2.2.1 ∧ 0 < y.2.2.1.length ∧ y.2.2.1.length ≤ y.2.2.2.1 ∧ y.2.2.2.1 ≤ y.2.2.1.length + y.2.2.2.2.length, fun y => .sl 3 0 y.2.2.1.length y.2.2.2.1, fun y => tbr x ++ [⟨y.1, y.2.1, 9, true, none, .rows 53 (y.2.2.1 ++ y.2.2.2.2)⟩]⟩] := by
  refine loc_fn (P := Tryd.prog) (E := ⟨[fcSlotsB], [], 8, []⟩) (L := []) mix Tryd.func21 rfl (by kernel_rfl) (by kernel_rfl) rfl rfl ?_
  ((conv => (arg 1; reduce)); with_reducible repeat' (first | exact Tr.yes_h | refine Tr.and_h ?_ ?_ | refine Tr.imp_h fun _ => ?_ | refine Tr.all_h fun _ => ?_ | refine Tr.lf_h ?_))
  all_goals try (first | first | (show Region.lexB _ _ = true; kernel_rfl) | (show planned _ _ = true; kernel_rfl) | exact rfl | exact True.intro | (first | exact key3 | exact key30 | exact zero3 | exact zero53 | exact eq30 | exact ⟨key3, zero53⟩ | exact ⟨key30, zero3⟩) | ((try dsimp only [imp, C0, cG, cInt, cPl, cSlot, cDo] at *); (try refine inR64 ?_ ?_) <;> (try simp only [List.length_set, List.length_append, List.length_take, List.length_drop]) <;> omega))
  · exact ⟨h.rep, h.sm, h.len⟩
  · rename_i b u1 u2
    refine Ends.one () u2 ?_
    ((conv => (arg 1; reduce)); with_reducible repeat' (first | exact Tr.yes_h | refine Tr.and_h ?_ ?_ | refine Tr.imp_h fun _ => ?_ | refine Tr.all_h fun _ => ?_ | refine Tr.lf_h ?_))
    all_goals (first | first | (show Region.lexB _ _ = true; kernel_rfl) | (show planned _ _ = true; kernel_rfl) | exact rfl | exact True.intro | (first | exact key3 | exact key30 | exact zero3 | exact zero53 | exact eq30 | exact ⟨key3, zero53⟩ | exact ⟨key30, zero3⟩) | ((try dsimp only [imp, C0, cG, cInt, cPl, cSlot, cDo] at *); (try refine inR64 ?_ ?_) <;> (try simp only [List.length_set, List.length_append, List.length_take, List.length_drop]) <;> omega))
  · rename_i b u1 u2
    refine Ends.next (Ends.one u1 u2 ?_)
    ((conv => (arg 1; reduce)); with_reducible repeat' (first | exact Tr.yes_h | refine Tr.and_h ?_ ?_ | refine Tr.imp_h fun _ => ?_ | refine Tr.all_h fun _ => ?_ | refine Tr.lf_h ?_))
    all_goals (first | first | (show Region.lexB _ _ = true; kernel_rfl) | (show planned _ _ = true; kernel_rfl) | exact rfl | exact True.intro | (first | exact key3 | exact key30 | exact zero3 | exact zero53 | exact eq30 | exact ⟨key3, zero53⟩ | exact ⟨key30, zero3⟩) | ((try dsimp only [imp, C0, cG, cInt, cPl, cSlot, cDo] at *); (try refine inR64 ?_ ?_) <;> (try simp only [List.length_set, List.length_append, List.length_take, List.length_drop]) <;> omega))
noncomputable def fcSlots : Fc Tryd.prog C0 where
  tg := .fn 21
  X := Tb × Int
  args := fun (x, n) => [.ptr 0 0 0, .int .i64 n]
  mem := fun (x, n) => tbr x
  pre := fun (x, n) => Tok x
  alts := fun (x, n) => [⟨Unit, fun _ => (tl x).filter (inBlk n) = [], fun _ => .nils, fun _ => tbr x⟩,
     ⟨Nat × Nat × List Slot × Nat × List Slot, fun y => Srt lePage ((tl x).filter (inBlk n)) y.2.2.1 ∧ 0 < y.2.2.1.length ∧ y.2.2.1.length ≤ y.2.2.2.1 ∧ y.2.2.2.1 ≤ y.2.2.1.length + y.2.2.2.2.length, fun y => .sl 3 0 y.2.2.1.length y.2.2.2.1, fun y => tbr x ++ [⟨y.1, y.2.1, 9, true, none, .rows 53 (y.2.2.1 ++ y.2.2.2.2)⟩]⟩]
  mat vs m := match vs with
    | [.ptr p 0 0, .int _ n] => match tbOf m p with
      | some (x, l) => some ((x, n), l)
      | none => none
    | _ => none
  ok := fun (x, n) h => slots_ok x n h
set_option maxHeartbeats 8000000 in
theorem all_ok (x : Tb) (h : Tok x) : Does (C := C0) Tryd.prog (.fn 22) (tbr x) [.ptr 0 0 0]
    [⟨Unit, fun _ => tl x = [], fun _ => .nils, fun _ => tbr x⟩,
     ⟨Nat × Nat × List Slot × Nat × List Slot, fun y => Srt leKey (tl x) y.2.2.1 ∧ 0 < y.2.2.1.length ∧ y.2.2.1.length ≤ y.2.2.2.1 ∧ y.2.2.2.1 ≤ y.2.2.1.length + y.2.2.2.2.length, fun y => .sl 3 0 y.2.2.1.length y.2.2.2.1, fun y => tbr x ++ [⟨y.1, y.2.1, 9, true, none, .rows 53 (y.2.2.1 ++ y.2.2.2.2)⟩]⟩] := by
  refine loc_fn (P := Tryd.prog) (E := ⟨[fcSlotsA], [], 5, []⟩) (L := []) mix Tryd.func22 rfl (by kernel_rfl) (by kernel_rfl) rfl rfl ?_
  ((conv => (arg 1; reduce)); with_reducible repeat' (first | exact Tr.yes_h | refine Tr.and_h ?_ ?_ | refine Tr.imp_h fun _ => ?_ | refine Tr.all_h fun _ => ?_ | refine Tr.lf_h ?_))
  all_goals try (first | first | (show Region.lexB _ _ = true; kernel_rfl) | (show planned _ _ = true; kernel_rfl) | exact rfl | exact True.intro | (first | exact key3 | exact key30 | exact zero3 | exact zero53 | exact eq30 | exact ⟨key3, zero53⟩ | exact ⟨key30, zero3⟩) | ((try dsimp only [imp, C0, cG, cInt, cPl, cSlot, cDo] at *); (try refine inR64 ?_ ?_) <;> (try simp only [List.length_set, List.length_append, List.length_take, List.length_drop]) <;> omega))
  · exact ⟨h.rep, h.sm, h.len⟩
  · rename_i u1 u2
    refine Ends.one () u2 ?_
    ((conv => (arg 1; reduce)); with_reducible repeat' (first | exact Tr.yes_h | refine Tr.and_h ?_ ?_ | refine Tr.imp_h fun _ => ?_ | refine Tr.all_h fun _ => ?_ | refine Tr.lf_h ?_))
    all_goals (first | first | (show Region.lexB _ _ = true; kernel_rfl) | (show planned _ _ = true; kernel_rfl) | exact rfl | exact True.intro | (first | exact key3 | exact key30 | exact zero3 | exact zero53 | exact eq30 | exact ⟨key3, zero53⟩ | exact ⟨key30, zero3⟩) | ((try dsimp only [imp, C0, cG, cInt, cPl, cSlot, cDo] at *); (try refine inR64 ?_ ?_) <;> (try simp only [List.length_set, List.length_append, List.length_take, List.length_drop]) <;> omega))
  · rename_i u1 u2
    refine Ends.next (Ends.one u1 u2 ?_)
    ((conv => (arg 1; reduce)); with_reducible repeat' (first | exact Tr.yes_h | refine Tr.and_h ?_ ?_ | refine Tr.imp_h fun _ => ?_ | refine Tr.all_h fun _ => ?_ | refine Tr.lf_h ?_))
    all_goals (first | first | (show Region.lexB _ _ = true; kernel_rfl) | (show planned _ _ = true; kernel_rfl) | exact rfl | exact True.intro | (first | exact key3 | exact key30 | exact zero3 | exact zero53 | exact eq30 | exact ⟨key3, zero53⟩ | exact ⟨key30, zero3⟩) | ((try dsimp only [imp, C0, cG, cInt, cPl, cSlot, cDo] at *); (try refine inR64 ?_ ?_) <;> (try simp only [List.length_set, List.length_append, List.length_take, List.length_drop]) <;> omega))
noncomputable def fcAll : Fc Tryd.prog C0 where
  tg := .fn 22
  X := Tb
  args x := [.ptr 0 0 0]
  mem x := tbr x
  pre x := Tok x
  alts x := [⟨Unit, fun _ => tl x = [], fun _ => .nils, fun _ => tbr x⟩,
     ⟨Nat × Nat × List Slot × Nat × List Slot, fun y => Srt leKey (tl x) y.2.2.1 ∧ 0 < y.2.2.1.length ∧ y.2.2.1.length ≤ y.2.2.2.1 ∧ y.2.2.2.1 ≤ y.2.2.1.length + y.2.2.2.2.length, fun y => .sl 3 0 y.2.2.1.length y.2.2.2.1, fun y => tbr x ++ [⟨y.1, y.2.1, 9, true, none, .rows 53 (y.2.2.1 ++ y.2.2.2.2)⟩]⟩]
  mat vs m := match vs with
    | [.ptr p 0 0] => tbOf m p
    | _ => none
  ok x h := all_ok x h
set_option maxHeartbeats 8000000 in
theorem live_ok (x : Tb) (n : Int) (h : Tok x) : Tells (C := C0) Tryd.prog (.fn 12) (tbr x) [.ptr 0 0 0, .int .i64 n] (.int .i64 (((tl x).filter (inBlk n)).length : Int)) := by
  refine loc_pc (P := Tryd.prog) (E := ⟨[fcSlots], [], 9, []⟩) (L := []) mix Tryd.func12 rfl (by kernel_rfl) (by kernel_rfl) rfl rfl ?_
  ((conv => (arg 1; reduce)); with_reducible repeat' (first | exact Tr.yes_h | refine Tr.and_h ?_ ?_ | refine Tr.imp_h fun _ => ?_ | refine Tr.all_h fun _ => ?_ | refine Tr.lf_h ?_))
  all_goals try (first | first | (show Region.lexB _ _ = true; kernel_rfl) | (show planned _ _ = true; kernel_rfl) | exact rfl | exact True.intro | (first | exact key3 | exact key30 | exact zero3 | exact zero53 | exact eq30 | exact ⟨key3, zero53⟩ | exact ⟨key30, zero3⟩) | ((try dsimp only [imp, C0, cG, cInt, cPl, cSlot, cDo] at *); (try refine inR64 ?_ ?_) <;> (try simp only [List.length_set, List.length_append, List.length_take, List.length_drop]) <;> omega))
  · exact h
  · rename_i u1 u2
    have u2 : (tl x).filter (inBlk n) = [] := u2
    rw [u2]; rfl
  · rename_i u1 u2
    exact congrArg Int.ofNat u2.1.perm.length_eq
def pcLive : Pc Tryd.prog C0 where
  tg := .fn 12
  X := Tb × Int
  args := fun (x, n) => [.ptr 0 0 0, .int .i64 n]
  mem := fun (x, n) => tbr x
  pre := fun (x, n) => Tok x
  res := fun (x, n) => .int .i64 (((tl x).filter (inBlk n)).length : Int)
  mat vs m := match vs with
    | [.ptr p 0 0, .int _ n] => match tbOf m p with
      | some (x, l) => some ((x, n), l)
      | none => none
    | _ => none
  ok := fun (x, n) h => live_ok x n h
end Go.Vx
