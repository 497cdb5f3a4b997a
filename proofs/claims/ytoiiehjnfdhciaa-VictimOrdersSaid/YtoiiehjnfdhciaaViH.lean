/-
  Round 21: copies; the failed ones deleted; the least.
  Conditions: none.
-/
import Derived.Test.YtoiiehjnfdhciaaViG
set_option maxRecDepth 100000
set_option linter.unusedVariables false
set_option linter.unusedSimpArgs false
namespace Go.Vi
open Go Go.Vx Go.Proofs

theorem fail_ok (b : Blk) : Tells (C := C1) Try.prog (.fn 27) [] [bSV b] (.bool (.tm b.2.2.2)) := by
  refine loc_pc (P := Try.prog) (E := ⟨[], [], 5, []⟩) (L := []) mix Try.func27 rfl (by kernel_rfl) (by kernel_rfl) rfl rfl ?_
  ((conv => (arg 1; reduce)); with_reducible repeat' (first | exact Tr.yes_h | refine Tr.and_h ?_ ?_ | refine Tr.imp_h fun _ => ?_ | refine Tr.all_h fun _ => ?_ | refine Tr.lf_h ?_))
  all_goals try first | (show Region.lexB _ _ = true; kernel_rfl) | (show planned _ _ = true; kernel_rfl) | exact rfl | exact True.intro
noncomputable def pcFail : Pc Try.prog C1 where
  tg := .fn 27
  X := Blk
  args := fun b => [bSV b]
  mem := fun _ => []
  pre _ := True
  res := fun b => .bool (.tm b.2.2.2)
  mat vs m := match vs with
    | [v] => (unB v).map fun b => (b, [])
    | _ => none
  ok := fun _ _ => fail_ok _
/-- Which one is colder. -/
def co (a b : Blk) : Int := orv [cm a.2.2.1 b.2.2.1, cm a.2.1 b.2.1, cm a.1 b.1]
theorem colder_ok (a b : Blk) : Tells (C := C1) Try.prog (.fn 29) [] [bSV a, bSV b] (.int .i64 (co a b)) := by
  refine loc_pc (P := Try.prog) (E := ⟨[], [pcCmp, pcOr], 22, [(1, [], [.p 0, .p 2, .p 5, .p 7, .p 10, .p 12, .q 1, .q 3, .q 6, .q 8, .q 11, .q 13, .q 4, .q 9, .q 14, .e 15, .q 16, .p 17])]⟩) (L := []) mix Try.func29 rfl (by kernel_rfl) (by kernel_rfl) rfl rfl ?_
  ((conv => (arg 1; reduce)); with_reducible repeat' (first | exact Tr.yes_h | refine Tr.and_h ?_ ?_ | refine Tr.imp_h fun _ => ?_ | refine Tr.all_h fun _ => ?_ | refine Tr.lf_h ?_))
  all_goals try first | (show Region.lexB _ _ = true; kernel_rfl) | (show planned _ _ = true; kernel_rfl) | exact rfl | exact True.intro
  · exact ⟨by simp, by decide⟩
noncomputable def pcCo : Pc Try.prog C1 where
  tg := .fn 29
  X := Blk × Blk
  args := fun (a, b) => [bSV a, bSV b]
  mem := fun _ => []
  pre _ := True
  res := fun (a, b) => .int .i64 (co a b)
  mat vs m := match vs with
    | [v, u] => match unB v, unB u with
      | some a, some b => some ((a, b), [])
      | _, _ => none
    | _ => none
  ok := fun (_, _) _ => colder_ok _ _

theorem by3 : Try.prog.types[3].bytes = 8 := by kernel_rfl
theorem clone_ok (b q : Nat) (bl : List Blk) (N m : Nat) (hN : N ≤ bl.length) (hb : N < 1048576) :
    Does (C := C1) Try.prog (.fn 26) [⟨b, q, 4, false, none, .rows 27 bl⟩] [.sl 0 0 N m]
     [⟨Nat × Nat × List Blk × Nat, fun y => N ≤ y.2.2.2 ∧ y.2.2.2 ≤ y.2.2.1.length ∧ y.2.2.1.take N = bl.take N, fun y => .sl 1 0 N y.2.2.2, fun y => [⟨b, q, 4, false, none, .rows 27 bl⟩, ⟨y.1, y.2.1, 4, true, none, .rows 27 y.2.2.1⟩]⟩] := by
  refine loc_fn (P := Try.prog) (E := ⟨[], [], 8, []⟩) (L := []) mix Try.func26 rfl (by kernel_rfl) (by kernel_rfl) rfl rfl ?_
  ((conv => (arg 1; reduce)); with_reducible repeat' (first | exact Tr.yes_h | refine Tr.and_h ?_ ?_ | refine Tr.imp_h fun _ => ?_ | refine Tr.all_h fun _ => ?_ | refine Tr.lf_h ?_))
  all_goals try first | (show Region.lexB _ _ = true; kernel_rfl) | (show planned _ _ = true; kernel_rfl) | exact rfl | exact True.intro
  · rw [by27]
    exact ⟨Nat.le_refl 0, Nat.zero_le _, by omega, by omega⟩
  · rename_i b1 b2 base2 sp cap h1 h2
    refine Ends.one (b2, base2, List.append (bl.take N) sp, cap) ⟨by show N ≤ cap; omega, by simp; omega, ?_⟩ ?_
    · show (bl.take N ++ sp).take N = bl.take N
      rw [List.take_append_of_le_length (by simp; omega), List.take_of_length_le (by simp; omega)]
    ((conv => (arg 1; reduce)); with_reducible repeat' (first | exact Tr.yes_h | refine Tr.and_h ?_ ?_ | refine Tr.imp_h fun _ => ?_ | refine Tr.all_h fun _ => ?_ | refine Tr.lf_h ?_))
    all_goals first | (first | first | (show Region.lexB _ _ = true; kernel_rfl) | (show planned _ _ = true; kernel_rfl) | exact rfl | exact True.intro | ((try dsimp only [imp, C1, cBlk, cItm] at *); (try refine inR64 ?_ ?_) <;> (try simp only [List.length_set, List.length_append, List.length_take, List.length_drop]) <;> omega)) | (show 0 + N = N; omega) | (show N = 0 + N; omega)
theorem clone_nil : Does (C := C1) Try.prog (.fn 26) [] [.nils] [⟨Unit, fun _ => True, fun _ => .nils, fun _ => []⟩] := by
  refine loc_fn (P := Try.prog) (E := ⟨[], [], 8, []⟩) (L := []) mix Try.func26 rfl (by kernel_rfl) (by kernel_rfl) rfl rfl ?_
  ((conv => (arg 1; reduce)); with_reducible repeat' (first | exact Tr.yes_h | refine Tr.and_h ?_ ?_ | refine Tr.imp_h fun _ => ?_ | refine Tr.all_h fun _ => ?_ | refine Tr.lf_h ?_))
  all_goals try first | (show Region.lexB _ _ = true; kernel_rfl) | (show planned _ _ = true; kernel_rfl) | exact rfl | exact True.intro
  · refine Ends.one () trivial ?_
    ((conv => (arg 1; reduce)); with_reducible repeat' (first | exact Tr.yes_h | refine Tr.and_h ?_ ?_ | refine Tr.imp_h fun _ => ?_ | refine Tr.all_h fun _ => ?_ | refine Tr.lf_h ?_))
    all_goals (first | first | (show Region.lexB _ _ = true; kernel_rfl) | (show planned _ _ = true; kernel_rfl) | exact rfl | exact True.intro | ((try dsimp only [imp, C1, cBlk, cItm] at *); (try refine inR64 ?_ ?_) <;> (try simp only [List.length_set, List.length_append, List.length_take, List.length_drop]) <;> omega))
noncomputable def fc_clone : Fc Try.prog C1 where
  tg := .fn 26
  X := Nat × Nat × List Blk × Nat × Nat
  args := fun (_, _, _, N, m) => [.sl 0 0 N m]
  mem := fun (b, q, bl, _, _) => [⟨b, q, 4, false, none, .rows 27 bl⟩]
  pre := fun (_, _, bl, N, _) => N ≤ bl.length ∧ N < 1048576
  alts := fun (b, q, bl, N, m) => [⟨Nat × Nat × List Blk × Nat, fun y => N ≤ y.2.2.2 ∧ y.2.2.2 ≤ y.2.2.1.length ∧ y.2.2.1.take N = bl.take N, fun y => .sl 1 0 N y.2.2.2, fun y => [⟨b, q, 4, false, none, .rows 27 bl⟩, ⟨y.1, y.2.1, 4, true, none, .rows 27 y.2.2.1⟩]⟩]
  mat vs m := match vs with
    | [.sl k _ n c] => match nth m k with
      | ⟨b, q, _, _, _, .rows 27 l⟩ => some ((b, q, l, n, c), [k])
      | _ => none
    | _ => none
  ok := fun (_, _, _, _, _) h => clone_ok _ _ _ _ _ h.1 h.2
noncomputable def fc_clone0 : Fc Try.prog C1 where
  tg := .fn 26
  X := Unit
  args := fun _ => [.nils]
  mem := fun _ => []
  pre := fun _ => True
  alts := fun _ => [⟨Unit, fun _ => True, fun _ => .nils, fun _ => []⟩]
  mat vs m := match vs with
    | [.nils] => some ((), [])
    | _ => none
  ok := fun _ _ => clone_nil
theorem clonei_ok (b q : Nat) (bl : List Int) (N m : Nat) (hN : N ≤ bl.length) (hb : N < 1048576) :
    Does (C := C1) Try.prog (.fn 30) [⟨b, q, 1, false, none, .rows 3 bl⟩] [.sl 0 0 N m]
     [⟨Nat × Nat × List Int × Nat, fun y => N ≤ y.2.2.2 ∧ y.2.2.2 ≤ y.2.2.1.length ∧ y.2.2.1.take N = bl.take N, fun y => .sl 1 0 N y.2.2.2, fun y => [⟨b, q, 1, false, none, .rows 3 bl⟩, ⟨y.1, y.2.1, 1, true, none, .rows 3 y.2.2.1⟩]⟩] := by
  refine loc_fn (P := Try.prog) (E := ⟨[], [], 8, []⟩) (L := []) mix Try.func30 rfl (by kernel_rfl) (by kernel_rfl) rfl rfl ?_
  ((conv => (arg 1; reduce)); with_reducible repeat' (first | exact Tr.yes_h | refine Tr.and_h ?_ ?_ | refine Tr.imp_h fun _ => ?_ | refine Tr.all_h fun _ => ?_ | refine Tr.lf_h ?_))
  all_goals try first | (show Region.lexB _ _ = true; kernel_rfl) | (show planned _ _ = true; kernel_rfl) | exact rfl | exact True.intro
  · rw [by3]
    exact ⟨Nat.le_refl 0, Nat.zero_le _, by omega, by omega⟩
  · rename_i b1 b2 base2 sp cap h1 h2
    refine Ends.one (b2, base2, List.append (bl.take N) sp, cap) ⟨by show N ≤ cap; omega, by simp; omega, ?_⟩ ?_
    · show (bl.take N ++ sp).take N = bl.take N
      rw [List.take_append_of_le_length (by simp; omega), List.take_of_length_le (by simp; omega)]
    ((conv => (arg 1; reduce)); with_reducible repeat' (first | exact Tr.yes_h | refine Tr.and_h ?_ ?_ | refine Tr.imp_h fun _ => ?_ | refine Tr.all_h fun _ => ?_ | refine Tr.lf_h ?_))
    all_goals first | (first | first | (show Region.lexB _ _ = true; kernel_rfl) | (show planned _ _ = true; kernel_rfl) | exact rfl | exact True.intro | ((try dsimp only [imp, C1, cBlk, cItm] at *); (try refine inR64 ?_ ?_) <;> (try simp only [List.length_set, List.length_append, List.length_take, List.length_drop]) <;> omega)) | (show 0 + N = N; omega) | (show N = 0 + N; omega)
theorem clonei_nil : Does (C := C1) Try.prog (.fn 30) [] [.nils] [⟨Unit, fun _ => True, fun _ => .nils, fun _ => []⟩] := by
  refine loc_fn (P := Try.prog) (E := ⟨[], [], 8, []⟩) (L := []) mix Try.func30 rfl (by kernel_rfl) (by kernel_rfl) rfl rfl ?_
  ((conv => (arg 1; reduce)); with_reducible repeat' (first | exact Tr.yes_h | refine Tr.and_h ?_ ?_ | refine Tr.imp_h fun _ => ?_ | refine Tr.all_h fun _ => ?_ | refine Tr.lf_h ?_))
  all_goals try first | (show Region.lexB _ _ = true; kernel_rfl) | (show planned _ _ = true; kernel_rfl) | exact rfl | exact True.intro
  · refine Ends.one () trivial ?_
    ((conv => (arg 1; reduce)); with_reducible repeat' (first | exact Tr.yes_h | refine Tr.and_h ?_ ?_ | refine Tr.imp_h fun _ => ?_ | refine Tr.all_h fun _ => ?_ | refine Tr.lf_h ?_))
    all_goals (first | first | (show Region.lexB _ _ = true; kernel_rfl) | (show planned _ _ = true; kernel_rfl) | exact rfl | exact True.intro | ((try dsimp only [imp, C1, cBlk, cItm] at *); (try refine inR64 ?_ ?_) <;> (try simp only [List.length_set, List.length_append, List.length_take, List.length_drop]) <;> omega))
noncomputable def fc_clonei : Fc Try.prog C1 where
  tg := .fn 30
  X := Nat × Nat × List Int × Nat × Nat
  args := fun (_, _, _, N, m) => [.sl 0 0 N m]
  mem := fun (b, q, bl, _, _) => [⟨b, q, 1, false, none, .rows 3 bl⟩]
  pre := fun (_, _, bl, N, _) => N ≤ bl.length ∧ N < 1048576
  alts := fun (b, q, bl, N, m) => [⟨Nat × Nat × List Int × Nat, fun y => N ≤ y.2.2.2 ∧ y.2.2.2 ≤ y.2.2.1.length ∧ y.2.2.1.take N = bl.take N, fun y => .sl 1 0 N y.2.2.2, fun y => [⟨b, q, 1, false, none, .rows 3 bl⟩, ⟨y.1, y.2.1, 1, true, none, .rows 3 y.2.2.1⟩]⟩]
  mat vs m := match vs with
    | [.sl k _ n c] => match nth m k with
      | ⟨b, q, _, _, _, .rows 3 l⟩ => some ((b, q, l, n, c), [k])
      | _ => none
    | _ => none
  ok := fun (_, _, _, _, _) h => clonei_ok _ _ _ _ _ h.1 h.2
noncomputable def fc_clonei0 : Fc Try.prog C1 where
  tg := .fn 30
  X := Unit
  args := fun _ => [.nils]
  mem := fun _ => []
  pre := fun _ => True
  alts := fun _ => [⟨Unit, fun _ => True, fun _ => .nils, fun _ => []⟩]
  mat vs m := match vs with
    | [.nils] => some ((), [])
    | _ => none
  ok := fun _ _ => clonei_nil

/-! The first one that failed. -/
abbrev failed (b : Blk) : Bool := b.2.2.2
abbrev nf (b : Blk) : Bool := !b.2.2.2
theorem index_ok (b q : Nat) (bl : List Blk) (N m : Nat) (hN : N ≤ bl.length) (hb : N < 1048576) :
    Does (C := C1) Try.prog (.fn 39) [⟨b, q, 4, false, none, .rows 27 bl⟩] [.sl 0 0 N m, .fn (.func 27) [] []]
     [⟨Nat, fun i => i < N ∧ failed (bl.getD i z0) = true ∧ ∀ k, k < i → failed (bl.getD k z0) = false, fun i => .int .i64 i, fun y => [⟨b, q, 4, false, none, .rows 27 bl⟩]⟩,
      ⟨Unit, fun _ => ∀ k, k < N → failed (bl.getD k z0) = false, fun i => .int .i64 (-1), fun y => [⟨b, q, 4, false, none, .rows 27 bl⟩]⟩] := by
  refine loc_fn (P := Try.prog) (E := ⟨[], [pcFail], 19, []⟩) (L := [⟨2, Nat, fun i => [(8, .int .i64 i)], fun _ m => m, fun i => i ≤ N ∧ ∀ k, k < i → failed (bl.getD k z0) = false, fun i => N - i⟩]) mix Try.func39 rfl (by kernel_rfl) (by kernel_rfl) rfl rfl ?_
  ((conv => (arg 1; reduce)); with_reducible repeat' (first | exact Tr.yes_h | refine Tr.and_h ?_ ?_ | refine Tr.imp_h fun _ => ?_ | refine Tr.all_h fun _ => ?_ | refine Tr.lf_h ?_))
  all_goals try first | (show Region.lexB _ _ = true; kernel_rfl) | (show planned _ _ = true; kernel_rfl) | exact rfl | exact True.intro
  · refine Stands.one 0 ⟨⟨Nat.zero_le _, fun k hk => by omega⟩, ?_⟩
    ((conv => (arg 1; reduce)); with_reducible repeat' (first | exact Tr.yes_h | refine Tr.and_h ?_ ?_ | refine Tr.imp_h fun _ => ?_ | refine Tr.all_h fun _ => ?_ | refine Tr.lf_h ?_))
    all_goals (first | first | (show Region.lexB _ _ = true; kernel_rfl) | (show planned _ _ = true; kernel_rfl) | exact rfl | exact True.intro | ((try dsimp only [imp, C1, cBlk, cItm] at *); (try refine inR64 ?_ ?_) <;> (try simp only [List.length_set, List.length_append, List.length_take, List.length_drop]) <;> omega))
  all_goals try (rename_i i hi hc; obtain ⟨h1, h2⟩ := hi; have hc := of_decide_eq_true hc; omega)
  · rename_i i hi hc hd
    obtain ⟨h1, h2⟩ := hi
    have hc := of_decide_eq_true hc
    refine Ends.one i ⟨by omega, hd, h2⟩ ?_
    ((conv => (arg 1; reduce)); with_reducible repeat' (first | exact Tr.yes_h | refine Tr.and_h ?_ ?_ | refine Tr.imp_h fun _ => ?_ | refine Tr.all_h fun _ => ?_ | refine Tr.lf_h ?_))
    all_goals (first | first | (show Region.lexB _ _ = true; kernel_rfl) | (show planned _ _ = true; kernel_rfl) | exact rfl | exact True.intro | ((try dsimp only [imp, C1, cBlk, cItm] at *); (try refine inR64 ?_ ?_) <;> (try simp only [List.length_set, List.length_append, List.length_take, List.length_drop]) <;> omega))
  · rename_i i hi hc hd
    have hc := of_decide_eq_true hc
    exact inR64 (by omega) (by omega)
  · rename_i i hi hc hd
    obtain ⟨h1, h2⟩ := hi
    have hc := of_decide_eq_true hc
    have hd : failed (bl.getD i z0) = false := hd
    refine Stands.one (i + 1) ⟨⟨by omega, fun k hk => ?_⟩, ?_, ?_⟩
    · by_cases e : k = i
      · rw [e]; exact hd
      · exact h2 k (by omega)
    · show N - (i + 1) < N - i; omega
    · ((conv => (arg 1; reduce)); with_reducible repeat' (first | exact Tr.yes_h | refine Tr.and_h ?_ ?_ | refine Tr.imp_h fun _ => ?_ | refine Tr.all_h fun _ => ?_ | refine Tr.lf_h ?_))
      all_goals (first | first | (show Region.lexB _ _ = true; kernel_rfl) | (show planned _ _ = true; kernel_rfl) | exact rfl | exact True.intro | ((try dsimp only [imp, C1, cBlk, cItm] at *); (try refine inR64 ?_ ?_) <;> (try simp only [List.length_set, List.length_append, List.length_take, List.length_drop]) <;> omega))
  · rename_i i hi hc
    obtain ⟨h1, h2⟩ := hi
    have hc := of_decide_eq_false hc
    refine Ends.next (Ends.one () (fun k hk => h2 k (by omega)) ?_)
    ((conv => (arg 1; reduce)); with_reducible repeat' (first | exact Tr.yes_h | refine Tr.and_h ?_ ?_ | refine Tr.imp_h fun _ => ?_ | refine Tr.all_h fun _ => ?_ | refine Tr.lf_h ?_))
    all_goals (first | first | (show Region.lexB _ _ = true; kernel_rfl) | (show planned _ _ = true; kernel_rfl) | exact rfl | exact True.intro | ((try dsimp only [imp, C1, cBlk, cItm] at *); (try refine inR64 ?_ ?_) <;> (try simp only [List.length_set, List.length_append, List.length_take, List.length_drop]) <;> omega))
theorem index_nil : Does (C := C1) Try.prog (.fn 39) [] [.nils, .fn (.func 27) [] []] [⟨Unit, fun _ => True, fun i => .int .i64 (-1), fun y => []⟩] := by
  refine loc_fn (P := Try.prog) (E := ⟨[], [pcFail], 19, []⟩) (L := [⟨2, Unit, fun i => [(8, .int .i64 0)], fun _ m => m, fun i => True, fun i => 0⟩]) mix Try.func39 rfl (by kernel_rfl) (by kernel_rfl) rfl rfl ?_
  ((conv => (arg 1; reduce)); with_reducible repeat' (first | exact Tr.yes_h | refine Tr.and_h ?_ ?_ | refine Tr.imp_h fun _ => ?_ | refine Tr.all_h fun _ => ?_ | refine Tr.lf_h ?_))
  all_goals try first | (show Region.lexB _ _ = true; kernel_rfl) | (show planned _ _ = true; kernel_rfl) | exact rfl | exact True.intro
  all_goals try (have h3 : (0 : Int) < 0 := of_decide_eq_true ‹decide ((0 : Int) < 0) = true›; omega)
  · refine Stands.one () ⟨trivial, ?_⟩
    ((conv => (arg 1; reduce)); with_reducible repeat' (first | exact Tr.yes_h | refine Tr.and_h ?_ ?_ | refine Tr.imp_h fun _ => ?_ | refine Tr.all_h fun _ => ?_ | refine Tr.lf_h ?_))
    all_goals (first | first | (show Region.lexB _ _ = true; kernel_rfl) | (show planned _ _ = true; kernel_rfl) | exact rfl | exact True.intro | ((try dsimp only [imp, C1, cBlk, cItm] at *); (try refine inR64 ?_ ?_) <;> (try simp only [List.length_set, List.length_append, List.length_take, List.length_drop]) <;> omega))
  · refine Ends.one () trivial ?_
    ((conv => (arg 1; reduce)); with_reducible repeat' (first | exact Tr.yes_h | refine Tr.and_h ?_ ?_ | refine Tr.imp_h fun _ => ?_ | refine Tr.all_h fun _ => ?_ | refine Tr.lf_h ?_))
    all_goals (first | first | (show Region.lexB _ _ = true; kernel_rfl) | (show planned _ _ = true; kernel_rfl) | exact rfl | exact True.intro | ((try dsimp only [imp, C1, cBlk, cItm] at *); (try refine inR64 ?_ ?_) <;> (try simp only [List.length_set, List.length_append, List.length_take, List.length_drop]) <;> omega))
noncomputable def fcIndex : Fc Try.prog C1 where
  tg := .fn 39
  X := Nat × Nat × List Blk × Nat × Nat
  args := fun (_, _, _, N, m) => [.sl 0 0 N m, .fn (.func 27) [] []]
  mem := fun (b, q, bl, _, _) => [⟨b, q, 4, false, none, .rows 27 bl⟩]
  pre := fun (_, _, bl, N, _) => N ≤ bl.length ∧ N < 1048576
  alts := fun (b, q, bl, N, m) => [⟨Nat, fun i => i < N ∧ failed (bl.getD i z0) = true ∧ ∀ k, k < i → failed (bl.getD k z0) = false, fun i => .int .i64 i, fun y => [⟨b, q, 4, false, none, .rows 27 bl⟩]⟩,
      ⟨Unit, fun _ => ∀ k, k < N → failed (bl.getD k z0) = false, fun i => .int .i64 (-1), fun y => [⟨b, q, 4, false, none, .rows 27 bl⟩]⟩]
  mat vs m := match vs with
    | [.sl k _ n c, _] => match nth m k with
      | ⟨b, q, _, _, _, .rows 27 l⟩ => some ((b, q, l, n, c), [k])
      | _ => none
    | _ => none
  ok := fun (_, _, _, _, _) h => index_ok _ _ _ _ _ h.1 h.2
noncomputable def fcIndex0 : Fc Try.prog C1 where
  tg := .fn 39
  X := Unit
  args := fun _ => [.nils, .fn (.func 27) [] []]
  mem := fun _ => []
  pre := fun _ => True
  alts := fun _ => [⟨Unit, fun _ => True, fun i => .int .i64 (-1), fun y => []⟩]
  mat vs m := match vs with
    | [.nils, _] => some ((), [])
    | _ => none
  ok := fun _ _ => index_nil
end Go.Vi
