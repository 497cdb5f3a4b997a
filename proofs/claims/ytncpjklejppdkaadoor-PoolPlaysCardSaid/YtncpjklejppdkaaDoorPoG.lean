/-
  Round 17: a block laid into the pool.
  Conditions: none.
-/
import Derived.Test.YtncpjklejppdkaaDoorPoF
set_option linter.unusedSectionVars false
set_option maxRecDepth 100000
set_option linter.unusedVariables false
set_option linter.unusedSimpArgs false
namespace Go.Vx
open Go Go.Proofs
variable [Gl]

abbrev pushPost (l : List Ent) (n : Nat) (e : Ent) (y : Nat × Nat × List Ent × Nat) : Prop := HOK y.2.2.1 (n + 1) y.2.2.2 ∧ (y.2.2.1.take (n + 1)).Perm (l.take n ++ [e])
abbrev push0Post (e : Ent) (y : Nat × List Ent × Nat) : Prop := HOK y.2.1 1 y.2.2 ∧ (y.2.1.take 1).Perm [e]
def push0Out (bp q : Nat) (y : Nat × List Ent × Nat) : List (Ck C0) := [⟨bp, q, 1, true, none, .one [.sl 1 0 1 y.2.2]⟩, ⟨y.1, 0, 2, true, none, .rows 60 y.2.1⟩]

theorem ppush_sl (bp q b base : Nat) (l : List Ent) (n c : Nat) (e : Ent) (h : HOK l n c) (hb : n < 1048576) :
    Does (C := C0) Tryd.prog (.fn 23) (hp bp q b base true true l n c) [.ptr 0 0 0, .agg [.int .i64 e.1, .int .i64 e.2]]
     [⟨Nat × Nat × List Ent × Nat, pushPost l n e, fun _ => .tup [], pushOut bp q b base n⟩] := by
  refine loc_fn (P := Tryd.prog) (E := ⟨[fcPush, fcPush0], [], 11, [(1, [], [.p 0, .p 1, .p 2, .p 3, .q 4, .p 5, .e 6])]⟩) (L := []) mix Tryd.func23 rfl (by kernel_rfl) (by kernel_rfl) rfl rfl ?_
  ((conv => (arg 1; reduce)); with_reducible repeat' (first | exact Tr.yes_h | refine Tr.and_h ?_ ?_ | refine Tr.imp_h fun _ => ?_ | refine Tr.all_h fun _ => ?_ | refine Tr.lf_h ?_))
  all_goals try first | (show Region.lexB _ _ = true; kernel_rfl) | (show planned _ _ = true; kernel_rfl) | exact rfl | exact True.intro
  · exact ⟨h, hb⟩
  · rename_i bx y hy
    refine Ends.one y hy ?_
    ((conv => (arg 1; reduce)); with_reducible repeat' (first | exact Tr.yes_h | refine Tr.and_h ?_ ?_ | refine Tr.imp_h fun _ => ?_ | refine Tr.all_h fun _ => ?_ | refine Tr.lf_h ?_))
    all_goals (first | first | (show Region.lexB _ _ = true; kernel_rfl) | (show planned _ _ = true; kernel_rfl) | exact rfl | exact True.intro | ((try dsimp only [imp, C0, cG, cInt2] at *); (try refine inR64 ?_ ?_) <;> (try simp only [List.length_set, List.length_append, List.length_take, List.length_drop]) <;> omega))
theorem ppush_nil (bp q : Nat) (e : Ent) :
    Does (C := C0) Tryd.prog (.fn 23) [⟨bp, q, 1, true, none, .one [.nils]⟩] [.ptr 0 0 0, .agg [.int .i64 e.1, .int .i64 e.2]]
     [⟨Nat × List Ent × Nat, push0Post e, fun _ => .tup [], push0Out bp q⟩] := by
  refine loc_fn (P := Tryd.prog) (E := ⟨[fcPush, fcPush0], [], 11, [(1, [], [.p 0, .p 1, .p 2, .p 3, .q 4, .p 5, .e 6])]⟩) (L := []) mix Tryd.func23 rfl (by kernel_rfl) (by kernel_rfl) rfl rfl ?_
  ((conv => (arg 1; reduce)); with_reducible repeat' (first | exact Tr.yes_h | refine Tr.and_h ?_ ?_ | refine Tr.imp_h fun _ => ?_ | refine Tr.all_h fun _ => ?_ | refine Tr.lf_h ?_))
  all_goals try first | (show Region.lexB _ _ = true; kernel_rfl) | (show planned _ _ = true; kernel_rfl) | exact rfl | exact True.intro
  · rename_i bx y hy
    refine Ends.one y hy ?_
    ((conv => (arg 1; reduce)); with_reducible repeat' (first | exact Tr.yes_h | refine Tr.and_h ?_ ?_ | refine Tr.imp_h fun _ => ?_ | refine Tr.all_h fun _ => ?_ | refine Tr.lf_h ?_))
    all_goals (first | first | (show Region.lexB _ _ = true; kernel_rfl) | (show planned _ _ = true; kernel_rfl) | exact rfl | exact True.intro | ((try dsimp only [imp, C0, cG, cInt2] at *); (try refine inR64 ?_ ?_) <;> (try simp only [List.length_set, List.length_append, List.length_take, List.length_drop]) <;> omega))
noncomputable def fcPpush : Fc Tryd.prog C0 where
  tg := .fn 23
  X := Hx × Ent
  args := fun (_, e) => [.ptr 0 0 0, .agg [.int .i64 e.1, .int .i64 e.2]]
  mem := fun (⟨bp, q, b, base, l, n, c⟩, _) => hp bp q b base true true l n c
  pre := fun (⟨_, _, _, _, l, n, c⟩, _) => HOK l n c ∧ n < 1048576
  alts := fun (⟨bp, q, b, base, l, n, c⟩, e) => [⟨Nat × Nat × List Ent × Nat, pushPost l n e, fun _ => .tup [], pushOut bp q b base n⟩]
  mat vs m := match vs with
    | [p, .agg [.int _ a, .int _ b]] => (matH p m).map fun (h, r) => ((h, (a, b)), r)
    | _ => none
  ok := fun (⟨_, _, _, _, _, _, _⟩, _) h => ppush_sl _ _ _ _ _ _ _ _ h.1 h.2
noncomputable def fcPpush0 : Fc Tryd.prog C0 where
  tg := .fn 23
  X := (Nat × Nat) × Ent
  args := fun (_, e) => [.ptr 0 0 0, .agg [.int .i64 e.1, .int .i64 e.2]]
  mem := fun ((bp, q), _) => [⟨bp, q, 1, true, none, .one [.nils]⟩]
  pre _ := True
  alts := fun ((bp, q), e) => [⟨Nat × List Ent × Nat, push0Post e, fun _ => .tup [], push0Out bp q⟩]
  mat vs m := match vs with
    | [p, .agg [.int _ a, .int _ b]] => (matN p m).map fun (h, r) => ((h, (a, b)), r)
    | _ => none
  ok := fun ((_, _), _) h => ppush_nil _ _ _

def fillOut (bp q b base n eb eq : Nat) (e : Ent) (y : Nat × Nat × List Ent × Nat) : List (Ck C0) :=
  [⟨bp, q, 1, true, none, .one [.sl 3 0 (n + 1) y.2.2.2]⟩, ⟨b, base, 2, true, none, .dead⟩, ⟨eb, eq, 2, false, none, .rows 60 [e]⟩, ⟨y.1, y.2.1, 2, true, none, .rows 60 y.2.2.1⟩]
theorem fill_sl (bp q b base eb eq : Nat) (l : List Ent) (n c : Nat) (e : Ent) (h : HOK l n c) (hb : n < 1048576) :
    Does (C := C0) Tryd.prog (.fn 22) (hp bp q b base true true l n c ++ [⟨eb, eq, 2, false, none, .rows 60 [e]⟩]) [.fn (.func 23) [.ptr 0 0 0] [], .sl 2 0 1 1]
     [⟨Nat × Nat × List Ent × Nat, pushPost l n e, fun _ => .tup [], fillOut bp q b base n eb eq e⟩] := by
  refine loc_fn (P := Tryd.prog) (E := ⟨[fcPpush, fcPpush0], [], 16, []⟩)
    (L := [⟨1, Unit, fun _ => [(8, .int .i64 0)], fun _ m => m, fun _ => True, fun _ => 1⟩, ⟨1, Nat × Nat × List Ent × Nat, fun _ => [(8, .int .i64 1)], fun y _ => fillOut bp q b base n eb eq e y, pushPost l n e, fun _ => 0⟩]) mix Tryd.func22 rfl (by kernel_rfl) (by kernel_rfl) rfl rfl ?_
  ((conv => (arg 1; reduce)); with_reducible repeat' (first | exact Tr.yes_h | refine Tr.and_h ?_ ?_ | refine Tr.imp_h fun _ => ?_ | refine Tr.all_h fun _ => ?_ | refine Tr.lf_h ?_))
  all_goals try first | (show Region.lexB _ _ = true; kernel_rfl) | (show planned _ _ = true; kernel_rfl) | exact rfl | exact True.intro
  all_goals try exact absurd ‹decide ((1 : Int) < ((1 : Nat) : Int)) = true› (by decide)
  all_goals try exact absurd ‹decide ((0 : Int) < ((1 : Nat) : Int)) = false› (by decide)
  · refine Stands.one () ⟨trivial, ?_⟩
    ((conv => (arg 1; reduce)); with_reducible repeat' (first | exact Tr.yes_h | refine Tr.and_h ?_ ?_ | refine Tr.imp_h fun _ => ?_ | refine Tr.all_h fun _ => ?_ | refine Tr.lf_h ?_))
    all_goals (first | first | (show Region.lexB _ _ = true; kernel_rfl) | (show planned _ _ = true; kernel_rfl) | exact rfl | exact True.intro | ((try dsimp only [imp, C0, cG, cInt2] at *); (try refine inR64 ?_ ?_) <;> (try simp only [List.length_set, List.length_append, List.length_take, List.length_drop]) <;> omega))
  · exact Int.le_refl _
  · exact Int.zero_lt_one
  · exact Nat.zero_lt_one
  · exact ⟨h, hb⟩
  · rename_i u hu hc bx y hy
    refine Stands.next (Stands.one y ⟨hy, Nat.zero_lt_one, ?_⟩)
    ((conv => (arg 1; reduce)); with_reducible repeat' (first | exact Tr.yes_h | refine Tr.and_h ?_ ?_ | refine Tr.imp_h fun _ => ?_ | refine Tr.all_h fun _ => ?_ | refine Tr.lf_h ?_))
    all_goals (first | first | (show Region.lexB _ _ = true; kernel_rfl) | (show planned _ _ = true; kernel_rfl) | exact rfl | exact True.intro | ((try dsimp only [imp, C0, cG, cInt2] at *); (try refine inR64 ?_ ?_) <;> (try simp only [List.length_set, List.length_append, List.length_take, List.length_drop]) <;> omega))
  · rename_i y hy hc
    refine Ends.one y hy ?_
    ((conv => (arg 1; reduce)); with_reducible repeat' (first | exact Tr.yes_h | refine Tr.and_h ?_ ?_ | refine Tr.imp_h fun _ => ?_ | refine Tr.all_h fun _ => ?_ | refine Tr.lf_h ?_))
    all_goals (first | first | (show Region.lexB _ _ = true; kernel_rfl) | (show planned _ _ = true; kernel_rfl) | exact rfl | exact True.intro | ((try dsimp only [imp, C0, cG, cInt2] at *); (try refine inR64 ?_ ?_) <;> (try simp only [List.length_set, List.length_append, List.length_take, List.length_drop]) <;> omega))

def fillOut0 (bp q eb eq : Nat) (e : Ent) (y : Nat × List Ent × Nat) : List (Ck C0) :=
  [⟨bp, q, 1, true, none, .one [.sl 2 0 1 y.2.2]⟩, ⟨eb, eq, 2, false, none, .rows 60 [e]⟩, ⟨y.1, 0, 2, true, none, .rows 60 y.2.1⟩]
theorem fill_nil (bp q eb eq : Nat) (e : Ent) :
    Does (C := C0) Tryd.prog (.fn 22) [⟨bp, q, 1, true, none, .one [.nils]⟩, ⟨eb, eq, 2, false, none, .rows 60 [e]⟩] [.fn (.func 23) [.ptr 0 0 0] [], .sl 1 0 1 1]
     [⟨Nat × List Ent × Nat, push0Post e, fun _ => .tup [], fillOut0 bp q eb eq e⟩] := by
  refine loc_fn (P := Tryd.prog) (E := ⟨[fcPpush, fcPpush0], [], 16, []⟩)
    (L := [⟨1, Unit, fun _ => [(8, .int .i64 0)], fun _ m => m, fun _ => True, fun _ => 1⟩, ⟨1, Nat × List Ent × Nat, fun _ => [(8, .int .i64 1)], fun y _ => fillOut0 bp q eb eq e y, push0Post e, fun _ => 0⟩]) mix Tryd.func22 rfl (by kernel_rfl) (by kernel_rfl) rfl rfl ?_
  ((conv => (arg 1; reduce)); with_reducible repeat' (first | exact Tr.yes_h | refine Tr.and_h ?_ ?_ | refine Tr.imp_h fun _ => ?_ | refine Tr.all_h fun _ => ?_ | refine Tr.lf_h ?_))
  all_goals try first | (show Region.lexB _ _ = true; kernel_rfl) | (show planned _ _ = true; kernel_rfl) | exact rfl | exact True.intro
  all_goals try exact absurd ‹decide ((1 : Int) < ((1 : Nat) : Int)) = true› (by decide)
  all_goals try exact absurd ‹decide ((0 : Int) < ((1 : Nat) : Int)) = false› (by decide)
  · refine Stands.one () ⟨trivial, ?_⟩
    ((conv => (arg 1; reduce)); with_reducible repeat' (first | exact Tr.yes_h | refine Tr.and_h ?_ ?_ | refine Tr.imp_h fun _ => ?_ | refine Tr.all_h fun _ => ?_ | refine Tr.lf_h ?_))
    all_goals (first | first | (show Region.lexB _ _ = true; kernel_rfl) | (show planned _ _ = true; kernel_rfl) | exact rfl | exact True.intro | ((try dsimp only [imp, C0, cG, cInt2] at *); (try refine inR64 ?_ ?_) <;> (try simp only [List.length_set, List.length_append, List.length_take, List.length_drop]) <;> omega))
  · exact Int.le_refl _
  · exact Int.zero_lt_one
  · exact Nat.zero_lt_one
  · rename_i u hu hc bx y hy
    refine Stands.next (Stands.one y ⟨hy, Nat.zero_lt_one, ?_⟩)
    ((conv => (arg 1; reduce)); with_reducible repeat' (first | exact Tr.yes_h | refine Tr.and_h ?_ ?_ | refine Tr.imp_h fun _ => ?_ | refine Tr.all_h fun _ => ?_ | refine Tr.lf_h ?_))
    all_goals (first | first | (show Region.lexB _ _ = true; kernel_rfl) | (show planned _ _ = true; kernel_rfl) | exact rfl | exact True.intro | ((try dsimp only [imp, C0, cG, cInt2] at *); (try refine inR64 ?_ ?_) <;> (try simp only [List.length_set, List.length_append, List.length_take, List.length_drop]) <;> omega))
  · rename_i y hy hc
    refine Ends.one y hy ?_
    ((conv => (arg 1; reduce)); with_reducible repeat' (first | exact Tr.yes_h | refine Tr.and_h ?_ ?_ | refine Tr.imp_h fun _ => ?_ | refine Tr.all_h fun _ => ?_ | refine Tr.lf_h ?_))
    all_goals (first | first | (show Region.lexB _ _ = true; kernel_rfl) | (show planned _ _ = true; kernel_rfl) | exact rfl | exact True.intro | ((try dsimp only [imp, C0, cG, cInt2] at *); (try refine inR64 ?_ ?_) <;> (try simp only [List.length_set, List.length_append, List.length_take, List.length_drop]) <;> omega))

noncomputable def fcFill : Fc Tryd.prog C0 where
  tg := .fn 22
  X := Hx × Nat × Nat × Ent
  args := fun _ => [.fn (.func 23) [.ptr 0 0 0] [], .sl 2 0 1 1]
  mem := fun (⟨bp, q, b, base, l, n, c⟩, eb, eq, e) => hp bp q b base true true l n c ++ [⟨eb, eq, 2, false, none, .rows 60 [e]⟩]
  pre := fun (⟨_, _, _, _, l, n, c⟩, _) => HOK l n c ∧ n < 1048576
  alts := fun (⟨bp, q, b, base, l, n, c⟩, eb, eq, e) => [⟨Nat × Nat × List Ent × Nat, pushPost l n e, fun _ => .tup [], fillOut bp q b base n eb eq e⟩]
  mat vs m := match vs with
    | [.fn _ [p] _, .sl k _ _ _] => match nth m k with
      | ⟨eb, eq, _, _, _, .rows 60 l⟩ => (matH p m).map fun (h, r) => ((h, eb, eq, l.getD 0 (0, 0)), r ++ [k])
      | _ => none
    | _ => none
  ok := fun (⟨_, _, _, _, _, _, _⟩, _, _, _) h => fill_sl _ _ _ _ _ _ _ _ _ _ h.1 h.2
noncomputable def fcFill0 : Fc Tryd.prog C0 where
  tg := .fn 22
  X := (Nat × Nat) × Nat × Nat × Ent
  args := fun _ => [.fn (.func 23) [.ptr 0 0 0] [], .sl 1 0 1 1]
  mem := fun ((bp, q), eb, eq, e) => [⟨bp, q, 1, true, none, .one [.nils]⟩, ⟨eb, eq, 2, false, none, .rows 60 [e]⟩]
  pre _ := True
  alts := fun ((bp, q), eb, eq, e) => [⟨Nat × List Ent × Nat, push0Post e, fun _ => .tup [], fillOut0 bp q eb eq e⟩]
  mat vs m := match vs with
    | [.fn _ [p] _, .sl k _ _ _] => match nth m k with
      | ⟨eb, eq, _, _, _, .rows 60 l⟩ => (matN p m).map fun (h, r) => ((h, eb, eq, l.getD 0 (0, 0)), r ++ [k])
      | _ => none
    | _ => none
  ok := fun ((_, _), _, _, _) h => fill_nil _ _ _ _ _

/-- Laid in, where it may be, and is not yet. -/
theorem add_sl (bp q b base : Nat) (l : List Ent) (n c : Nat) (e : Ent) (h : HOK l n c) (hb : n < 1048576) (h1 : 0 ≤ e.1) (h2 : e.1 < 64) (h3 : 0 ≤ e.2) (h4 : e.2 ≤ 1073741824) (hx : ixf l n e.1 = -1) :
    Does (C := C0) Tryd.prog (.fn 8) (hp bp q b base true true l n c) [.ptr 0 0 0, .int .i64 e.1, .int .i64 e.2]
     [⟨Nat × Nat × List Ent × Nat, pushPost l n e, fun _ => .nili, pushOut bp q b base n⟩] := by
  refine loc_fn (P := Tryd.prog) (E := ⟨[fcFill, fcFill0], [pcHas, pcHas0], 35, []⟩) (L := []) mix Tryd.func8 rfl (by kernel_rfl) (by kernel_rfl) rfl rfl ?_
  ((conv => (arg 1; reduce)); with_reducible repeat' (first | exact Tr.yes_h | refine Tr.and_h ?_ ?_ | refine Tr.imp_h fun _ => ?_ | refine Tr.all_h fun _ => ?_ | refine Tr.lf_h ?_))
  all_goals try first | (show Region.lexB _ _ = true; kernel_rfl) | (show planned _ _ = true; kernel_rfl) | exact rfl | exact True.intro
  · rename_i hc
    simp only [SB.val, Bool.or_eq_true, decide_eq_true_eq] at hc
    omega
  · exact ⟨Nat.le_trans h.le h.len, by omega⟩
  · rename_i hc hd
    rw [hx] at hd
    exact absurd hd (by decide)
  · exact ⟨h, hb⟩
  · rename_i hc hd bx y hy
    refine Ends.one y hy ?_
    ((conv => (arg 1; reduce)); with_reducible repeat' (first | exact Tr.yes_h | refine Tr.and_h ?_ ?_ | refine Tr.imp_h fun _ => ?_ | refine Tr.all_h fun _ => ?_ | refine Tr.lf_h ?_))
    all_goals (first | first | (show Region.lexB _ _ = true; kernel_rfl) | (show planned _ _ = true; kernel_rfl) | exact rfl | exact True.intro | ((try dsimp only [imp, C0, cG, cInt2] at *); (try refine inR64 ?_ ?_) <;> (try simp only [List.length_set, List.length_append, List.length_take, List.length_drop]) <;> omega))
theorem add_nil (bp q : Nat) (e : Ent) (h1 : 0 ≤ e.1) (h2 : e.1 < 64) (h3 : 0 ≤ e.2) (h4 : e.2 ≤ 1073741824) :
    Does (C := C0) Tryd.prog (.fn 8) [⟨bp, q, 1, true, none, .one [.nils]⟩] [.ptr 0 0 0, .int .i64 e.1, .int .i64 e.2]
     [⟨Nat × List Ent × Nat, push0Post e, fun _ => .nili, push0Out bp q⟩] := by
  refine loc_fn (P := Tryd.prog) (E := ⟨[fcFill, fcFill0], [pcHas, pcHas0], 35, []⟩) (L := []) mix Tryd.func8 rfl (by kernel_rfl) (by kernel_rfl) rfl rfl ?_
  ((conv => (arg 1; reduce)); with_reducible repeat' (first | exact Tr.yes_h | refine Tr.and_h ?_ ?_ | refine Tr.imp_h fun _ => ?_ | refine Tr.all_h fun _ => ?_ | refine Tr.lf_h ?_))
  all_goals try first | (show Region.lexB _ _ = true; kernel_rfl) | (show planned _ _ = true; kernel_rfl) | exact rfl | exact True.intro
  · rename_i hc
    simp only [SB.val, Bool.or_eq_true, decide_eq_true_eq] at hc
    omega
  · rename_i hc hd
    exact absurd hd (by decide)
  · rename_i hc hd bx y hy
    refine Ends.one y hy ?_
    ((conv => (arg 1; reduce)); with_reducible repeat' (first | exact Tr.yes_h | refine Tr.and_h ?_ ?_ | refine Tr.imp_h fun _ => ?_ | refine Tr.all_h fun _ => ?_ | refine Tr.lf_h ?_))
    all_goals (first | first | (show Region.lexB _ _ = true; kernel_rfl) | (show planned _ _ = true; kernel_rfl) | exact rfl | exact True.intro | ((try dsimp only [imp, C0, cG, cInt2] at *); (try refine inR64 ?_ ?_) <;> (try simp only [List.length_set, List.length_append, List.length_take, List.length_drop]) <;> omega))
noncomputable def fcAdd : Fc Tryd.prog C0 where
  tg := .fn 8
  X := Hx × Ent
  args := fun (_, e) => [.ptr 0 0 0, .int .i64 e.1, .int .i64 e.2]
  mem := fun (⟨bp, q, b, base, l, n, c⟩, _) => hp bp q b base true true l n c
  pre := fun (⟨_, _, _, _, l, n, c⟩, e) => HOK l n c ∧ n < 1048576 ∧ 0 ≤ e.1 ∧ e.1 < 64 ∧ 0 ≤ e.2 ∧ e.2 ≤ 1073741824 ∧ ixf l n e.1 = -1
  alts := fun (⟨bp, q, b, base, l, n, c⟩, e) => [⟨Nat × Nat × List Ent × Nat, pushPost l n e, fun _ => .nili, pushOut bp q b base n⟩]
  mat vs m := match vs with
    | [p, .int _ a, .int _ b] => (matH p m).map fun (h, r) => ((h, (a, b)), r)
    | _ => none
  ok := fun (⟨_, _, _, _, _, _, _⟩, _) h => add_sl _ _ _ _ _ _ _ _ h.1 h.2.1 h.2.2.1 h.2.2.2.1 h.2.2.2.2.1 h.2.2.2.2.2.1 h.2.2.2.2.2.2
noncomputable def fcAdd0 : Fc Tryd.prog C0 where
  tg := .fn 8
  X := (Nat × Nat) × Ent
  args := fun (_, e) => [.ptr 0 0 0, .int .i64 e.1, .int .i64 e.2]
  mem := fun ((bp, q), _) => [⟨bp, q, 1, true, none, .one [.nils]⟩]
  pre := fun (_, e) => 0 ≤ e.1 ∧ e.1 < 64 ∧ 0 ≤ e.2 ∧ e.2 ≤ 1073741824
  alts := fun ((bp, q), e) => [⟨Nat × List Ent × Nat, push0Post e, fun _ => .nili, push0Out bp q⟩]
  mat vs m := match vs with
    | [p, .int _ a, .int _ b] => (matN p m).map fun (h, r) => ((h, (a, b)), r)
    | _ => none
  ok := fun ((_, _), _) h => add_nil _ _ _ h.1 h.2.1 h.2.2.1 h.2.2.2
end Go.Vx
