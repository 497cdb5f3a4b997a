/-
  Round 17: Add whatever it is told; the least; a copy; the iterator's maker.
  Conditions: none.
-/
import Derived.Test.YtncpjklejppdkaaDoorPpG
import Derived.Test.YtncpjklejppdkaaDoorPpF
import Derived.Test.YtncpjklejppdkaaDoorPoK
set_option linter.unusedSectionVars false
set_option maxRecDepth 100000
set_option linter.unusedVariables false
set_option linter.unusedSimpArgs false
namespace Go.Vx
open Go Go.Proofs
variable [Gl]

/-- The error that Add answers. -/
@[irreducible] def addE (bad : Bool) : Addr := if bad then Gl.A 0 else Gl.A 1
theorem addE_t : addE true = Gl.A 0 := by unfold addE; rfl
theorem addE_f : addE false = Gl.A 1 := by unfold addE; rfl
theorem badB_t {b w : Int} (h : b < 0 ∨ 64 ≤ b ∨ w < 0 ∨ 1073741824 < w) : badB b w = true := by
  unfold badB
  simp only [Bool.or_eq_true, decide_eq_true_eq, Bool.not_eq_true', Bool.and_eq_false_iff, decide_eq_false_iff_not]
  omega
theorem badB_f {b w : Int} (h : ¬ (b < 0 ∨ 64 ≤ b ∨ w < 0 ∨ 1073741824 < w)) : badB b w = false := by
  unfold badB
  simp only [Bool.or_eq_false_iff, decide_eq_false_iff_not, Bool.not_eq_false', Bool.and_eq_true, decide_eq_true_eq]
  omega
def gHas (l : List Ent) (n : Nat) (b : Int) : Bool := decide (0 ≤ ixf l n b)
theorem addG_sl (bp q b base : Nat) (l : List Ent) (n c : Nat) (e : Ent) (h : HOK l n c) (hb : n < 1048576) :
    Does (C := C0) Tryd.prog (.fn 8) (hp bp q b base true true l n c) [.ptr 0 0 0, .int .i64 e.1, .int .i64 e.2]
     [⟨Unit, fun _ => badB e.1 e.2 = true ∨ gHas l n e.1 = true, fun _ => er (addE (badB e.1 e.2)), fun _ => hp bp q b base true true l n c⟩,
      ⟨Nat × Nat × List Ent × Nat, fun y => badB e.1 e.2 = false ∧ gHas l n e.1 = false ∧ pushPost l n e y, fun _ => .nili, pushOut bp q b base n⟩] := by
  refine loc_fn (P := Tryd.prog) (E := ⟨[fcFill, fcFill0], [pcHas, pcHas0], 35, []⟩) (L := []) mix Tryd.func8 rfl (by kernel_rfl) (by kernel_rfl) rfl rfl ?_
  ((conv => (arg 1; reduce)); with_reducible repeat' (first | exact Tr.yes_h | refine Tr.and_h ?_ ?_ | refine Tr.imp_h fun _ => ?_ | refine Tr.all_h fun _ => ?_ | refine Tr.lf_h ?_))
  all_goals try first | (show Region.lexB _ _ = true; kernel_rfl) | (show planned _ _ = true; kernel_rfl) | exact rfl | exact True.intro
  · rename_i hc
    simp only [SB.val, Bool.or_eq_true, decide_eq_true_eq] at hc
    have hbad := badB_t (b := e.1) (w := e.2) (by omega)
    refine Ends.one () (.inl hbad) ?_
    ((conv => (arg 1; reduce)); with_reducible repeat' (first | exact Tr.yes_h | refine Tr.and_h ?_ ?_ | refine Tr.imp_h fun _ => ?_ | refine Tr.all_h fun _ => ?_ | refine Tr.lf_h ?_))
    all_goals first | (first | first | (show Region.lexB _ _ = true; kernel_rfl) | (show planned _ _ = true; kernel_rfl) | exact rfl | exact True.intro | ((try dsimp only [imp, C0, cG, cInt2] at *); (try refine inR64 ?_ ?_) <;> (try simp only [List.length_set, List.length_append, List.length_take, List.length_drop]) <;> omega)) | (rw [hbad, addE_t])
  · exact ⟨Nat.le_trans h.le h.len, by omega⟩
  · rename_i hc hd
    simp only [SB.val, Bool.or_eq_false_iff, decide_eq_false_iff_not] at hc
    have hbad := badB_f (b := e.1) (w := e.2) (by omega)
    refine Ends.one () (.inr hd) ?_
    ((conv => (arg 1; reduce)); with_reducible repeat' (first | exact Tr.yes_h | refine Tr.and_h ?_ ?_ | refine Tr.imp_h fun _ => ?_ | refine Tr.all_h fun _ => ?_ | refine Tr.lf_h ?_))
    all_goals first | (first | first | (show Region.lexB _ _ = true; kernel_rfl) | (show planned _ _ = true; kernel_rfl) | exact rfl | exact True.intro | ((try dsimp only [imp, C0, cG, cInt2] at *); (try refine inR64 ?_ ?_) <;> (try simp only [List.length_set, List.length_append, List.length_take, List.length_drop]) <;> omega)) | (rw [hbad, addE_f])
  · exact ⟨h, hb⟩
  · rename_i hc hd bx y hy
    simp only [SB.val, Bool.or_eq_false_iff, decide_eq_false_iff_not] at hc
    refine Ends.next (Ends.one y ⟨badB_f (by omega), hd, hy⟩ ?_)
    ((conv => (arg 1; reduce)); with_reducible repeat' (first | exact Tr.yes_h | refine Tr.and_h ?_ ?_ | refine Tr.imp_h fun _ => ?_ | refine Tr.all_h fun _ => ?_ | refine Tr.lf_h ?_))
    all_goals (first | first | (show Region.lexB _ _ = true; kernel_rfl) | (show planned _ _ = true; kernel_rfl) | exact rfl | exact True.intro | ((try dsimp only [imp, C0, cG, cInt2] at *); (try refine inR64 ?_ ?_) <;> (try simp only [List.length_set, List.length_append, List.length_take, List.length_drop]) <;> omega))
theorem addG_nil (bp q : Nat) (e : Ent) :
    Does (C := C0) Tryd.prog (.fn 8) [⟨bp, q, 1, true, none, .one [.nils]⟩] [.ptr 0 0 0, .int .i64 e.1, .int .i64 e.2]
     [⟨Unit, fun _ => badB e.1 e.2 = true, fun _ => er (addE (badB e.1 e.2)), fun _ => [⟨bp, q, 1, true, none, .one [.nils]⟩]⟩,
      ⟨Nat × List Ent × Nat, fun y => badB e.1 e.2 = false ∧ push0Post e y, fun _ => .nili, push0Out bp q⟩] := by
  refine loc_fn (P := Tryd.prog) (E := ⟨[fcFill, fcFill0], [pcHas, pcHas0], 35, []⟩) (L := []) mix Tryd.func8 rfl (by kernel_rfl) (by kernel_rfl) rfl rfl ?_
  ((conv => (arg 1; reduce)); with_reducible repeat' (first | exact Tr.yes_h | refine Tr.and_h ?_ ?_ | refine Tr.imp_h fun _ => ?_ | refine Tr.all_h fun _ => ?_ | refine Tr.lf_h ?_))
  all_goals try first | (show Region.lexB _ _ = true; kernel_rfl) | (show planned _ _ = true; kernel_rfl) | exact rfl | exact True.intro
  · rename_i hc
    simp only [SB.val, Bool.or_eq_true, decide_eq_true_eq] at hc
    have hbad := badB_t (b := e.1) (w := e.2) (by omega)
    refine Ends.one () hbad ?_
    ((conv => (arg 1; reduce)); with_reducible repeat' (first | exact Tr.yes_h | refine Tr.and_h ?_ ?_ | refine Tr.imp_h fun _ => ?_ | refine Tr.all_h fun _ => ?_ | refine Tr.lf_h ?_))
    all_goals first | (first | first | (show Region.lexB _ _ = true; kernel_rfl) | (show planned _ _ = true; kernel_rfl) | exact rfl | exact True.intro | ((try dsimp only [imp, C0, cG, cInt2] at *); (try refine inR64 ?_ ?_) <;> (try simp only [List.length_set, List.length_append, List.length_take, List.length_drop]) <;> omega)) | (rw [hbad, addE_t])
  · rename_i hc hd
    exact absurd hd (by decide)
  · rename_i hc hd bx y hy
    simp only [SB.val, Bool.or_eq_false_iff, decide_eq_false_iff_not] at hc
    refine Ends.next (Ends.one y ⟨badB_f (by omega), hy⟩ ?_)
    ((conv => (arg 1; reduce)); with_reducible repeat' (first | exact Tr.yes_h | refine Tr.and_h ?_ ?_ | refine Tr.imp_h fun _ => ?_ | refine Tr.all_h fun _ => ?_ | refine Tr.lf_h ?_))
    all_goals (first | first | (show Region.lexB _ _ = true; kernel_rfl) | (show planned _ _ = true; kernel_rfl) | exact rfl | exact True.intro | ((try dsimp only [imp, C0, cG, cInt2] at *); (try refine inR64 ?_ ?_) <;> (try simp only [List.length_set, List.length_append, List.length_take, List.length_drop]) <;> omega))
noncomputable def fcAddG : Fc Tryd.prog C0 where
  tg := .fn 8
  X := Hx × Ent
  args := fun (_, e) => [.ptr 0 0 0, .int .i64 e.1, .int .i64 e.2]
  mem := fun (⟨bp, q, b, base, l, n, c⟩, _) => hp bp q b base true true l n c
  pre := fun (⟨_, _, _, _, l, n, c⟩, e) => HOK l n c ∧ n < 1048576
  alts := fun (⟨bp, q, b, base, l, n, c⟩, e) => [⟨Unit, fun _ => badB e.1 e.2 = true ∨ gHas l n e.1 = true, fun _ => er (addE (badB e.1 e.2)), fun _ => hp bp q b base true true l n c⟩,
      ⟨Nat × Nat × List Ent × Nat, fun y => badB e.1 e.2 = false ∧ gHas l n e.1 = false ∧ pushPost l n e y, fun _ => .nili, pushOut bp q b base n⟩]
  mat vs m := match vs with
    | [p, .int _ a, .int _ b] => (matH p m).map fun (h, r) => ((h, (a, b)), r)
    | _ => none
  ok := fun (⟨_, _, _, _, _, _, _⟩, _) h => addG_sl _ _ _ _ _ _ _ _ h.1 h.2
noncomputable def fcAddG0 : Fc Tryd.prog C0 where
  tg := .fn 8
  X := (Nat × Nat) × Ent
  args := fun (_, e) => [.ptr 0 0 0, .int .i64 e.1, .int .i64 e.2]
  mem := fun ((bp, q), _) => [⟨bp, q, 1, true, none, .one [.nils]⟩]
  pre := fun _ => True
  alts := fun ((bp, q), e) => [⟨Unit, fun _ => badB e.1 e.2 = true, fun _ => er (addE (badB e.1 e.2)), fun _ => [⟨bp, q, 1, true, none, .one [.nils]⟩]⟩,
      ⟨Nat × List Ent × Nat, fun y => badB e.1 e.2 = false ∧ push0Post e y, fun _ => .nili, push0Out bp q⟩]
  mat vs m := match vs with
    | [p, .int _ a, .int _ b] => (matN p m).map fun (h, r) => ((h, (a, b)), r)
    | _ => none
  ok := fun ((_, _), _) h => addG_nil _ _ _

/-! The least. -/
@[irreducible] def leastE (l : List Ent) (n : Nat) : Ent := if n = 0 then (0, 0) else at_ l 0
theorem least_ok (bp q b base : Nat) (l : List Ent) (n c : Nat) (hn : n ≤ l.length) :
    Tells (C := C0) Tryd.prog (.fn 19) (hp bp q b base false false l n c) [.ptr 0 0 0] (.tup [.int .i64 (leastE l n).1, .int .i64 (leastE l n).2, .bool (.tm (decide (0 < n)))]) := by
  refine loc_pc (P := Tryd.prog) (E := ⟨[], [], 25, []⟩) (L := []) mix Tryd.func19 rfl (by kernel_rfl) (by kernel_rfl) rfl rfl ?_
  ((conv => (arg 1; reduce)); with_reducible repeat' (first | exact Tr.yes_h | refine Tr.and_h ?_ ?_ | refine Tr.imp_h fun _ => ?_ | refine Tr.all_h fun _ => ?_ | refine Tr.lf_h ?_))
  all_goals try first | (show Region.lexB _ _ = true; kernel_rfl) | (show planned _ _ = true; kernel_rfl) | exact rfl | exact True.intro
  · rename_i hc
    have hc := of_decide_eq_true hc
    have h0 : n = 0 := by omega
    subst h0; unfold leastE; rfl
  · rename_i hc
    have hc := of_decide_eq_true hc
    have h0 : n = 0 := by omega
    subst h0; unfold leastE; rfl
  · rename_i hc
    have hc := of_decide_eq_true hc
    exact (decide_eq_false (by omega)).symm
  all_goals rename_i hc
  all_goals have hc := of_decide_eq_false hc
  all_goals have h0 : 0 < n := by omega
  all_goals have e1 : leastE l n = at_ l 0 := by unfold leastE; rw [if_neg (by omega)]
  all_goals first | omega | (rw [e1]; rfl) | exact (decide_eq_true h0).symm
theorem least_nil (bp q : Nat) :
    Tells (C := C0) Tryd.prog (.fn 19) [⟨bp, q, 1, false, none, .one [.nils]⟩] [.ptr 0 0 0] (.tup [.int .i64 0, .int .i64 0, .bool .f]) := by
  refine loc_pc (P := Tryd.prog) (E := ⟨[], [], 25, []⟩) (L := []) mix Tryd.func19 rfl (by kernel_rfl) (by kernel_rfl) rfl rfl ?_
  ((conv => (arg 1; reduce)); with_reducible repeat' (first | exact Tr.yes_h | refine Tr.and_h ?_ ?_ | refine Tr.imp_h fun _ => ?_ | refine Tr.all_h fun _ => ?_ | refine Tr.lf_h ?_))
  all_goals try first | (show Region.lexB _ _ = true; kernel_rfl) | (show planned _ _ = true; kernel_rfl) | exact rfl | exact True.intro
  all_goals exact absurd (by with_reducible assumption : decide ((0 : Int) = 0) = false) (by decide)
noncomputable def pcLeast : Pc Tryd.prog C0 where
  tg := .fn 19
  X := Hx
  args := fun _ => [.ptr 0 0 0]
  mem := fun ⟨bp, q, b, base, l, n, c⟩ => hp bp q b base false false l n c
  pre := fun ⟨_, _, _, _, l, n, _⟩ => n ≤ l.length
  res := fun ⟨_, _, _, _, l, n, _⟩ => .tup [.int .i64 (leastE l n).1, .int .i64 (leastE l n).2, .bool (.tm (decide (0 < n)))]
  mat vs m := match vs with
    | [p] => matH p m
    | _ => none
  ok := fun ⟨_, _, _, _, _, _, _⟩ h => least_ok _ _ _ _ _ _ _ h
noncomputable def pcLeast0 : Pc Tryd.prog C0 where
  tg := .fn 19
  X := Nat × Nat
  args := fun _ => [.ptr 0 0 0]
  mem := fun (bp, q) => [⟨bp, q, 1, false, none, .one [.nils]⟩]
  pre := fun _ => True
  res := fun _ => .tup [.int .i64 0, .int .i64 0, .bool .f]
  mat vs m := match vs with
    | [p] => matN p m
    | _ => none
  ok := fun (_, _) _ => least_nil _ _

/-! A copy. -/
theorem clone_ok (b base : Nat) (l : List Ent) (n c : Nat) (hn : n ≤ l.length) (hb : n < 1048576) :
    Does (C := C0) Tryd.prog (.fn 32) [⟨b, base, 2, false, none, .rows 60 l⟩] [.sl 0 0 n c]
     [⟨Nat × Nat × List Ent × Nat, fun y => n ≤ y.2.2.2 ∧ y.2.2.2 ≤ y.2.2.1.length ∧ y.2.2.1.take n = l.take n, fun y => .sl 1 0 n y.2.2.2, fun y => [⟨b, base, 2, false, none, .rows 60 l⟩, ⟨y.1, y.2.1, 2, true, none, .rows 60 y.2.2.1⟩]⟩] := by
  refine loc_fn (P := Tryd.prog) (E := ⟨[], [], 8, []⟩) (L := []) mix Tryd.func32 rfl (by kernel_rfl) (by kernel_rfl) rfl rfl ?_
  ((conv => (arg 1; reduce)); with_reducible repeat' (first | exact Tr.yes_h | refine Tr.and_h ?_ ?_ | refine Tr.imp_h fun _ => ?_ | refine Tr.all_h fun _ => ?_ | refine Tr.lf_h ?_))
  all_goals try first | (show Region.lexB _ _ = true; kernel_rfl) | (show planned _ _ = true; kernel_rfl) | exact rfl | exact True.intro
  · rw [by60]
    exact ⟨Nat.le_refl _, by simp, by omega, by omega⟩
  · rename_i b1 b2 base2 sp cap h1 h2
    have hl : (([] : List Ent) ++ l.take n ++ sp).length = n + sp.length := by
      simp only [List.nil_append, List.length_append, List.length_take]; omega
    refine Ends.one (b2, base2, [] ++ l.take n ++ sp, cap) ⟨?_, ?_, ?_⟩ ?_
    · show n ≤ cap; omega
    · show cap ≤ ([] ++ l.take n ++ sp).length
      rw [hl]; omega
    · show ([] ++ l.take n ++ sp).take n = l.take n
      rw [List.nil_append, List.take_append_of_le_length (by rw [List.length_take]; omega), List.take_take, Nat.min_self]
    ((conv => (arg 1; reduce)); with_reducible repeat' (first | exact Tr.yes_h | refine Tr.and_h ?_ ?_ | refine Tr.imp_h fun _ => ?_ | refine Tr.all_h fun _ => ?_ | refine Tr.lf_h ?_))
    all_goals first | (first | first | (show Region.lexB _ _ = true; kernel_rfl) | (show planned _ _ = true; kernel_rfl) | exact rfl | exact True.intro | ((try dsimp only [imp, C0, cG, cInt2] at *); (try refine inR64 ?_ ?_) <;> (try simp only [List.length_set, List.length_append, List.length_take, List.length_drop]) <;> omega)) | (show 0 + n = n; omega)
theorem clone_nil : Tells (C := C0) Tryd.prog (.fn 32) [] [.nils] .nils := by
  refine loc_pc (P := Tryd.prog) (E := ⟨[], [], 8, []⟩) (L := []) mix Tryd.func32 rfl (by kernel_rfl) (by kernel_rfl) rfl rfl ?_
  ((conv => (arg 1; reduce)); with_reducible repeat' (first | exact Tr.yes_h | refine Tr.and_h ?_ ?_ | refine Tr.imp_h fun _ => ?_ | refine Tr.all_h fun _ => ?_ | refine Tr.lf_h ?_))
  all_goals (first | first | (show Region.lexB _ _ = true; kernel_rfl) | (show planned _ _ = true; kernel_rfl) | exact rfl | exact True.intro | ((try dsimp only [imp, C0, cG, cInt2] at *); (try refine inR64 ?_ ?_) <;> (try simp only [List.length_set, List.length_append, List.length_take, List.length_drop]) <;> omega))
noncomputable def fcClone : Fc Tryd.prog C0 where
  tg := .fn 32
  X := Nat × Nat × List Ent × Nat × Nat
  args := fun (_, _, _, n, c) => [.sl 0 0 n c]
  mem := fun (b, base, l, _, _) => [⟨b, base, 2, false, none, .rows 60 l⟩]
  pre := fun (_, _, l, n, _) => n ≤ l.length ∧ n < 1048576
  alts := fun (b, base, l, n, c) => [⟨Nat × Nat × List Ent × Nat, fun y => n ≤ y.2.2.2 ∧ y.2.2.2 ≤ y.2.2.1.length ∧ y.2.2.1.take n = l.take n, fun y => .sl 1 0 n y.2.2.2, fun y => [⟨b, base, 2, false, none, .rows 60 l⟩, ⟨y.1, y.2.1, 2, true, none, .rows 60 y.2.2.1⟩]⟩]
  mat vs m := match vs with
    | [.sl r _ n c] => match nth m r with
      | ⟨bb, q, _, _, _, .rows 60 l⟩ => some ((bb, q, l, n, c), [r])
      | _ => none
    | _ => none
  ok := fun (_, _, _, _, _) h => clone_ok _ _ _ _ _ h.1 h.2
def pcClone0 : Pc Tryd.prog C0 where
  tg := .fn 32
  X := Unit
  args _ := [.nils]
  mem _ := []
  pre _ := True
  res _ := .nils
  mat vs _ := match vs with
    | [.nils] => some ((), [])
    | _ => none
  ok _ _ := clone_nil
/-! The iterator's maker. -/
theorem each_ok (bp q : Nat) :
    Does (C := C0) Tryd.prog (.fn 21) [⟨bp, q, 1, false, none, .dead⟩] [.ptr 0 0 0]
     [⟨Nat, fun _ => True, fun _ => .fn (.func 31) [] [.ptr 1 0 0], fun y => [⟨bp, q, 1, false, none, .dead⟩, ⟨y, 0, 1, true, none, .one [.ptr 0 0 0]⟩]⟩] := by
  refine loc_fn (P := Tryd.prog) (E := ⟨[], [], 4, []⟩) (L := []) mix Tryd.func21 rfl (by kernel_rfl) (by kernel_rfl) rfl rfl ?_
  ((conv => (arg 1; reduce)); with_reducible repeat' (first | exact Tr.yes_h | refine Tr.and_h ?_ ?_ | refine Tr.imp_h fun _ => ?_ | refine Tr.all_h fun _ => ?_ | refine Tr.lf_h ?_))
  all_goals try first | (show Region.lexB _ _ = true; kernel_rfl) | (show planned _ _ = true; kernel_rfl) | exact rfl | exact True.intro
  · rename_i b1
    refine Ends.one b1 trivial ?_
    ((conv => (arg 1; reduce)); with_reducible repeat' (first | exact Tr.yes_h | refine Tr.and_h ?_ ?_ | refine Tr.imp_h fun _ => ?_ | refine Tr.all_h fun _ => ?_ | refine Tr.lf_h ?_))
    all_goals (first | first | (show Region.lexB _ _ = true; kernel_rfl) | (show planned _ _ = true; kernel_rfl) | exact rfl | exact True.intro | ((try dsimp only [imp, C0, cG, cInt2] at *); (try refine inR64 ?_ ?_) <;> (try simp only [List.length_set, List.length_append, List.length_take, List.length_drop]) <;> omega))
noncomputable def fcEach : Fc Tryd.prog C0 where
  tg := .fn 21
  X := Nat × Nat
  args := fun _ => [.ptr 0 0 0]
  mem := fun (bp, q) => [⟨bp, q, 1, false, none, .dead⟩]
  pre _ := True
  alts := fun (bp, q) => [⟨Nat, fun _ => True, fun _ => .fn (.func 31) [] [.ptr 1 0 0], fun y => [⟨bp, q, 1, false, none, .dead⟩, ⟨y, 0, 1, true, none, .one [.ptr 0 0 0]⟩]⟩]
  mat vs m := match vs with
    | [.ptr p 0 0] => match nth m p with
      | ⟨bb, q, _, _, _, _⟩ => some ((bb, q), [p])
    | _ => none
  ok := fun (_, _) _ => each_ok _ _
end Go.Vx
