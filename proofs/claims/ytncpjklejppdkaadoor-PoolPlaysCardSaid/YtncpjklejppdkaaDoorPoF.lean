/-
  Round 17: where a block stands in a heap.
  Conditions: none.
-/
import Derived.Test.YtncpjklejppdkaaDoorPoE
set_option linter.unusedSectionVars false
set_option maxRecDepth 100000
set_option linter.unusedVariables false
set_option linter.unusedSimpArgs false
namespace Go.Vx
open Go Go.Proofs
variable [Gl]

theorem at37_ok (bb qq : Nat) (b : Int) (e : Ent) :
    Tells (C := C0) Tryd.prog (.fn 37) [⟨bb, qq, 1, false, none, .one [.int .i64 b]⟩] [.agg [.int .i64 e.1, .int .i64 e.2], .ptr 0 0 0] (.bool (.tm (decide (e.1 = b)))) := by
  refine loc_pc (P := Tryd.prog) (E := ⟨[], [], 8, []⟩) (L := []) mix Tryd.func37 rfl (by kernel_rfl) (by kernel_rfl) rfl rfl ?_
  ((conv => (arg 1; reduce)); with_reducible repeat' (first | exact Tr.yes_h | refine Tr.and_h ?_ ?_ | refine Tr.imp_h fun _ => ?_ | refine Tr.all_h fun _ => ?_ | refine Tr.lf_h ?_))
  all_goals (first | first | (show Region.lexB _ _ = true; kernel_rfl) | (show planned _ _ = true; kernel_rfl) | exact rfl | exact True.intro | ((try dsimp only [imp, C0, cG, cInt2] at *); (try refine inR64 ?_ ?_) <;> (try simp only [List.length_set, List.length_append, List.length_take, List.length_drop]) <;> omega))
noncomputable def pcAt : Pc Tryd.prog C0 where
  tg := .fn 37
  X := Nat × Nat × Int × Ent
  args := fun (_, _, _, e) => [.agg [.int .i64 e.1, .int .i64 e.2], .ptr 0 0 0]
  mem := fun (bb, qq, b, _) => [⟨bb, qq, 1, false, none, .one [.int .i64 b]⟩]
  pre _ := True
  res := fun (_, _, b, e) => .bool (.tm (decide (e.1 = b)))
  mat vs m := match vs with
    | [.agg [.int _ a, .int _ w], .ptr k _ _] => match nth m k with
      | ⟨bb, qq, _, _, _, .one [.int _ b]⟩ => some ((bb, qq, b, (a, w)), [k])
      | _ => none
    | _ => none
  ok := fun (_, _, _, _) _ => at37_ok _ _ _ _

/-- Where a block stands; -1: nowhere. -/
def ixf (l : List Ent) (n : Nat) (b : Int) : Int :=
  match (l.take n).findIdx? (fun e => decide (e.1 = b)) with
  | some k => k
  | none => -1
theorem get_at {l : List Ent} {i : Nat} (h : i < l.length) : l[i] = at_ l i := by simp [at_, List.getD_eq_getElem?_getD, h]
theorem ixf_some {l : List Ent} {n i : Nat} {b : Int} (hn : n ≤ l.length) (hi : i < n) (h : (at_ l i).1 = b) (hf : ∀ k, k < i → (at_ l k).1 ≠ b) : ixf l n b = i := by
  have : (l.take n).findIdx? (fun e => decide (e.1 = b)) = some i := by
    rw [List.findIdx?_eq_some_iff_getElem]
    refine ⟨by simp; omega, ?_, fun j hj => ?_⟩
    · rw [List.getElem_take, get_at]; exact decide_eq_true h
    · rw [List.getElem_take, get_at]
      have := hf j hj
      simp only [decide_eq_true_eq]; exact this
  unfold ixf; rw [this]
theorem ixf_none {l : List Ent} {n : Nat} {b : Int} (hn : n ≤ l.length) (hf : ∀ k, k < n → (at_ l k).1 ≠ b) : ixf l n b = -1 := by
  have : (l.take n).findIdx? (fun e => decide (e.1 = b)) = none := by
    rw [List.findIdx?_eq_none_iff]
    intro x hx
    obtain ⟨k, hk, rfl⟩ := List.mem_iff_getElem.1 hx
    simp at hk
    rw [List.getElem_take, get_at]
    exact decide_eq_false (hf k (by omega))
  unfold ixf; rw [this]

theorem index_ok (b base bb qq : Nat) (l : List Ent) (n c : Nat) (x : Int) (hn : n ≤ l.length) (hb : n < 1048577) :
    Tells (C := C0) Tryd.prog (.fn 36) [⟨b, base, 2, false, none, .rows 60 l⟩, ⟨bb, qq, 1, false, none, .one [.int .i64 x]⟩] [.sl 0 0 n c, .fn (.func 37) [] [.ptr 1 0 0]] (.int .i64 (ixf l n x)) := by
  refine loc_pc (P := Tryd.prog) (E := ⟨[], [pcAt], 19, []⟩) (L := [⟨2, Nat, fun i => [(8, .int .i64 i)], fun i m => m, fun i => i ≤ n ∧ ∀ k, k < i → (at_ l k).1 ≠ x, fun i => n - i⟩]) mix Tryd.func36 rfl (by kernel_rfl) (by kernel_rfl) rfl rfl ?_
  ((conv => (arg 1; reduce)); with_reducible repeat' (first | exact Tr.yes_h | refine Tr.and_h ?_ ?_ | refine Tr.imp_h fun _ => ?_ | refine Tr.all_h fun _ => ?_ | refine Tr.lf_h ?_))
  all_goals try first | (show Region.lexB _ _ = true; kernel_rfl) | (show planned _ _ = true; kernel_rfl) | exact rfl | exact True.intro
  · refine Stands.one 0 ⟨⟨Nat.zero_le _, fun k hk => by omega⟩, ?_⟩
    ((conv => (arg 1; reduce)); with_reducible repeat' (first | exact Tr.yes_h | refine Tr.and_h ?_ ?_ | refine Tr.imp_h fun _ => ?_ | refine Tr.all_h fun _ => ?_ | refine Tr.lf_h ?_))
    all_goals (first | first | (show Region.lexB _ _ = true; kernel_rfl) | (show planned _ _ = true; kernel_rfl) | exact rfl | exact True.intro | ((try dsimp only [imp, C0, cG, cInt2] at *); (try refine inR64 ?_ ?_) <;> (try simp only [List.length_set, List.length_append, List.length_take, List.length_drop]) <;> omega))
  all_goals try (rename_i i hi hc; obtain ⟨h1, h2⟩ := hi; ((try simp only [decide_eq_true_eq, decide_eq_false_iff_not, Bool.and_eq_true, Bool.or_eq_true, Bool.or_eq_false_iff, Bool.and_eq_false_iff, Bool.not_eq_true', Bool.not_eq_false', SB.val] at *); (try dsimp only [imp, C0, cG, cInt2] at *); (try refine inR64 ?_ ?_) <;> (try simp only [List.length_set, List.length_append, List.length_take, List.length_drop, List.length_replicate]) <;> omega))
  · rename_i i hi hc hd
    obtain ⟨h1, h2⟩ := hi
    have hd : (at_ l i).1 = x := of_decide_eq_true hd
    have hc := of_decide_eq_true hc
    exact (ixf_some hn (by omega) hd h2).symm
  · rename_i i hi hc hd
    obtain ⟨h1, h2⟩ := hi
    have hc := of_decide_eq_true hc
    exact inR64 (by omega) (by omega)
  · rename_i i hi hc hd
    obtain ⟨h1, h2⟩ := hi
    have hd : (at_ l i).1 ≠ x := of_decide_eq_false hd
    have hc := of_decide_eq_true hc
    refine Stands.one (i + 1) ⟨⟨by omega, fun k hk => ?_⟩, ?_, ?_⟩
    · by_cases e : k = i
      · rw [e]; exact hd
      · exact h2 k (by omega)
    · show n - (i + 1) < n - i; omega
    · ((conv => (arg 1; reduce)); with_reducible repeat' (first | exact Tr.yes_h | refine Tr.and_h ?_ ?_ | refine Tr.imp_h fun _ => ?_ | refine Tr.all_h fun _ => ?_ | refine Tr.lf_h ?_))
      all_goals (first | first | (show Region.lexB _ _ = true; kernel_rfl) | (show planned _ _ = true; kernel_rfl) | exact rfl | exact True.intro | ((try dsimp only [imp, C0, cG, cInt2] at *); (try refine inR64 ?_ ?_) <;> (try simp only [List.length_set, List.length_append, List.length_take, List.length_drop]) <;> omega))
  · rename_i i hi hc
    obtain ⟨h1, h2⟩ := hi
    have hc := of_decide_eq_false hc
    exact (ixf_none hn fun k hk => h2 k (by omega)).symm

theorem index_nil (bb qq : Nat) (x : Int) :
    Tells (C := C0) Tryd.prog (.fn 36) [⟨bb, qq, 1, false, none, .one [.int .i64 x]⟩] [.nils, .fn (.func 37) [] [.ptr 0 0 0]] (.int .i64 (-1)) := by
  refine loc_pc (P := Tryd.prog) (E := ⟨[], [pcAt], 19, []⟩) (L := [⟨2, Unit, fun i => [(8, .int .i64 0)], fun i m => m, fun i => True, fun i => 0⟩]) mix Tryd.func36 rfl (by kernel_rfl) (by kernel_rfl) rfl rfl ?_
  ((conv => (arg 1; reduce)); with_reducible repeat' (first | exact Tr.yes_h | refine Tr.and_h ?_ ?_ | refine Tr.imp_h fun _ => ?_ | refine Tr.all_h fun _ => ?_ | refine Tr.lf_h ?_))
  all_goals try first | (show Region.lexB _ _ = true; kernel_rfl) | (show planned _ _ = true; kernel_rfl) | exact rfl | exact True.intro
  · refine Stands.one () ⟨trivial, ?_⟩
    ((conv => (arg 1; reduce)); with_reducible repeat' (first | exact Tr.yes_h | refine Tr.and_h ?_ ?_ | refine Tr.imp_h fun _ => ?_ | refine Tr.all_h fun _ => ?_ | refine Tr.lf_h ?_))
    all_goals (first | first | (show Region.lexB _ _ = true; kernel_rfl) | (show planned _ _ = true; kernel_rfl) | exact rfl | exact True.intro | ((try dsimp only [imp, C0, cG, cInt2] at *); (try refine inR64 ?_ ?_) <;> (try simp only [List.length_set, List.length_append, List.length_take, List.length_drop]) <;> omega))
  · rename_i i hi hc
    exact absurd hc (by decide)

noncomputable def pcIx : Pc Tryd.prog C0 where
  tg := .fn 36
  X := (Nat × Nat × List Ent × Nat × Nat) × (Nat × Nat × Int)
  args := fun ((_, _, _, n, c), _) => [.sl 0 0 n c, .fn (.func 37) [] [.ptr 1 0 0]]
  mem := fun ((b, base, l, _, _), (bb, qq, x)) => [⟨b, base, 2, false, none, .rows 60 l⟩, ⟨bb, qq, 1, false, none, .one [.int .i64 x]⟩]
  pre := fun ((_, _, l, n, _), _) => n ≤ l.length ∧ n < 1048577
  res := fun ((_, _, l, n, _), (_, _, x)) => .int .i64 (ixf l n x)
  mat vs m := match vs with
    | [.sl a _ n c, .fn _ _ [.ptr k _ _]] => match nth m a with
      | ⟨b, base, _, _, _, .rows 60 l⟩ => match nth m k with
        | ⟨bb, qq, _, _, _, .one [.int _ x]⟩ => some (((b, base, l, n, c), (bb, qq, x)), [a, k])
        | _ => none
      | _ => none
    | _ => none
  ok := fun ((_, _, _, _, _), (_, _, _)) h => index_ok _ _ _ _ _ _ _ _ h.1 h.2
noncomputable def pcIx0 : Pc Tryd.prog C0 where
  tg := .fn 36
  X := Nat × Nat × Int
  args := fun _ => [.nils, .fn (.func 37) [] [.ptr 0 0 0]]
  mem := fun (bb, qq, x) => [⟨bb, qq, 1, false, none, .one [.int .i64 x]⟩]
  pre _ := True
  res := fun _ => .int .i64 (-1)
  mat vs m := match vs with
    | [.nils, .fn _ _ [.ptr k _ _]] => match nth m k with
      | ⟨bb, qq, _, _, _, .one [.int _ x]⟩ => some ((bb, qq, x), [k])
      | _ => none
    | _ => none
  ok := fun (_, _, _) h => index_nil _ _ _

theorem place_ok (bp q b base : Nat) (l : List Ent) (n c : Nat) (x : Int) (hn : n ≤ l.length) (hb : n < 1048577) :
    Tells (C := C0) Tryd.prog (.fn 26) (hp bp q b base false false l n c) [.ptr 0 0 0, .int .i64 x] (.int .i64 (ixf l n x)) := by
  refine loc_pc (P := Tryd.prog) (E := ⟨[], [pcIx, pcIx0], 11, []⟩) (L := []) mix Tryd.func26 rfl (by kernel_rfl) (by kernel_rfl) rfl rfl ?_
  ((conv => (arg 1; reduce)); with_reducible repeat' (first | exact Tr.yes_h | refine Tr.and_h ?_ ?_ | refine Tr.imp_h fun _ => ?_ | refine Tr.all_h fun _ => ?_ | refine Tr.lf_h ?_))
  all_goals first | first | (show Region.lexB _ _ = true; kernel_rfl) | (show planned _ _ = true; kernel_rfl) | exact rfl | exact True.intro | exact ⟨hn, hb⟩
theorem place_nil (bp q : Nat) (x : Int) :
    Tells (C := C0) Tryd.prog (.fn 26) [⟨bp, q, 1, false, none, .one [.nils]⟩] [.ptr 0 0 0, .int .i64 x] (.int .i64 (-1)) := by
  refine loc_pc (P := Tryd.prog) (E := ⟨[], [pcIx, pcIx0], 11, []⟩) (L := []) mix Tryd.func26 rfl (by kernel_rfl) (by kernel_rfl) rfl rfl ?_
  ((conv => (arg 1; reduce)); with_reducible repeat' (first | exact Tr.yes_h | refine Tr.and_h ?_ ?_ | refine Tr.imp_h fun _ => ?_ | refine Tr.all_h fun _ => ?_ | refine Tr.lf_h ?_))
  all_goals first | (show Region.lexB _ _ = true; kernel_rfl) | (show planned _ _ = true; kernel_rfl) | exact rfl | exact True.intro
noncomputable def pcPlace : Pc Tryd.prog C0 where
  tg := .fn 26
  X := Hx × Int
  args := fun (_, x) => [.ptr 0 0 0, .int .i64 x]
  mem := fun (⟨bp, q, b, base, l, n, c⟩, _) => hp bp q b base false false l n c
  pre := fun (⟨_, _, _, _, l, n, _⟩, _) => n ≤ l.length ∧ n < 1048577
  res := fun (⟨_, _, _, _, l, n, _⟩, x) => .int .i64 (ixf l n x)
  mat vs m := match vs with
    | [p, .int _ x] => (matH p m).map fun (h, r) => ((h, x), r)
    | _ => none
  ok := fun (⟨_, _, _, _, _, _, _⟩, _) h => place_ok _ _ _ _ _ _ _ _ h.1 h.2
noncomputable def pcPlace0 : Pc Tryd.prog C0 where
  tg := .fn 26
  X := (Nat × Nat) × Int
  args := fun (_, x) => [.ptr 0 0 0, .int .i64 x]
  mem := fun ((bp, q), _) => [⟨bp, q, 1, false, none, .one [.nils]⟩]
  pre _ := True
  res := fun _ => .int .i64 (-1)
  mat vs m := match vs with
    | [p, .int _ x] => (matN p m).map fun (h, r) => ((h, x), r)
    | _ => none
  ok := fun ((_, _), _) h => place_nil _ _ _

theorem has_ok (bp q b base : Nat) (l : List Ent) (n c : Nat) (x : Int) (hn : n ≤ l.length) (hb : n < 1048577) :
    Tells (C := C0) Tryd.prog (.fn 13) (hp bp q b base false false l n c) [.ptr 0 0 0, .int .i64 x] (.bool (.tm (decide (0 ≤ ixf l n x)))) := by
  refine loc_pc (P := Tryd.prog) (E := ⟨[], [pcPlace, pcPlace0], 9, []⟩) (L := []) mix Tryd.func13 rfl (by kernel_rfl) (by kernel_rfl) rfl rfl ?_
  ((conv => (arg 1; reduce)); with_reducible repeat' (first | exact Tr.yes_h | refine Tr.and_h ?_ ?_ | refine Tr.imp_h fun _ => ?_ | refine Tr.all_h fun _ => ?_ | refine Tr.lf_h ?_))
  all_goals first | first | (show Region.lexB _ _ = true; kernel_rfl) | (show planned _ _ = true; kernel_rfl) | exact rfl | exact True.intro | exact ⟨hn, hb⟩
theorem has_nil (bp q : Nat) (x : Int) :
    Tells (C := C0) Tryd.prog (.fn 13) [⟨bp, q, 1, false, none, .one [.nils]⟩] [.ptr 0 0 0, .int .i64 x] (.bool (.tm (decide ((0 : Int) ≤ -1)))) := by
  refine loc_pc (P := Tryd.prog) (E := ⟨[], [pcPlace, pcPlace0], 9, []⟩) (L := []) mix Tryd.func13 rfl (by kernel_rfl) (by kernel_rfl) rfl rfl ?_
  ((conv => (arg 1; reduce)); with_reducible repeat' (first | exact Tr.yes_h | refine Tr.and_h ?_ ?_ | refine Tr.imp_h fun _ => ?_ | refine Tr.all_h fun _ => ?_ | refine Tr.lf_h ?_))
  all_goals first | (show Region.lexB _ _ = true; kernel_rfl) | (show planned _ _ = true; kernel_rfl) | exact rfl | exact True.intro
noncomputable def pcHas : Pc Tryd.prog C0 where
  tg := .fn 13
  X := Hx × Int
  args := fun (_, x) => [.ptr 0 0 0, .int .i64 x]
  mem := fun (⟨bp, q, b, base, l, n, c⟩, _) => hp bp q b base false false l n c
  pre := fun (⟨_, _, _, _, l, n, _⟩, _) => n ≤ l.length ∧ n < 1048577
  res := fun (⟨_, _, _, _, l, n, _⟩, x) => .bool (.tm (decide (0 ≤ ixf l n x)))
  mat vs m := match vs with
    | [p, .int _ x] => (matH p m).map fun (h, r) => ((h, x), r)
    | _ => none
  ok := fun (⟨_, _, _, _, _, _, _⟩, _) h => has_ok _ _ _ _ _ _ _ _ h.1 h.2
noncomputable def pcHas0 : Pc Tryd.prog C0 where
  tg := .fn 13
  X := (Nat × Nat) × Int
  args := fun (_, x) => [.ptr 0 0 0, .int .i64 x]
  mem := fun ((bp, q), _) => [⟨bp, q, 1, false, none, .one [.nils]⟩]
  pre _ := True
  res := fun _ => .bool (.tm (decide ((0 : Int) ≤ -1)))
  mat vs m := match vs with
    | [p, .int _ x] => (matN p m).map fun (h, r) => ((h, x), r)
    | _ => none
  ok := fun ((_, _), _) h => has_nil _ _ _
end Go.Vx
