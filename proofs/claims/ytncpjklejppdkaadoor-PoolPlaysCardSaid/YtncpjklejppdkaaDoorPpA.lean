/-
  Round 17: the reference's pool: who comes ahead; has it a block?; what is taken first.
  Conditions: none.
-/
import Derived.Test.YtncpjklejppdkaaDoorPoA
set_option linter.unusedSectionVars false
set_option maxRecDepth 100000
set_option linter.unusedVariables false
set_option linter.unusedSimpArgs false
namespace Go.Vx
open Go Go.Proofs
variable [Gl]

theorem rbefore_ok (a b : Ent) : Tells (C := C0) Tryd.prog (.fn 30) [] [.agg [.int .i64 a.1, .int .i64 a.2], .agg [.int .i64 b.1, .int .i64 b.2]] (.bool (.tm (bef a b))) := by
  refine loc_pc (P := Tryd.prog) (E := ⟨[], [], 24, []⟩) (L := []) mix Tryd.func30 rfl (by kernel_rfl) (by kernel_rfl) rfl rfl ?_
  ((conv => (arg 1; reduce)); with_reducible repeat' (first | exact Tr.yes_h | refine Tr.and_h ?_ ?_ | refine Tr.imp_h fun _ => ?_ | refine Tr.all_h fun _ => ?_ | refine Tr.lf_h ?_))
  all_goals (first | first | (show Region.lexB _ _ = true; kernel_rfl) | (show planned _ _ = true; kernel_rfl) | exact rfl | exact True.intro | ((try dsimp only [imp, C0, cG, cInt2] at *); (try refine inR64 ?_ ?_) <;> (try simp only [List.length_set, List.length_append, List.length_take, List.length_drop]) <;> omega))
def pcRBefore : Pc Tryd.prog C0 where
  tg := .fn 30
  X := Ent × Ent
  args x := [.agg [.int .i64 x.1.1, .int .i64 x.1.2], .agg [.int .i64 x.2.1, .int .i64 x.2.2]]
  mem _ := []
  pre _ := True
  res x := .bool (.tm (bef x.1 x.2))
  mat vs _ := match vs with
    | [.agg [.int _ a, .int _ b], .agg [.int _ c, .int _ d]] => some (((a, b), (c, d)), [])
    | _ => none
  ok x _ := rbefore_ok x.1 x.2
theorem count_ok (n : Int) : Tells (C := C0) Tryd.prog (.fn 29) [] [.int .i64 n] (.bool (.tm (decide (0 ≤ n) && decide (n ≤ 1073741824)))) := by
  refine loc_pc (P := Tryd.prog) (E := ⟨[], [], 9, []⟩) (L := []) mix Tryd.func29 rfl (by kernel_rfl) (by kernel_rfl) rfl rfl ?_
  ((conv => (arg 1; reduce)); with_reducible repeat' (first | exact Tr.yes_h | refine Tr.and_h ?_ ?_ | refine Tr.imp_h fun _ => ?_ | refine Tr.all_h fun _ => ?_ | refine Tr.lf_h ?_))
  all_goals (first | first | (show Region.lexB _ _ = true; kernel_rfl) | (show planned _ _ = true; kernel_rfl) | exact rfl | exact True.intro | ((try dsimp only [imp, C0, cG, cInt2] at *); (try refine inR64 ?_ ?_) <;> (try simp only [List.length_set, List.length_append, List.length_take, List.length_drop]) <;> omega))
def pcCount : Pc Tryd.prog C0 where
  tg := .fn 29
  X := Int
  args n := [.int .i64 n]
  mem _ := []
  pre _ := True
  res n := .bool (.tm (decide (0 ≤ n) && decide (n ≤ 1073741824)))
  mat vs _ := match vs with
    | [.int _ n] => some (n, [])
    | _ => none
  ok n _ := count_ok n
/-- The reference's pool: n of l, from k on. -/
structure Ry where
  bp : Nat
  bq : Nat
  b : Nat
  q : Nat
  l : List Ent
  k : Nat
  n : Nat
  c : Nat
abbrev rp (wr : Bool) (x : Ry) : List (Ck C0) := [⟨x.bp, x.bq, 1, wr, none, .one [.sl 1 x.k x.n x.c]⟩, ⟨x.b, x.q, 2, false, none, .rows 46 x.l⟩]
abbrev rlist (x : Ry) : List Ent := (x.l.drop x.k).take x.n
def hasB (l : List Ent) (b : Int) : Bool := l.any fun e => e.1 == b
def Hr (x : Ry) (b : Int) : Inv' C0 := ⟨2, Nat, fun i => [(5, .int .i64 i)], fun _ m => m, fun i => i ≤ x.n ∧ ∀ j, j < i → (x.l.getD (j + x.k) (0, 0)).1 ≠ b, fun i => x.n - i⟩
theorem gets {x : Ry} {i : Nat} (h : i < x.n) : (rlist x).getD i (0, 0) = x.l.getD (i + x.k) (0, 0) := by
  simp only [rlist, List.getD_eq_getElem?_getD, List.getElem?_take, List.getElem?_drop]
  rw [if_pos h, Nat.add_comm]
theorem rlen {x : Ry} (hl : x.k + x.n ≤ x.l.length) : (rlist x).length = x.n := by
  simp only [rlist, List.length_take, List.length_drop]
  omega
theorem mem_get {l : List Ent} {e : Ent} : e ∈ l ↔ ∃ k, k < l.length ∧ l.getD k (0, 0) = e := by
  rw [List.mem_iff_getElem]
  constructor
  · rintro ⟨k, hk, rfl⟩
    exact ⟨k, hk, by simp [List.getD_eq_getElem?_getD, hk]⟩
  · rintro ⟨k, hk, rfl⟩
    exact ⟨k, hk, by simp [List.getD_eq_getElem?_getD, hk]⟩
theorem hasB_iff {l : List Ent} {b : Int} : hasB l b = true ↔ ∃ k, k < l.length ∧ (l.getD k (0, 0)).1 = b := by
  unfold hasB
  rw [List.any_eq_true]
  constructor
  · rintro ⟨e, he, h⟩
    obtain ⟨k, hk, rfl⟩ := mem_get.1 he
    exact ⟨k, hk, by simpa using h⟩
  · rintro ⟨k, hk, h⟩
    exact ⟨_, mem_get.2 ⟨k, hk, rfl⟩, by simpa using h⟩
theorem Hr.bds {x : Ry} {b : Int} {i : Nat} (_hi : (Hr x b).inv i) (hc : decide ((i : Int) < (x.n : Int)) = true) (hl : x.k + x.n ≤ x.l.length) (hn : x.n < 1048576) : 0 ≤ (i : Int) ∧ (i : Int) < (x.n : Int) ∧ (i : Int).toNat + x.k < x.l.length ∧ inR .i64 ((i : Int) + 1) := by
  have hc := of_decide_eq_true hc
  exact ⟨by omega, by omega, by omega, inR64 (by omega) (by omega)⟩
theorem Hr.dec {x : Ry} {b : Int} {i : Nat} (hc : decide ((i : Int) < (x.n : Int)) = true) : (Hr x b).meas (Nat.succ i) < (Hr x b).meas i := by
  have hc := of_decide_eq_true hc
  show x.n - (i + 1) < x.n - i
  omega
theorem Hr.more {x : Ry} {b : Int} {i : Nat} (hi : (Hr x b).inv i) (hc : decide ((i : Int) < (x.n : Int)) = true) (h : ¬ (x.l.getD (i + x.k) (0, 0)).1 = b) : (Hr x b).inv (Nat.succ i) := by
  have hc := of_decide_eq_true hc
  refine ⟨by omega, fun j hj => ?_⟩
  rcases Nat.lt_succ_iff_lt_or_eq.1 hj with h1 | h1
  · exact hi.2 j h1
  · rw [h1]; exact h
theorem Hr.yes {x : Ry} {b : Int} {i : Nat} (_hi : (Hr x b).inv i) (hc : decide ((i : Int) < (x.n : Int)) = true) (h : (x.l.getD (i + x.k) (0, 0)).1 = b) (hl : x.k + x.n ≤ x.l.length) : hasB (rlist x) b = true := by
  have hc := of_decide_eq_true hc
  exact hasB_iff.2 ⟨i, by rw [rlen hl]; omega, by rw [gets (by omega)]; exact h⟩
theorem Hr.no {x : Ry} {b : Int} {i : Nat} (hi : (Hr x b).inv i) (hc : decide ((i : Int) < (x.n : Int)) = false) (hl : x.k + x.n ≤ x.l.length) : hasB (rlist x) b = false := by
  have hc := of_decide_eq_false hc
  rw [← Bool.not_eq_true]
  intro h
  obtain ⟨k, hk, h⟩ := hasB_iff.1 h
  rw [rlen hl] at hk
  rw [gets hk] at h
  exact hi.2 k (by omega) h
theorem rhas_ok (x : Ry) (b : Int) (hl : x.k + x.n ≤ x.l.length) (hn : x.n < 1048576) : Tells (C := C0) Tryd.prog (.fn 20) (rp false x) [.ptr 0 0 0, .int .i64 b] (.bool (.tm (hasB (rlist x) b))) := by
  refine loc_pc (P := Tryd.prog) (E := ⟨[], [], 25, []⟩) (L := [Hr x b]) mix Tryd.func20 rfl (by kernel_rfl) (by kernel_rfl) rfl rfl ?_
  ((conv => (arg 1; reduce)); with_reducible repeat' (first | exact Tr.yes_h | refine Tr.and_h ?_ ?_ | refine Tr.imp_h fun _ => ?_ | refine Tr.all_h fun _ => ?_ | refine Tr.lf_h ?_))
  all_goals try first | (show Region.lexB _ _ = true; kernel_rfl) | (show planned _ _ = true; kernel_rfl) | exact rfl | exact True.intro
  · refine Stands.one (0 : Nat) ⟨⟨Nat.zero_le _, fun j hj => absurd hj (Nat.not_lt_zero _)⟩, ?_⟩
    ((conv => (arg 1; reduce)); with_reducible repeat' (first | exact Tr.yes_h | refine Tr.and_h ?_ ?_ | refine Tr.imp_h fun _ => ?_ | refine Tr.all_h fun _ => ?_ | refine Tr.lf_h ?_))
    all_goals (first | first | (show Region.lexB _ _ = true; kernel_rfl) | (show planned _ _ = true; kernel_rfl) | exact rfl | exact True.intro | ((try dsimp only [imp, C0, cG, cInt2] at *); (try refine inR64 ?_ ?_) <;> (try simp only [List.length_set, List.length_append, List.length_take, List.length_drop]) <;> omega))
  · rename_i i hi hc
    exact (Hr.bds hi hc hl hn).1
  · rename_i i hi hc
    exact (Hr.bds hi hc hl hn).2.1
  · rename_i i hi hc
    exact (Hr.bds hi hc hl hn).2.2.1
  · rename_i i hi hc hd
    exact (Hr.yes hi hc (of_decide_eq_true hd) hl).symm
  · rename_i i hi hc hd
    exact (Hr.bds hi hc hl hn).2.2.2
  · rename_i i hi hc hd
    refine Stands.one (Nat.succ i) ⟨Hr.more hi hc (of_decide_eq_false hd), Hr.dec hc, ?_⟩
    ((conv => (arg 1; reduce)); with_reducible repeat' (first | exact Tr.yes_h | refine Tr.and_h ?_ ?_ | refine Tr.imp_h fun _ => ?_ | refine Tr.all_h fun _ => ?_ | refine Tr.lf_h ?_))
    all_goals (first | first | (show Region.lexB _ _ = true; kernel_rfl) | (show planned _ _ = true; kernel_rfl) | exact rfl | exact True.intro | ((try dsimp only [imp, C0, cG, cInt2] at *); (try refine inR64 ?_ ?_) <;> (try simp only [List.length_set, List.length_append, List.length_take, List.length_drop]) <;> omega))
  · rename_i i hi hc
    exact (Hr.no hi hc hl).symm
def pcRHas : Pc Tryd.prog C0 where
  tg := .fn 20
  X := Ry × Int
  args x := [.ptr 0 0 0, .int .i64 x.2]
  mem x := rp false x.1
  pre x := x.1.k + x.1.n ≤ x.1.l.length ∧ x.1.n < 1048576
  res x := .bool (.tm (hasB (rlist x.1) x.2))
  mat vs m := match vs with
    | [.ptr p 0 0, .int _ b] => match nth m p with
      | ⟨bp, bq, _, _, _, .one [.sl r k n c]⟩ => match nth m r with
        | ⟨bb, q, _, _, _, .rows 46 l⟩ => some ((⟨bp, bq, bb, q, l, k, n, c⟩, b), [p, r])
        | _ => none
      | _ => none
    | _ => none
  ok x h := rhas_ok x.1 x.2 h.1 h.2
def Hr0 : Inv' C0 := ⟨2, Unit, fun _ => [(5, .int .i64 0)], fun _ m => m, fun _ => True, fun _ => 0⟩
theorem rhas_nil (bp bq : Nat) (b : Int) : Tells (C := C0) Tryd.prog (.fn 20) [⟨bp, bq, 1, false, none, .one [.nils]⟩] [.ptr 0 0 0, .int .i64 b] (.bool .f) := by
  refine loc_pc (P := Tryd.prog) (E := ⟨[], [], 25, []⟩) (L := [Hr0]) mix Tryd.func20 rfl (by kernel_rfl) (by kernel_rfl) rfl rfl ?_
  ((conv => (arg 1; reduce)); with_reducible repeat' (first | exact Tr.yes_h | refine Tr.and_h ?_ ?_ | refine Tr.imp_h fun _ => ?_ | refine Tr.all_h fun _ => ?_ | refine Tr.lf_h ?_))
  all_goals try first | (show Region.lexB _ _ = true; kernel_rfl) | (show planned _ _ = true; kernel_rfl) | exact rfl | exact True.intro
  all_goals try exact absurd (by with_reducible assumption : decide ((0 : Int) < 0) = true) (by decide)
  · refine Stands.one () ⟨trivial, ?_⟩
    ((conv => (arg 1; reduce)); with_reducible repeat' (first | exact Tr.yes_h | refine Tr.and_h ?_ ?_ | refine Tr.imp_h fun _ => ?_ | refine Tr.all_h fun _ => ?_ | refine Tr.lf_h ?_))
    all_goals (first | first | (show Region.lexB _ _ = true; kernel_rfl) | (show planned _ _ = true; kernel_rfl) | exact rfl | exact True.intro | ((try dsimp only [imp, C0, cG, cInt2] at *); (try refine inR64 ?_ ?_) <;> (try simp only [List.length_set, List.length_append, List.length_take, List.length_drop]) <;> omega))
def pcRHas0 : Pc Tryd.prog C0 where
  tg := .fn 20
  X := Nat × Nat × Int
  args x := [.ptr 0 0 0, .int .i64 x.2.2]
  mem x := [⟨x.1, x.2.1, 1, false, none, .one [.nils]⟩]
  pre _ := True
  res _ := .bool .f
  mat vs m := match vs with
    | [.ptr p 0 0, .int _ b] => match nth m p with
      | ⟨bp, bq, _, _, _, .one [.nils]⟩ => some ((bp, bq, b), [p])
      | _ => none
    | _ => none
  ok x _ := rhas_nil x.1 x.2.1 x.2.2

/-! Take. -/
abbrev rtaken (x : Ry) : Ry := { x with k := srow x.c 1 x.k, n := x.n - 1, c := x.c - 1 }
theorem rtaken_list {x : Ry} (hn : x.n ≤ x.c) : rlist (rtaken x) = (rlist x).drop 1 := by
  simp only [rlist, List.drop_take, List.drop_drop]
  unfold srow
  split
  · rw [show x.n - 1 = 0 by omega, List.take_zero, List.take_zero]
  · rw [Nat.add_comm]
theorem rtake_ok (x : Ry) (hl : x.k + x.n ≤ x.l.length) : Does (C := C0) Tryd.prog (.fn 17) (rp true x) [.ptr 0 0 0]
    [⟨Unit, fun _ => x.n = 0, fun _ => .tup [.int .i64 0, .bool .f], fun _ => rp true x⟩,
     ⟨Unit, fun _ => 0 < x.n, fun _ => .tup [.int .i64 (x.l.getD x.k (0, 0)).1, .bool .t], fun _ => rp true (rtaken x)⟩] := by
  refine loc_fn (P := Tryd.prog) (E := ⟨[], [], 27, []⟩) (L := []) mix Tryd.func17 rfl (by kernel_rfl) (by kernel_rfl) rfl rfl ?_
  ((conv => (arg 1; reduce)); with_reducible repeat' (first | exact Tr.yes_h | refine Tr.and_h ?_ ?_ | refine Tr.imp_h fun _ => ?_ | refine Tr.all_h fun _ => ?_ | refine Tr.lf_h ?_))
  all_goals try first | (show Region.lexB _ _ = true; kernel_rfl) | (show planned _ _ = true; kernel_rfl) | exact rfl | exact True.intro
  · rename_i hc
    have hc := of_decide_eq_true hc
    refine Ends.one () (by omega) ?_
    ((conv => (arg 1; reduce)); with_reducible repeat' (first | exact Tr.yes_h | refine Tr.and_h ?_ ?_ | refine Tr.imp_h fun _ => ?_ | refine Tr.all_h fun _ => ?_ | refine Tr.lf_h ?_))
    all_goals (first | first | (show Region.lexB _ _ = true; kernel_rfl) | (show planned _ _ = true; kernel_rfl) | exact rfl | exact True.intro | ((try dsimp only [imp, C0, cG, cInt2] at *); (try refine inR64 ?_ ?_) <;> (try simp only [List.length_set, List.length_append, List.length_take, List.length_drop]) <;> omega))
  · omega
  · rename_i hc
    have hc := of_decide_eq_false hc
    omega
  · rename_i hc
    have hc := of_decide_eq_false hc
    omega
  · omega
  · rename_i hc
    have hc := of_decide_eq_false hc
    omega
  · rename_i hc
    have hc := of_decide_eq_false hc
    have e : Int.toNat 0 + x.k = x.k := by omega
    refine Ends.next (Ends.one () (by omega) ?_)
    ((conv => (arg 1; reduce)); with_reducible repeat' (first | exact Tr.yes_h | refine Tr.and_h ?_ ?_ | refine Tr.imp_h fun _ => ?_ | refine Tr.all_h fun _ => ?_ | refine Tr.lf_h ?_))
    all_goals first | (first | first | (show Region.lexB _ _ = true; kernel_rfl) | (show planned _ _ = true; kernel_rfl) | exact rfl | exact True.intro | ((try dsimp only [imp, C0, cG, cInt2] at *); (try refine inR64 ?_ ?_) <;> (try simp only [List.length_set, List.length_append, List.length_take, List.length_drop]) <;> omega)) | exact congrArg (fun k => (x.l.getD k (0, 0)).1) e
noncomputable def fcRTake : Fc Tryd.prog C0 where
  tg := .fn 17
  X := Ry
  args := fun _ => [.ptr 0 0 0]
  mem := fun x => rp true x
  pre := fun x => x.k + x.n ≤ x.l.length
  alts := fun x => [⟨Unit, fun _ => x.n = 0, fun _ => .tup [.int .i64 0, .bool .f], fun _ => rp true x⟩,
     ⟨Unit, fun _ => 0 < x.n, fun _ => .tup [.int .i64 (x.l.getD x.k (0, 0)).1, .bool .t], fun _ => rp true (rtaken x)⟩]
  mat vs m := match vs with
    | [.ptr p 0 0] => match nth m p with
      | ⟨bp, bq, _, _, _, .one [.sl r k n c]⟩ => match nth m r with
        | ⟨bb, q, _, _, _, .rows 46 l⟩ => some (⟨bp, bq, bb, q, l, k, n, c⟩, [p, r])
        | _ => none
      | _ => none
    | _ => none
  ok := fun x h => rtake_ok x h
theorem rtake_nil (bp bq : Nat) : Does (C := C0) Tryd.prog (.fn 17) [⟨bp, bq, 1, true, none, .one [.nils]⟩] [.ptr 0 0 0]
    [⟨Unit, fun _ => True, fun _ => .tup [.int .i64 0, .bool .f], fun _ => [⟨bp, bq, 1, true, none, .one [.nils]⟩]⟩] := by
  refine loc_fn (P := Tryd.prog) (E := ⟨[], [], 27, []⟩) (L := []) mix Tryd.func17 rfl (by kernel_rfl) (by kernel_rfl) rfl rfl ?_
  ((conv => (arg 1; reduce)); with_reducible repeat' (first | exact Tr.yes_h | refine Tr.and_h ?_ ?_ | refine Tr.imp_h fun _ => ?_ | refine Tr.all_h fun _ => ?_ | refine Tr.lf_h ?_))
  all_goals try first | (show Region.lexB _ _ = true; kernel_rfl) | (show planned _ _ = true; kernel_rfl) | exact rfl | exact True.intro
  all_goals try exact absurd (by with_reducible assumption : decide ((0 : Int) = 0) = false) (by decide)
  · refine Ends.one () trivial ?_
    ((conv => (arg 1; reduce)); with_reducible repeat' (first | exact Tr.yes_h | refine Tr.and_h ?_ ?_ | refine Tr.imp_h fun _ => ?_ | refine Tr.all_h fun _ => ?_ | refine Tr.lf_h ?_))
    all_goals (first | first | (show Region.lexB _ _ = true; kernel_rfl) | (show planned _ _ = true; kernel_rfl) | exact rfl | exact True.intro | ((try dsimp only [imp, C0, cG, cInt2] at *); (try refine inR64 ?_ ?_) <;> (try simp only [List.length_set, List.length_append, List.length_take, List.length_drop]) <;> omega))
noncomputable def fcRTake0 : Fc Tryd.prog C0 where
  tg := .fn 17
  X := Nat × Nat
  args := fun _ => [.ptr 0 0 0]
  mem := fun (bp, bq) => [⟨bp, bq, 1, true, none, .one [.nils]⟩]
  pre := fun _ => True
  alts := fun (bp, bq) => [⟨Unit, fun _ => True, fun _ => .tup [.int .i64 0, .bool .f], fun _ => [⟨bp, bq, 1, true, none, .one [.nils]⟩]⟩]
  mat vs m := match vs with
    | [.ptr p 0 0] => match nth m p with
      | ⟨bp, bq, _, _, _, .one [.nils]⟩ => some ((bp, bq), [p])
      | _ => none
    | _ => none
  ok := fun (_, _) _ => rtake_nil _ _
end Go.Vx
