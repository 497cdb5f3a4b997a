/-
  Round 17: the reference's pool: a block put in.
  Conditions: none.
-/
import Derived.Test.YtncpjklejppdkaaDoorPpC
set_option linter.unusedSectionVars false
set_option maxRecDepth 100000
set_option linter.unusedVariables false
set_option linter.unusedSimpArgs false
namespace Go.Vx
open Go Go.Proofs
variable [Gl]

/-- The first i of them come ahead of e. -/
def Adv (x : Ry) (e : Ent) : Inv' C0 := ⟨7, Nat, fun i => [(8, .int .i64 i)], fun _ m => m, fun i => i ≤ x.n ∧ ∀ j, j < i → bef (rat x j) e = true, fun i => x.n - i⟩
structure Rput (x : Ry) (e : Ent) (i : Nat) (y : Ry) : Prop where
  le : i ≤ x.n
  ahead : ∀ j, j < i → bef (rat x j) e = true
  stop : i < x.n → bef (rat x i) e = false
  list : rlist y = (rlist x).take i ++ [e] ++ (rlist x).drop i
  n : y.n = x.n + 1
  ok : Rok y
def badB (b w : Int) : Bool := decide (b < 0) || decide (64 ≤ b) || !(decide (0 ≤ w) && decide (w ≤ 1073741824))
/-- As it is asked. -/
def advq (x : Ry) (e : Ent) (i : Nat) : Bool := decide ((i : Int) < (x.n : Int)) && bef (x.l.getD ((i : Int).toNat + x.k) (0, 0)) e
theorem Adv.le {x : Ry} {e : Ent} {i : Nat} (hi : (Adv x e).inv i) : i ≤ x.n := hi.1
theorem Adv.more {x : Ry} {e : Ent} {i : Nat} (hi : (Adv x e).inv i) (h : advq x e i = true) : i < x.n ∧ (Adv x e).inv (Nat.succ i) ∧ (Adv x e).meas (Nat.succ i) < (Adv x e).meas i := by
  unfold advq at h
  rw [Bool.and_eq_true, decide_eq_true_eq] at h
  have hlt : i < x.n := by omega
  refine ⟨hlt, ⟨hlt, fun j hj => ?_⟩, by show x.n - (i + 1) < x.n - i; omega⟩
  rcases Nat.lt_succ_iff_lt_or_eq.1 hj with h1 | h1
  · exact hi.2 j h1
  · rw [h1]; exact h.2
theorem Adv.stop {x : Ry} {e : Ent} {i : Nat} (h : advq x e i = false) (hlt : i < x.n) : bef (rat x i) e = false := by
  unfold advq at h
  rw [decide_eq_true (show (i : Int) < (x.n : Int) by omega), Bool.true_and] at h
  exact h
theorem put_len {a y sp : List Ent} {i c : Nat} (ha : 0 + i ≤ a.length) (hy : y.length = 1) (h : c ≤ 0 + i + 1 + sp.length) : 0 + c ≤ ((a.drop 0).take (0 + i) ++ (y.drop 0).take 1 ++ sp).length := by
  simp only [List.length_append, List.length_take, List.length_drop]
  omega
/-- What is laid: all, and one more. -/
theorem put_list {x : Ry} {r sp1 sp2 sp3 : List Ent} {e : Ent} {i : Nat} (hi : i ≤ x.n) (ho : Rok x) :
    ((((((r.drop 0).take 0 ++ (x.l.drop x.k).take i ++ sp1).drop 0).take (0 + i) ++ [e] ++ sp2).drop 0).take (0 + i + 1) ++ (x.l.drop (srow x.c i x.k)).take (x.n - i) ++ sp3) = ((rlist x).take i ++ [e] ++ (rlist x).drop i) ++ sp3 := by
  obtain ⟨h1, h2, h3⟩ := ho
  have e1 : ((r.drop 0).take 0 ++ (x.l.drop x.k).take i ++ sp1).take (0 + i) = (rlist x).take i := by
    simp only [List.take_zero, List.nil_append, Nat.zero_add, rlist]
    rw [List.take_append_of_le_length (by simp; omega), List.take_take, List.take_take, Nat.min_self, Nat.min_eq_left (by omega)]
  have e2 : (x.l.drop (srow x.c i x.k)).take (x.n - i) = (rlist x).drop i := by
    simp only [rlist, List.drop_take, List.drop_drop]
    unfold srow
    split
    · rw [show x.n - i = 0 by omega, List.take_zero, List.take_zero]
    · rw [Nat.add_comm x.k]
  have e3 : ((rlist x).take i ++ [e] ++ sp2).take (0 + i + 1) = (rlist x).take i ++ [e] := by
    have hL : ((rlist x).take i).length = i := by simp only [rlist, List.length_take, List.length_drop]; omega
    rw [List.take_append_of_le_length (by simp only [List.length_append, hL, List.length_cons, List.length_nil]; omega), List.take_of_length_le (by simp only [List.length_append, hL, List.length_cons, List.length_nil]; omega)]
  simp only [List.drop_zero] at e1 ⊢
  rw [e1, e3, e2]
theorem Adv.put {x : Ry} {e : Ent} {i : Nat} (hi : (Adv x e).inv i) (h : advq x e i = false) (ho : Rok x) {sp : List Ent} {bb q c : Nat} (h1 : x.n + 1 ≤ c) (h2 : c ≤ x.n + 1 + sp.length) :
    Rput x e i ⟨x.bp, x.bq, bb, q, ((rlist x).take i ++ [e] ++ (rlist x).drop i) ++ sp, 0, x.n + 1, c⟩ := by
  have hle := hi.1
  have hL := rlen ho.len
  have hl : ((rlist x).take i ++ [e] ++ (rlist x).drop i).length = x.n + 1 := by
    simp only [List.length_append, List.length_take, List.length_drop, hL, List.length_cons, List.length_nil]
    have hle : i ≤ x.n := hle
    omega
  refine ⟨hle, hi.2, Adv.stop h, ?_, rfl, ⟨?_, h1, ?_⟩⟩
  · show List.take (x.n + 1) (List.drop 0 (((rlist x).take i ++ [e] ++ (rlist x).drop i) ++ sp)) = _
    rw [List.drop_zero, List.take_append_of_le_length (by omega), List.take_of_length_le (by omega)]
  · show 0 + (x.n + 1) ≤ (((rlist x).take i ++ [e] ++ (rlist x).drop i) ++ sp).length
    rw [List.length_append]; omega
  · show 0 + c ≤ (((rlist x).take i ++ [e] ++ (rlist x).drop i) ++ sp).length
    rw [List.length_append]; omega
set_option maxHeartbeats 8000000 in
theorem radd_ok (x : Ry) (b w : Int) (ho : Rok x) (hn : x.n < 524288) : Does (C := C0) Tryd.prog (.fn 15) (rp true x) [.ptr 0 0 0, .int .i64 b, .int .i64 w]
    [⟨Unit, fun _ => badB b w = true, fun _ => .int .i64 102, fun _ => rp true x⟩,
     ⟨Unit, fun _ => badB b w = false ∧ hasB (rlist x) b = true, fun _ => .int .i64 110, fun _ => rp true x⟩,
     ⟨Nat × Ry, fun y => badB b w = false ∧ hasB (rlist x) b = false ∧ Rput x (b, w) y.1 y.2, fun _ => .int .i64 0, fun y => rnew x y.2⟩] := by
  refine loc_fn (P := Tryd.prog) (E := ⟨[], [pcCount, pcRHas, pcRBefore], 76, [(9, [0], [.p 0, .p 1, .p 2, .p 3, .p 4, .p 5, .p 7, .p 8, .p 9, .p 10, .p 11, .p 12, .e 6, .e 13, .p 14])]⟩) (L := [Adv x (b, w)]) mix Tryd.func15 rfl (by kernel_rfl) (by kernel_rfl) rfl rfl ?_
  ((conv => (arg 1; reduce)); with_reducible repeat' (first | exact Tr.yes_h | refine Tr.and_h ?_ ?_ | refine Tr.imp_h fun _ => ?_ | refine Tr.all_h fun _ => ?_ | refine Tr.lf_h ?_))
  all_goals try first | (show Region.lexB _ _ = true; kernel_rfl) | (show planned _ _ = true; kernel_rfl) | exact rfl | exact True.intro
  · rename_i hbad
    refine Ends.one () hbad ?_
    ((conv => (arg 1; reduce)); with_reducible repeat' (first | exact Tr.yes_h | refine Tr.and_h ?_ ?_ | refine Tr.imp_h fun _ => ?_ | refine Tr.all_h fun _ => ?_ | refine Tr.lf_h ?_))
    all_goals (first | first | (show Region.lexB _ _ = true; kernel_rfl) | (show planned _ _ = true; kernel_rfl) | exact rfl | exact True.intro | ((try dsimp only [imp, C0, cG, cInt2] at *); (try refine inR64 ?_ ?_) <;> (try simp only [List.length_set, List.length_append, List.length_take, List.length_drop]) <;> omega))
  · exact ⟨ho.len, by show x.n < 1048576; omega⟩
  · rename_i hbad hhas
    refine Ends.next (Ends.one () ⟨hbad, hhas⟩ ?_)
    ((conv => (arg 1; reduce)); with_reducible repeat' (first | exact Tr.yes_h | refine Tr.and_h ?_ ?_ | refine Tr.imp_h fun _ => ?_ | refine Tr.all_h fun _ => ?_ | refine Tr.lf_h ?_))
    all_goals (first | first | (show Region.lexB _ _ = true; kernel_rfl) | (show planned _ _ = true; kernel_rfl) | exact rfl | exact True.intro | ((try dsimp only [imp, C0, cG, cInt2] at *); (try refine inR64 ?_ ?_) <;> (try simp only [List.length_set, List.length_append, List.length_take, List.length_drop]) <;> omega))
  · refine Stands.one (0 : Nat) ⟨⟨Nat.zero_le _, fun j hj => absurd hj (Nat.not_lt_zero _)⟩, ?_⟩
    ((conv => (arg 1; reduce)); with_reducible repeat' (first | exact Tr.yes_h | refine Tr.and_h ?_ ?_ | refine Tr.imp_h fun _ => ?_ | refine Tr.all_h fun _ => ?_ | refine Tr.lf_h ?_))
    all_goals (first | first | (show Region.lexB _ _ = true; kernel_rfl) | (show planned _ _ = true; kernel_rfl) | exact rfl | exact True.intro | ((try dsimp only [imp, C0, cG, cInt2] at *); (try refine inR64 ?_ ?_) <;> (try simp only [List.length_set, List.length_append, List.length_take, List.length_drop]) <;> omega))
  · rename_i i hi g1
    change Nat at i
    omega
  · rename_i i hi g1
    exact of_decide_eq_true g1
  · rename_i i hi g1
    change Nat at i
    have g1 := of_decide_eq_true g1
    have := ho.len
    omega
  · rename_i i hi hd
    change Nat at i
    have := (Adv.more hi hd).1
    exact inR64 (by omega) (by omega)
  · rename_i i hi hd
    obtain ⟨k1, k2, k3⟩ := Adv.more hi hd
    refine Stands.one (Nat.succ i) ⟨k2, k3, ?_⟩
    ((conv => (arg 1; reduce)); with_reducible repeat' (first | exact Tr.yes_h | refine Tr.and_h ?_ ?_ | refine Tr.imp_h fun _ => ?_ | refine Tr.all_h fun _ => ?_ | refine Tr.lf_h ?_))
    all_goals (first | first | (show Region.lexB _ _ = true; kernel_rfl) | (show planned _ _ = true; kernel_rfl) | exact rfl | exact True.intro | ((try dsimp only [imp, C0, cG, cInt2] at *); (try refine inR64 ?_ ?_) <;> (try simp only [List.length_set, List.length_append, List.length_take, List.length_drop]) <;> omega))
  · exact inR64 (by omega) (by omega)
  · rename_i i hi hd
    change Nat at i
    omega
  · rename_i i hi hd
    change Nat at i
    have := Adv.le hi
    have := ho.cap
    omega
  · rw [by46]
    exact ⟨Int.le_refl 0, by omega, by omega, by omega⟩
  · rename_i i hi hd b2
    change Nat at i
    have h0 := Adv.le hi
    have h1 := ho.len
    rw [by46]
    exact ⟨Nat.zero_le _, by simp, by show x.k + (i : Int).toNat ≤ x.l.length; omega, by show (Int.toNat 0 + (i : Int).toNat) * 16 ≤ _; omega⟩
  · rename_i i hi hd b2 b3 base3 sp cap h1 h2 b4
    change Nat at i
    have h0 := Adv.le hi
    have h3 := ho.len
    rw [by46]
    exact ⟨h1, cut_len (i := i) (by show x.k + i ≤ x.l.length; omega) h2, Nat.le_refl 1, by show (Int.toNat 0 + (i : Int).toNat + 1) * 16 ≤ _; omega⟩
  · rename_i i hi hd b2 b3 base3 sp cap h1 h2 b4 b5 base5 sp2 cap2 h3 h4
    change Nat at i
    omega
  · rename_i i hi hd b2 b3 base3 sp cap h1 h2 b4 b5 base5 sp2 cap2 h3 h4
    change Nat at i
    have := Adv.le hi
    omega
  · rename_i i hi hd b2 b3 base3 sp cap h1 h2 b4 b5 base5 sp2 cap2 h3 h4
    change Nat at i
    have h0 := Adv.le hi
    have h7 := ho.len
    rw [by46]
    refine ⟨h3, put_len (i := i) ?_ rfl h4, srow_fit (i := i) h0 ho.cap ho.fit, ?_⟩
    · exact Nat.le_trans h1 (Nat.le_trans (Nat.le_of_eq (Nat.zero_add _).symm) (cut_len (i := i) (by show x.k + i ≤ x.l.length; omega) h2))
    · show (Int.toNat 0 + (i : Int).toNat + 1 + (x.n - (i : Int).toNat)) * 16 ≤ 140737488355328
      omega
  · rename_i hbad hhas b1 i hi hd b2 b3 base3 sp cap h1 h2 b4 b5 base5 sp2 cap2 h3 h4 b6 base6 sp3 cap3 h5 h6
    change Nat at i
    have h0 := Adv.le hi
    have h5 : 0 + i + 1 + (x.n - i) ≤ cap3 := h5
    have h6 : cap3 ≤ 0 + i + 1 + (x.n - i) + sp3.length := h6
    have e2 : 0 + i + 1 + (x.n - i) = x.n + 1 := by omega
    have e1 := put_list (r := List.replicate ((x.n : Int) + 1).toNat (0, 0)) (sp1 := sp) (sp2 := sp2) (sp3 := sp3) (e := (b, w)) (x := x) (i := i) h0 ho
    refine Ends.next (Ends.next (Ends.one (i, ⟨x.bp, x.bq, b6, base6, ((rlist x).take i ++ [(b, w)] ++ (rlist x).drop i) ++ sp3, 0, x.n + 1, cap3⟩) ⟨hbad, hhas, Adv.put hi hd ho (by omega) (by omega)⟩ ?_))
    ((conv => (arg 1; reduce)); with_reducible repeat' (first | exact Tr.yes_h | refine Tr.and_h ?_ ?_ | refine Tr.imp_h fun _ => ?_ | refine Tr.all_h fun _ => ?_ | refine Tr.lf_h ?_))
    all_goals first | (first | first | (show Region.lexB _ _ = true; kernel_rfl) | (show planned _ _ = true; kernel_rfl) | exact rfl | exact True.intro | ((try dsimp only [imp, C0, cG, cInt2] at *); (try refine inR64 ?_ ?_) <;> (try simp only [List.length_set, List.length_append, List.length_take, List.length_drop]) <;> omega)) | exact e1 | exact e1.symm | exact e2 | exact e2.symm
noncomputable def fcRAdd : Fc Tryd.prog C0 where
  tg := .fn 15
  X := Ry × Int × Int
  args := fun (_, b, w) => [.ptr 0 0 0, .int .i64 b, .int .i64 w]
  mem := fun (x, _, _) => rp true x
  pre := fun (x, _, _) => Rok x ∧ x.n < 524288
  alts := fun (x, b, w) => [⟨Unit, fun _ => badB b w = true, fun _ => .int .i64 102, fun _ => rp true x⟩,
     ⟨Unit, fun _ => badB b w = false ∧ hasB (rlist x) b = true, fun _ => .int .i64 110, fun _ => rp true x⟩,
     ⟨Nat × Ry, fun y => badB b w = false ∧ hasB (rlist x) b = false ∧ Rput x (b, w) y.1 y.2, fun _ => .int .i64 0, fun y => rnew x y.2⟩]
  mat vs m := match vs with
    | [.ptr p 0 0, .int _ b, .int _ w] => match nth m p with
      | ⟨bp, bq, _, _, _, .one [.sl r k n c]⟩ => match nth m r with
        | ⟨bb, q, _, _, _, .rows 46 l⟩ => some ((⟨bp, bq, bb, q, l, k, n, c⟩, b, w), [p, r])
        | _ => none
      | _ => none
    | _ => none
  ok := fun (x, b, w) h => radd_ok x b w h.1 h.2
def Adv0 : Inv' C0 := ⟨7, Unit, fun _ => [(8, .int .i64 0)], fun _ m => m, fun _ => True, fun _ => 0⟩
/-- The pool behind a call that lays the first list. -/
abbrev rnew0 (bp bq : Nat) (y : Ry) : List (Ck C0) := [⟨bp, bq, 1, true, none, .one [.sl 1 y.k y.n y.c]⟩, ⟨y.b, y.q, 2, true, none, .rows 46 y.l⟩]
set_option maxHeartbeats 8000000 in
theorem radd_nil (bp bq : Nat) (b w : Int) : Does (C := C0) Tryd.prog (.fn 15) [⟨bp, bq, 1, true, none, .one [.nils]⟩] [.ptr 0 0 0, .int .i64 b, .int .i64 w]
    [⟨Unit, fun _ => badB b w = true, fun _ => .int .i64 102, fun _ => [⟨bp, bq, 1, true, none, .one [.nils]⟩]⟩,
     ⟨Ry, fun y => badB b w = false ∧ rlist y = [(b, w)] ∧ y.n = 1 ∧ Rok y, fun _ => .int .i64 0, fun y => rnew0 bp bq y⟩] := by
  refine loc_fn (P := Tryd.prog) (E := ⟨[], [pcCount, pcRHas0, pcRBefore], 76, [(9, [0], [.p 0, .p 1, .p 2, .p 3, .p 4, .p 5, .p 7, .p 8, .p 9, .p 10, .p 11, .p 12, .e 6, .e 13, .p 14])]⟩) (L := [Adv0]) mix Tryd.func15 rfl (by kernel_rfl) (by kernel_rfl) rfl rfl ?_
  ((conv => (arg 1; reduce)); with_reducible repeat' (first | exact Tr.yes_h | refine Tr.and_h ?_ ?_ | refine Tr.imp_h fun _ => ?_ | refine Tr.all_h fun _ => ?_ | refine Tr.lf_h ?_))
  all_goals try first | (show Region.lexB _ _ = true; kernel_rfl) | (show planned _ _ = true; kernel_rfl) | exact rfl | exact True.intro
  all_goals try exact absurd (by with_reducible assumption : decide ((0 : Int) < 0) = true) (by decide)
  all_goals try (intro h; exact absurd h (by decide))
  · rename_i hbad
    refine Ends.one () hbad ?_
    ((conv => (arg 1; reduce)); with_reducible repeat' (first | exact Tr.yes_h | refine Tr.and_h ?_ ?_ | refine Tr.imp_h fun _ => ?_ | refine Tr.all_h fun _ => ?_ | refine Tr.lf_h ?_))
    all_goals (first | first | (show Region.lexB _ _ = true; kernel_rfl) | (show planned _ _ = true; kernel_rfl) | exact rfl | exact True.intro | ((try dsimp only [imp, C0, cG, cInt2] at *); (try refine inR64 ?_ ?_) <;> (try simp only [List.length_set, List.length_append, List.length_take, List.length_drop]) <;> omega))
  · refine Stands.one () ⟨trivial, ?_⟩
    ((conv => (arg 1; reduce)); with_reducible repeat' (first | exact Tr.yes_h | refine Tr.and_h ?_ ?_ | refine Tr.imp_h fun _ => ?_ | refine Tr.all_h fun _ => ?_ | refine Tr.lf_h ?_))
    all_goals (first | first | (show Region.lexB _ _ = true; kernel_rfl) | (show planned _ _ = true; kernel_rfl) | exact rfl | exact True.intro | ((try dsimp only [imp, C0, cG, cInt2] at *); (try refine inR64 ?_ ?_) <;> (try simp only [List.length_set, List.length_append, List.length_take, List.length_drop]) <;> omega))
  · rw [by46]; omega
  · omega
  · exact ⟨by omega, by simp, Nat.le_refl 1, by rw [by46]; omega⟩
  · rename_i h1 h2
    exact h1
  · rename_i hbad b1 u hu b2 b3 b4 base4 sp cap h1 h2
    have h2 : cap ≤ 0 + 1 + sp.length := h2
    have h1 : 0 + 1 ≤ cap := h1
    refine Ends.next (Ends.one ⟨bp, bq, b4, base4, (b, w) :: sp, 0, 1, cap⟩ ⟨hbad, rfl, rfl, ⟨?_, ?_, ?_⟩⟩ ?_)
    · show 0 + 1 ≤ ((b, w) :: sp).length
      rw [List.length_cons]; omega
    · show 1 ≤ cap
      omega
    · show 0 + cap ≤ ((b, w) :: sp).length
      rw [List.length_cons]; omega
    ((conv => (arg 1; reduce)); with_reducible repeat' (first | exact Tr.yes_h | refine Tr.and_h ?_ ?_ | refine Tr.imp_h fun _ => ?_ | refine Tr.all_h fun _ => ?_ | refine Tr.lf_h ?_))
    all_goals (first | first | (show Region.lexB _ _ = true; kernel_rfl) | (show planned _ _ = true; kernel_rfl) | exact rfl | exact True.intro | ((try dsimp only [imp, C0, cG, cInt2] at *); (try refine inR64 ?_ ?_) <;> (try simp only [List.length_set, List.length_append, List.length_take, List.length_drop]) <;> omega))
noncomputable def fcRAdd0 : Fc Tryd.prog C0 where
  tg := .fn 15
  X := Nat × Nat × Int × Int
  args := fun (_, _, b, w) => [.ptr 0 0 0, .int .i64 b, .int .i64 w]
  mem := fun (bp, bq, _, _) => [⟨bp, bq, 1, true, none, .one [.nils]⟩]
  pre := fun _ => True
  alts := fun (bp, bq, b, w) => [⟨Unit, fun _ => badB b w = true, fun _ => .int .i64 102, fun _ => [⟨bp, bq, 1, true, none, .one [.nils]⟩]⟩,
     ⟨Ry, fun y => badB b w = false ∧ rlist y = [(b, w)] ∧ y.n = 1 ∧ Rok y, fun _ => .int .i64 0, fun y => rnew0 bp bq y⟩]
  mat vs m := match vs with
    | [.ptr p 0 0, .int _ b, .int _ w] => match nth m p with
      | ⟨bp, bq, _, _, _, .one [.nils]⟩ => some ((bp, bq, b, w), [p])
      | _ => none
    | _ => none
  ok := fun (_, _, _, _) _ => radd_nil _ _ _ _
end Go.Vx
