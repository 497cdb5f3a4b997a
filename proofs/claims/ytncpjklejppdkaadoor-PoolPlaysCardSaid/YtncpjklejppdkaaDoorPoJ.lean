/-
  Round 17: TakeMost, Remove.
  Conditions: none.
-/
import Derived.Test.YtncpjklejppdkaaDoorPoI
set_option linter.unusedSectionVars false
set_option maxRecDepth 100000
set_option linter.unusedVariables false
set_option linter.unusedSimpArgs false
namespace Go.Vx
open Go Go.Proofs
variable [Gl]

/-- The most worn one ahead. -/
def mst (a b : Ent) : Bool := decide (b.2 < a.2) || decide (a.2 = b.2) && decide (a.1 < b.1)
theorem mst_t {a b : Ent} : mst a b = true ↔ b.2 < a.2 ∨ (a.2 = b.2 ∧ a.1 < b.1) := by simp [mst]
theorem mst_f {a b : Ent} : mst a b = false ↔ a.2 < b.2 ∨ (a.2 = b.2 ∧ b.1 ≤ a.1) := by
  have h := mst_t (a := a) (b := b)
  cases hb : mst a b with
  | true => simp only [hb, true_iff] at h; simp; omega
  | false => simp only [hb, Bool.false_eq_true, false_iff] at h; simp; omega
def Most (l : List Ent) (n : Nat) (e : Ent) : Prop := ∀ k, k < n → mst (at_ l k) e = false
abbrev bestInv (l : List Ent) (n : Nat) (x : Nat × Int) : Prop := x.1 ≤ n ∧ ((x.1 = 0 ∧ x.2 = -1) ∨ (0 < x.1 ∧ 0 ≤ x.2 ∧ x.2 < x.1 ∧ Most l x.1 (at_ l x.2.toNat)))

theorem most_ok (bp q b base : Nat) (l : List Ent) (n c : Nat) (h : HOK l n c) (hb : n < 1048576) :
    Does (C := C0) Tryd.prog (.fn 10) (hp bp q b base true true l n c) [.ptr 0 0 0]
     [⟨List Ent × Int × Bool, takePost Most l n c, fun y => .tup [.int .i64 y.2.1, .bool (.tm y.2.2)], fun y => hp bp q b base true true y.1 (n - 1) c⟩] := by
  have hle := h.le
  have hlen := h.len
  refine loc_fn (P := Tryd.prog) (E := ⟨[fcRem], [], 70, []⟩) (L := [⟨3, Nat × Int, fun x => [(12, .int .i64 x.1), (4, .int .i64 x.2)], fun _ m => m, bestInv l n, fun x => n - x.1⟩]) mix Tryd.func10 rfl (by kernel_rfl) (by kernel_rfl) rfl rfl ?_
  ((conv => (arg 1; reduce)); with_reducible repeat' (first | exact Tr.yes_h | refine Tr.and_h ?_ ?_ | refine Tr.imp_h fun _ => ?_ | refine Tr.all_h fun _ => ?_ | refine Tr.lf_h ?_))
  all_goals try first | (show Region.lexB _ _ = true; kernel_rfl) | (show planned _ _ = true; kernel_rfl) | exact rfl | exact True.intro
  · refine Stands.one (0, -1) ⟨⟨Nat.zero_le _, .inl ⟨rfl, rfl⟩⟩, ?_⟩
    ((conv => (arg 1; reduce)); with_reducible repeat' (first | exact Tr.yes_h | refine Tr.and_h ?_ ?_ | refine Tr.imp_h fun _ => ?_ | refine Tr.all_h fun _ => ?_ | refine Tr.lf_h ?_))
    all_goals (first | first | (show Region.lexB _ _ = true; kernel_rfl) | (show planned _ _ = true; kernel_rfl) | exact rfl | exact True.intro | ((try dsimp only [imp, C0, cG, cInt2] at *); (try refine inR64 ?_ ?_) <;> (try simp only [List.length_set, List.length_append, List.length_take, List.length_drop]) <;> omega))
  all_goals try (rename_i x hx hc; obtain ⟨h1, h2⟩ := hx; ((try simp only [decide_eq_true_eq, decide_eq_false_iff_not, Bool.and_eq_true, Bool.or_eq_true, Bool.or_eq_false_iff, Bool.and_eq_false_iff, Bool.not_eq_true', Bool.not_eq_false', SB.val] at *); (try dsimp only [imp, C0, cG, cInt2] at *); (try refine inR64 ?_ ?_) <;> (try simp only [List.length_set, List.length_append, List.length_take, List.length_drop, List.length_replicate]) <;> omega); done)
  iterate 6 (focus (rename_i x hx hc bx hg; obtain ⟨h1, h2⟩ := hx; ((try simp only [decide_eq_true_eq, decide_eq_false_iff_not, Bool.and_eq_true, Bool.or_eq_true, Bool.or_eq_false_iff, Bool.and_eq_false_iff, Bool.not_eq_true', Bool.not_eq_false', SB.val] at *); (try dsimp only [imp, C0, cG, cInt2] at *); (try refine inR64 ?_ ?_) <;> (try simp only [List.length_set, List.length_append, List.length_take, List.length_drop, List.length_replicate]) <;> omega)))
  iterate 3 (focus (rename_i x hx hc bx hg hg2; obtain ⟨h1, h2⟩ := hx; ((try simp only [decide_eq_true_eq, decide_eq_false_iff_not, Bool.and_eq_true, Bool.or_eq_true, Bool.or_eq_false_iff, Bool.and_eq_false_iff, Bool.not_eq_true', Bool.not_eq_false', SB.val] at *); (try dsimp only [imp, C0, cG, cInt2] at *); (try refine inR64 ?_ ?_) <;> (try simp only [List.length_set, List.length_append, List.length_take, List.length_drop, List.length_replicate]) <;> omega)))
  · rename_i x hx hc bx hd
    obtain ⟨h1, h2⟩ := hx
    have hc := of_decide_eq_true hc
    exact inR64 (by omega) (by omega)
  · rename_i x hx hc bx hd
    obtain ⟨h1, h2⟩ := hx
    have hc := of_decide_eq_true hc
    have hxn : x.1 < n := by omega
    simp only [SB.val, Bool.or_eq_true, Bool.and_eq_true, decide_eq_true_eq, Nat.add_zero, Int.toNat_natCast] at hd
    refine Stands.one (x.1 + 1, (x.1 : Int)) ⟨⟨hxn, .inr ⟨Nat.succ_pos _, by simp, by simp; omega, fun k hk => ?_⟩⟩, ?_, ?_⟩
    · show mst (at_ l k) (at_ l (x.1 : Int).toNat) = false
      rw [Int.toNat_natCast, mst_f]
      by_cases e : k = x.1
      · rw [e]; omega
      · have hk : k < x.1 := by have : k < x.1 + 1 := hk; omega
        rcases h2 with ⟨h2, _⟩ | ⟨_, g1, g2, g3⟩
        · omega
        · have g4 := mst_f.1 (g3 k hk)
          have hd : ((x.2 < 0 ∨ (at_ l x.2.toNat).2 < (at_ l x.1).2) ∨ ((at_ l x.1).2 = (at_ l x.2.toNat).2 ∧ (at_ l x.1).1 < (at_ l x.2.toNat).1)) := hd
          omega
    · show n - (x.1 + 1) < n - x.1; omega
    · ((conv => (arg 1; reduce)); with_reducible repeat' (first | exact Tr.yes_h | refine Tr.and_h ?_ ?_ | refine Tr.imp_h fun _ => ?_ | refine Tr.all_h fun _ => ?_ | refine Tr.lf_h ?_))
      all_goals (first | first | (show Region.lexB _ _ = true; kernel_rfl) | (show planned _ _ = true; kernel_rfl) | exact rfl | exact True.intro | ((try dsimp only [imp, C0, cG, cInt2] at *); (try refine inR64 ?_ ?_) <;> (try simp only [List.length_set, List.length_append, List.length_take, List.length_drop]) <;> omega))
  · rename_i x hx hc bx hd
    obtain ⟨h1, h2⟩ := hx
    have hc := of_decide_eq_true hc
    exact inR64 (by omega) (by omega)
  · rename_i x hx hc bx hd
    obtain ⟨h1, h2⟩ := hx
    have hc := of_decide_eq_true hc
    have hxn : x.1 < n := by omega
    simp only [SB.val, Bool.or_eq_false_iff, Bool.and_eq_false_iff, decide_eq_false_iff_not, Nat.add_zero, Int.toNat_natCast] at hd
    have hd : ((¬ x.2 < 0 ∧ ¬ (at_ l x.2.toNat).2 < (at_ l x.1).2) ∧ (¬ (at_ l x.1).2 = (at_ l x.2.toNat).2 ∨ ¬ (at_ l x.1).1 < (at_ l x.2.toNat).1)) := hd
    refine Stands.one (x.1 + 1, x.2) ⟨⟨hxn, .inr ?_⟩, ?_, ?_⟩
    · rcases h2 with ⟨h2, h3⟩ | ⟨_, g1, g2, g3⟩
      · omega
      · refine ⟨Nat.succ_pos _, g1, by show x.2 < ((x.1 + 1 : Nat) : Int); omega, fun k hk => ?_⟩
        by_cases e : k = x.1
        · rw [e]
          have hm : mst (at_ l x.1) (at_ l x.2.toNat) = false := mst_f.2 (by omega)
          exact hm
        · exact g3 k (by have : k < x.1 + 1 := hk; omega)
    · show n - (x.1 + 1) < n - x.1; omega
    · ((conv => (arg 1; reduce)); with_reducible repeat' (first | exact Tr.yes_h | refine Tr.and_h ?_ ?_ | refine Tr.imp_h fun _ => ?_ | refine Tr.all_h fun _ => ?_ | refine Tr.lf_h ?_))
      all_goals (first | first | (show Region.lexB _ _ = true; kernel_rfl) | (show planned _ _ = true; kernel_rfl) | exact rfl | exact True.intro | ((try dsimp only [imp, C0, cG, cInt2] at *); (try refine inR64 ?_ ?_) <;> (try simp only [List.length_set, List.length_append, List.length_take, List.length_drop]) <;> omega))
  · rename_i x hx hc hd
    obtain ⟨h1, h2⟩ := hx
    have hc := of_decide_eq_false hc
    have hd := of_decide_eq_true hd
    have h0 : n = 0 := by omega
    subst h0
    refine Ends.one (l, 0, false) (.inr ⟨rfl, rfl, rfl, rfl⟩) ?_
    ((conv => (arg 1; reduce)); with_reducible repeat' (first | exact Tr.yes_h | refine Tr.and_h ?_ ?_ | refine Tr.imp_h fun _ => ?_ | refine Tr.all_h fun _ => ?_ | refine Tr.lf_h ?_))
    all_goals (first | first | (show Region.lexB _ _ = true; kernel_rfl) | (show planned _ _ = true; kernel_rfl) | exact rfl | exact True.intro | ((try dsimp only [imp, C0, cG, cInt2] at *); (try refine inR64 ?_ ?_) <;> (try simp only [List.length_set, List.length_append, List.length_take, List.length_drop]) <;> omega))
  · rename_i x hx hc hd
    obtain ⟨h1, h2⟩ := hx
    have hd := of_decide_eq_false hd
    omega
  · rename_i x hx hc hd
    obtain ⟨h1, h2⟩ := hx
    have hc := of_decide_eq_false hc
    have hd := of_decide_eq_false hd
    omega
  · rename_i x hx hc hd
    obtain ⟨h1, h2⟩ := hx
    have hc := of_decide_eq_false hc
    have hd := of_decide_eq_false hd
    show HOK l (n - 1 + 1) c ∧ x.2.toNat ≤ n - 1 ∧ n - 1 < 1048576
    rw [show n - 1 + 1 = n by omega]
    exact ⟨h, by omega, by omega⟩
  · rename_i x hx hc hd l' hl'
    obtain ⟨h1, h2⟩ := hx
    have hc := of_decide_eq_false hc
    have hd := of_decide_eq_false hd
    obtain ⟨g1, g2, g3⟩ := hl'
    have hn : 0 < n := by omega
    rw [show n - 1 + 1 = n by omega] at g3
    have hxn : x.1 = n := by omega
    have hM : Most l n (at_ l x.2.toNat) := by
      rcases h2 with ⟨h2, h3⟩ | ⟨_, _, _, h2⟩
      · omega
      · rw [hxn] at h2; exact h2
    refine Ends.one (l', (at_ l' (n - 1)).1, true) (.inl ⟨rfl, hn, g1, at_ l x.2.toNat, hM, congrArg Prod.fst g2, g3⟩) ?_
    ((conv => (arg 1; reduce)); with_reducible repeat' (first | exact Tr.yes_h | refine Tr.and_h ?_ ?_ | refine Tr.imp_h fun _ => ?_ | refine Tr.all_h fun _ => ?_ | refine Tr.lf_h ?_))
    all_goals (first | first | (show Region.lexB _ _ = true; kernel_rfl) | (show planned _ _ = true; kernel_rfl) | exact rfl | exact True.intro | ((try dsimp only [imp, C0, cG, cInt2] at *); (try refine inR64 ?_ ?_) <;> (try simp only [List.length_set, List.length_append, List.length_take, List.length_drop]) <;> omega))
theorem most_nil (bp q : Nat) :
    Does (C := C0) Tryd.prog (.fn 10) [⟨bp, q, 1, true, none, .one [.nils]⟩] [.ptr 0 0 0]
     [⟨Unit, fun _ => True, fun y => .tup [.int .i64 0, .bool .f], fun y => [⟨bp, q, 1, true, none, .one [.nils]⟩]⟩] := by
  refine loc_fn (P := Tryd.prog) (E := ⟨[fcRem], [], 70, []⟩) (L := [⟨3, Unit, fun x => [(12, .int .i64 0), (4, .int .i64 (-1))], fun _ m => m, fun _ => True, fun x => 0⟩]) mix Tryd.func10 rfl (by kernel_rfl) (by kernel_rfl) rfl rfl ?_
  ((conv => (arg 1; reduce)); with_reducible repeat' (first | exact Tr.yes_h | refine Tr.and_h ?_ ?_ | refine Tr.imp_h fun _ => ?_ | refine Tr.all_h fun _ => ?_ | refine Tr.lf_h ?_))
  all_goals try first | (show Region.lexB _ _ = true; kernel_rfl) | (show planned _ _ = true; kernel_rfl) | exact rfl | exact True.intro
  · refine Stands.one () ⟨trivial, ?_⟩
    ((conv => (arg 1; reduce)); with_reducible repeat' (first | exact Tr.yes_h | refine Tr.and_h ?_ ?_ | refine Tr.imp_h fun _ => ?_ | refine Tr.all_h fun _ => ?_ | refine Tr.lf_h ?_))
    all_goals (first | first | (show Region.lexB _ _ = true; kernel_rfl) | (show planned _ _ = true; kernel_rfl) | exact rfl | exact True.intro | ((try dsimp only [imp, C0, cG, cInt2] at *); (try refine inR64 ?_ ?_) <;> (try simp only [List.length_set, List.length_append, List.length_take, List.length_drop]) <;> omega))
  · rename_i hc
    exact absurd hc (by decide)
  · refine Ends.one () trivial ?_
    ((conv => (arg 1; reduce)); with_reducible repeat' (first | exact Tr.yes_h | refine Tr.and_h ?_ ?_ | refine Tr.imp_h fun _ => ?_ | refine Tr.all_h fun _ => ?_ | refine Tr.lf_h ?_))
    all_goals (first | first | (show Region.lexB _ _ = true; kernel_rfl) | (show planned _ _ = true; kernel_rfl) | exact rfl | exact True.intro | ((try dsimp only [imp, C0, cG, cInt2] at *); (try refine inR64 ?_ ?_) <;> (try simp only [List.length_set, List.length_append, List.length_take, List.length_drop]) <;> omega))
  · rename_i hd
    exact absurd hd (by decide)
noncomputable def fcMost : Fc Tryd.prog C0 where
  tg := .fn 10
  X := Hx
  args := fun _ => [.ptr 0 0 0]
  mem := fun ⟨bp, q, b, base, l, n, c⟩ => hp bp q b base true true l n c
  pre := fun ⟨_, _, _, _, l, n, c⟩ => HOK l n c ∧ n < 1048576
  alts := fun ⟨bp, q, b, base, l, n, c⟩ => [⟨List Ent × Int × Bool, takePost Most l n c, fun y => .tup [.int .i64 y.2.1, .bool (.tm y.2.2)], fun y => hp bp q b base true true y.1 (n - 1) c⟩]
  mat vs m := match vs with
    | [p] => matH p m
    | _ => none
  ok := fun ⟨_, _, _, _, _, _, _⟩ h => most_ok _ _ _ _ _ _ _ h.1 h.2
noncomputable def fcMost0 : Fc Tryd.prog C0 where
  tg := .fn 10
  X := Nat × Nat
  args := fun _ => [.ptr 0 0 0]
  mem := fun (bp, q) => [⟨bp, q, 1, true, none, .one [.nils]⟩]
  pre := fun _ => True
  alts := fun (bp, q) => [⟨Unit, fun _ => True, fun y => .tup [.int .i64 0, .bool .f], fun y => [⟨bp, q, 1, true, none, .one [.nils]⟩]⟩]
  mat vs m := match vs with
    | [p] => matN p m
    | _ => none
  ok := fun (_, _) h => most_nil _ _

/-- A block taken out, or it was not in. -/
abbrev remPost (l : List Ent) (n c : Nat) (x : Int) (y : List Ent × Nat × Bool) : Prop :=
  (y.2.2 = true ∧ 0 < n ∧ y.2.1 = n - 1 ∧ HOK y.1 (n - 1) c ∧ ∃ e : Ent, e.1 = x ∧ (l.take n).Perm (e :: y.1.take (n - 1))) ∨ (y.2.2 = false ∧ y.2.1 = n ∧ y.1 = l ∧ ixf l n x = -1)
theorem ixf_cases {l : List Ent} {n : Nat} {b : Int} (hn : n ≤ l.length) : (ixf l n b = -1 ∧ ∀ k, k < n → (at_ l k).1 ≠ b) ∨ ∃ i, i < n ∧ ixf l n b = (i : Int) ∧ (at_ l i).1 = b := by
  by_cases h : ∃ k, k < n ∧ (at_ l k).1 = b
  · right
    have ⟨k, h1, h2⟩ := h
    clear h
    induction k using Nat.strongRecOn with
    | _ k ih =>
      by_cases h : ∃ j, j < k ∧ (at_ l j).1 = b
      · obtain ⟨j, hj, e⟩ := h
        exact ih j hj (by omega) e
      · exact ⟨k, h1, ixf_some hn h1 h2 fun j hj e => h ⟨j, hj, e⟩, h2⟩
  · left
    have hf : ∀ k, k < n → (at_ l k).1 ≠ b := fun k hk e => h ⟨k, hk, e⟩
    exact ⟨ixf_none hn hf, hf⟩

theorem remv_ok (bp q b base : Nat) (l : List Ent) (n c : Nat) (x : Int) (h : HOK l n c) (hb : n < 1048576) :
    Does (C := C0) Tryd.prog (.fn 12) (hp bp q b base true true l n c) [.ptr 0 0 0, .int .i64 x]
     [⟨List Ent × Nat × Bool, remPost l n c x, fun y => .bool (.tm y.2.2), fun y => hp bp q b base true true y.1 y.2.1 c⟩] := by
  have hle := h.le
  have hlen := h.len
  refine loc_fn (P := Tryd.prog) (E := ⟨[fcRem], [pcPlace, pcPlace0], 19, []⟩) (L := []) mix Tryd.func12 rfl (by kernel_rfl) (by kernel_rfl) rfl rfl ?_
  ((conv => (arg 1; reduce)); with_reducible repeat' (first | exact Tr.yes_h | refine Tr.and_h ?_ ?_ | refine Tr.imp_h fun _ => ?_ | refine Tr.all_h fun _ => ?_ | refine Tr.lf_h ?_))
  all_goals try first | (show Region.lexB _ _ = true; kernel_rfl) | (show planned _ _ = true; kernel_rfl) | exact rfl | exact True.intro
  all_goals rcases ixf_cases (b := x) (Nat.le_trans hle hlen) with ⟨hx, hne⟩ | ⟨i, hin, hx, hi⟩
  all_goals try exact ⟨Nat.le_trans hle hlen, by omega⟩
  all_goals try (rename_i hc; rw [hx] at hc; exact absurd hc (by decide))
  all_goals try (rw [hx]; omega)
  all_goals try omega
  · show HOK l (n - 1 + 1) c ∧ (ixf l n x).toNat ≤ n - 1 ∧ n - 1 < 1048576
    rw [show n - 1 + 1 = n by omega, hx]
    exact ⟨h, by omega, by omega⟩
  · rename_i hc u hu
    rw [hx] at hc
    exact absurd hc (by decide)
  · rename_i hc l' hl'
    obtain ⟨g1, g2, g3⟩ := hl'
    rw [hx, Int.toNat_natCast] at g2 g3
    rw [show n - 1 + 1 = n by omega] at g3
    refine Ends.one (l', n - 1, true) (.inl ⟨rfl, by omega, rfl, g1, at_ l i, hi, g3⟩) ?_
    ((conv => (arg 1; reduce)); with_reducible repeat' (first | exact Tr.yes_h | refine Tr.and_h ?_ ?_ | refine Tr.imp_h fun _ => ?_ | refine Tr.all_h fun _ => ?_ | refine Tr.lf_h ?_))
    all_goals first | (first | first | (show Region.lexB _ _ = true; kernel_rfl) | (show planned _ _ = true; kernel_rfl) | exact rfl | exact True.intro | ((try dsimp only [imp, C0, cG, cInt2] at *); (try refine inR64 ?_ ?_) <;> (try simp only [List.length_set, List.length_append, List.length_take, List.length_drop]) <;> omega)) | (rw [hx]; show decide ((0 : Int) ≤ (i : Int)) = true; exact decide_eq_true (by omega))
  · refine Ends.one (l, n, false) (.inr ⟨rfl, rfl, rfl, hx⟩) ?_
    ((conv => (arg 1; reduce)); with_reducible repeat' (first | exact Tr.yes_h | refine Tr.and_h ?_ ?_ | refine Tr.imp_h fun _ => ?_ | refine Tr.all_h fun _ => ?_ | refine Tr.lf_h ?_))
    all_goals first | (first | first | (show Region.lexB _ _ = true; kernel_rfl) | (show planned _ _ = true; kernel_rfl) | exact rfl | exact True.intro | ((try dsimp only [imp, C0, cG, cInt2] at *); (try refine inR64 ?_ ?_) <;> (try simp only [List.length_set, List.length_append, List.length_take, List.length_drop]) <;> omega)) | (rw [hx]; rfl)
  · rename_i hc
    rw [hx] at hc
    have := of_decide_eq_false hc
    omega
theorem remv_nil (bp q : Nat) (x : Int) :
    Does (C := C0) Tryd.prog (.fn 12) [⟨bp, q, 1, true, none, .one [.nils]⟩] [.ptr 0 0 0, .int .i64 x]
     [⟨Unit, fun _ => True, fun y => .bool .f, fun y => [⟨bp, q, 1, true, none, .one [.nils]⟩]⟩] := by
  refine loc_fn (P := Tryd.prog) (E := ⟨[fcRem], [pcPlace, pcPlace0], 19, []⟩) (L := []) mix Tryd.func12 rfl (by kernel_rfl) (by kernel_rfl) rfl rfl ?_
  ((conv => (arg 1; reduce)); with_reducible repeat' (first | exact Tr.yes_h | refine Tr.and_h ?_ ?_ | refine Tr.imp_h fun _ => ?_ | refine Tr.all_h fun _ => ?_ | refine Tr.lf_h ?_))
  all_goals try first | (show Region.lexB _ _ = true; kernel_rfl) | (show planned _ _ = true; kernel_rfl) | exact rfl | exact True.intro
  · rename_i hc
    exact absurd hc (by decide)
  · refine Ends.one () trivial ?_
    ((conv => (arg 1; reduce)); with_reducible repeat' (first | exact Tr.yes_h | refine Tr.and_h ?_ ?_ | refine Tr.imp_h fun _ => ?_ | refine Tr.all_h fun _ => ?_ | refine Tr.lf_h ?_))
    all_goals (first | first | (show Region.lexB _ _ = true; kernel_rfl) | (show planned _ _ = true; kernel_rfl) | exact rfl | exact True.intro | ((try dsimp only [imp, C0, cG, cInt2] at *); (try refine inR64 ?_ ?_) <;> (try simp only [List.length_set, List.length_append, List.length_take, List.length_drop]) <;> omega))
noncomputable def fcRemv : Fc Tryd.prog C0 where
  tg := .fn 12
  X := Hx × Int
  args := fun (_, x) => [.ptr 0 0 0, .int .i64 x]
  mem := fun (⟨bp, q, b, base, l, n, c⟩, _) => hp bp q b base true true l n c
  pre := fun (⟨_, _, _, _, l, n, c⟩, _) => HOK l n c ∧ n < 1048576
  alts := fun (⟨bp, q, b, base, l, n, c⟩, x) => [⟨List Ent × Nat × Bool, remPost l n c x, fun y => .bool (.tm y.2.2), fun y => hp bp q b base true true y.1 y.2.1 c⟩]
  mat vs m := match vs with
    | [p, .int _ x] => (matH p m).map fun (h, r) => ((h, x), r)
    | _ => none
  ok := fun (⟨_, _, _, _, _, _, _⟩, _) h => remv_ok _ _ _ _ _ _ _ _ h.1 h.2
noncomputable def fcRemv0 : Fc Tryd.prog C0 where
  tg := .fn 12
  X := (Nat × Nat) × Int
  args := fun (_, x) => [.ptr 0 0 0, .int .i64 x]
  mem := fun ((bp, q), _) => [⟨bp, q, 1, true, none, .one [.nils]⟩]
  pre := fun _ => True
  alts := fun ((bp, q), _) => [⟨Unit, fun _ => True, fun y => .bool .f, fun y => [⟨bp, q, 1, true, none, .one [.nils]⟩]⟩]
  mat vs m := match vs with
    | [p, .int _ x] => (matN p m).map fun (h, r) => ((h, x), r)
    | _ => none
  ok := fun ((_, _), _) h => remv_nil _ _ _
end Go.Vx
