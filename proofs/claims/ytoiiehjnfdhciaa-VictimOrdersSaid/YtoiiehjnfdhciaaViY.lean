/-
  Round 21: the reference's copy of numbers; its gap.
  Conditions: none.
-/
import Derived.Test.YtoiiehjnfdhciaaViX
set_option maxRecDepth 100000
set_option linter.unusedVariables false
set_option linter.unusedSimpArgs false
namespace Go.Vi
open Go Go.Vx Go.Proofs

structure Hx where
  b : Nat
  q : Nat
  a : List Int
  c : Nat
  i : Nat
/-- The first i of them are copied into the chunk p. -/
def In (p : Nat) (l : List Int) (N : Nat) : Inv' C1 := ⟨3, Hx, fun x => [(3, .sl p 0 x.i x.c), (4, .int .i64 x.i), (7, .junk)], fun x m => m.take p ++ [⟨x.b, x.q, 1, true, none, .rows 3 x.a⟩],
  fun x => x.i ≤ N ∧ x.i ≤ x.c ∧ x.c ≤ x.a.length ∧ x.a.take x.i = l.take x.i, fun x => N - x.i⟩
theorem In.bds {p : Nat} {l : List Int} {N : Nat} {x : Hx} (hx : (In p l N).inv x) (hc : decide ((x.i : Int) < (N : Int)) = true) (hN : N ≤ l.length) (hb : N < 524288) : ((0 ≤ (x.i : Int) ∧ (x.i : Int) < (N : Int) ∧ (x.i : Int).toNat + 0 < l.length) ∧ inR .i64 ((x.i : Int) + 1)) ∧ (x.i ≤ x.c ∧ 0 + x.c ≤ x.a.length) ∧ x.i < N := by
  have hc := of_decide_eq_true hc
  obtain ⟨h1, h2, h3, h4⟩ := hx
  exact ⟨⟨by omega, inR64 (by omega) (by omega)⟩, ⟨h2, by omega⟩, by omega⟩
set_option maxHeartbeats 8000000 in
theorem ints_ok (b q : Nat) (l : List Int) (N m : Nat) (hN : N ≤ l.length) (hb : N < 524288) :
    Does (C := C1) Try.prog (.fn 33) [⟨b, q, 1, false, none, .rows 3 l⟩] [.sl 0 0 N m]
     [⟨Nat × Nat × List Int × Nat, fun y => N ≤ y.2.2.2 ∧ y.2.2.2 ≤ y.2.2.1.length ∧ y.2.2.1.take N = l.take N, fun y => .sl 1 0 N y.2.2.2, fun y => [⟨b, q, 1, false, none, .rows 3 l⟩, ⟨y.1, y.2.1, 1, true, none, .rows 3 y.2.2.1⟩]⟩] := by
  refine loc_fn (P := Try.prog) (E := ⟨[], [], 22, []⟩) (L := [In 1 l N]) mix Try.func33 rfl (by kernel_rfl) (by kernel_rfl) rfl rfl ?_
  ((conv => (arg 1; reduce)); with_reducible repeat' (first | exact Tr.yes_h | refine Tr.and_h ?_ ?_ | refine Tr.imp_h fun _ => ?_ | refine Tr.all_h fun _ => ?_ | refine Tr.lf_h ?_))
  all_goals try first | (show Region.lexB _ _ = true; kernel_rfl) | (show planned _ _ = true; kernel_rfl) | exact rfl | exact True.intro
  all_goals try (have hh := In.bds ‹(In 1 l N).inv _› ‹decide (_ < (N : Int)) = true› hN hb; first | exact hh.1.2 | exact hh.1.1.1 | exact hh.1.1.2.1 | exact hh.1.1.2.2)
  · rw [by3]; exact ⟨Int.le_refl 0, by omega, by omega, by omega⟩
  · rename_i b1
    refine Stands.one ⟨b1, 0, List.replicate N 0, N, 0⟩ ⟨⟨Nat.zero_le _, Nat.zero_le _, by simp, by simp⟩, ?_⟩
    ((conv => (arg 1; reduce)); with_reducible repeat' (first | exact Tr.yes_h | refine Tr.and_h ?_ ?_ | refine Tr.imp_h fun _ => ?_ | refine Tr.all_h fun _ => ?_ | refine Tr.lf_h ?_))
    all_goals (first | first | (show Region.lexB _ _ = true; kernel_rfl) | (show planned _ _ = true; kernel_rfl) | exact rfl | exact True.intro | ((try dsimp only [imp, C1, cBlk, cItm] at *); (try refine inR64 ?_ ?_) <;> (try simp only [List.length_set, List.length_append, List.length_take, List.length_drop]) <;> omega))
  · rename_i b1 x hx hc b2
    have hh := In.bds hx hc hN hb
    rw [by3]
    exact ⟨hh.2.1.1, hh.2.1.2, Nat.le_refl 1, by omega⟩
  · rename_i b1 x hx hc b2 b3 base2 sp cap h1 h2
    have hh := In.bds hx hc hN hb
    obtain ⟨g1, g2, g3, g4⟩ := hx
    refine Stands.one ⟨b3, base2, List.append (x.a.take x.i ++ [l.getD x.i 0]) sp, cap, x.i + 1⟩ ⟨⟨by show x.i + 1 ≤ N; omega, h1, ?_, ?_⟩, ?_, ?_⟩
    · show cap ≤ (x.a.take x.i ++ [l.getD x.i 0] ++ sp).length
      simp; omega
    · exact grow (by omega) g4 (by omega) rfl
    · show N - (x.i + 1) < N - x.i; omega
    ((conv => (arg 1; reduce)); with_reducible repeat' (first | exact Tr.yes_h | refine Tr.and_h ?_ ?_ | refine Tr.imp_h fun _ => ?_ | refine Tr.all_h fun _ => ?_ | refine Tr.lf_h ?_))
    all_goals (first | first | (show Region.lexB _ _ = true; kernel_rfl) | (show planned _ _ = true; kernel_rfl) | exact rfl | exact True.intro | ((try dsimp only [imp, C1, cBlk, cItm] at *); (try refine inR64 ?_ ?_) <;> (try simp only [List.length_set, List.length_append, List.length_take, List.length_drop]) <;> omega))
  · rename_i b1 x hx hc
    have hc := of_decide_eq_false hc
    obtain ⟨g1, g2, g3, g4⟩ := hx
    have e : x.i = N := by omega
    rw [e] at g2 g4
    refine Ends.one (x.b, x.q, x.a, x.c) ⟨g2, g3, g4⟩ ?_
    rw [e]
    ((conv => (arg 1; reduce)); with_reducible repeat' (first | exact Tr.yes_h | refine Tr.and_h ?_ ?_ | refine Tr.imp_h fun _ => ?_ | refine Tr.all_h fun _ => ?_ | refine Tr.lf_h ?_))
    all_goals (first | first | (show Region.lexB _ _ = true; kernel_rfl) | (show planned _ _ = true; kernel_rfl) | exact rfl | exact True.intro | ((try dsimp only [imp, C1, cBlk, cItm] at *); (try refine inR64 ?_ ?_) <;> (try simp only [List.length_set, List.length_append, List.length_take, List.length_drop]) <;> omega))
theorem ints_nil : Does (C := C1) Try.prog (.fn 33) [] [.nils] [⟨Nat × Nat × List Int × Nat, fun y => y.2.2.2 ≤ y.2.2.1.length, fun y => .sl 0 0 0 y.2.2.2, fun y => [⟨y.1, y.2.1, 1, true, none, .rows 3 y.2.2.1⟩]⟩] := by
  refine loc_fn (P := Try.prog) (E := ⟨[], [], 22, []⟩) (L := [In 0 [] 0]) mix Try.func33 rfl (by kernel_rfl) (by kernel_rfl) rfl rfl ?_
  ((conv => (arg 1; reduce)); with_reducible repeat' (first | exact Tr.yes_h | refine Tr.and_h ?_ ?_ | refine Tr.imp_h fun _ => ?_ | refine Tr.all_h fun _ => ?_ | refine Tr.lf_h ?_))
  all_goals try first | (show Region.lexB _ _ = true; kernel_rfl) | (show planned _ _ = true; kernel_rfl) | exact rfl | exact True.intro
  all_goals try (exfalso; have h9 : _ < (0 : Int) := of_decide_eq_true ‹decide (_ < (0 : Int)) = true›; omega)
  · exact ⟨Int.le_refl 0, Int.le_refl 0, by omega, by omega⟩
  · rename_i b1
    refine Stands.one ⟨b1, 0, List.replicate 0 0, 0, 0⟩ ⟨⟨Nat.zero_le _, Nat.zero_le _, by simp, by simp⟩, ?_⟩
    ((conv => (arg 1; reduce)); with_reducible repeat' (first | exact Tr.yes_h | refine Tr.and_h ?_ ?_ | refine Tr.imp_h fun _ => ?_ | refine Tr.all_h fun _ => ?_ | refine Tr.lf_h ?_))
    all_goals (first | first | (show Region.lexB _ _ = true; kernel_rfl) | (show planned _ _ = true; kernel_rfl) | exact rfl | exact True.intro | ((try dsimp only [imp, C1, cBlk, cItm] at *); (try refine inR64 ?_ ?_) <;> (try simp only [List.length_set, List.length_append, List.length_take, List.length_drop]) <;> omega))
  · rename_i b1 x hx hc
    obtain ⟨g1, g2, g3, g4⟩ := hx
    have e : x.i = 0 := by omega
    refine Ends.one (x.b, x.q, x.a, x.c) g3 ?_
    rw [e]
    ((conv => (arg 1; reduce)); with_reducible repeat' (first | exact Tr.yes_h | refine Tr.and_h ?_ ?_ | refine Tr.imp_h fun _ => ?_ | refine Tr.all_h fun _ => ?_ | refine Tr.lf_h ?_))
    all_goals (first | first | (show Region.lexB _ _ = true; kernel_rfl) | (show planned _ _ = true; kernel_rfl) | exact rfl | exact True.intro | ((try dsimp only [imp, C1, cBlk, cItm] at *); (try refine inR64 ?_ ?_) <;> (try simp only [List.length_set, List.length_append, List.length_take, List.length_drop]) <;> omega))
noncomputable def fcInts : Fc Try.prog C1 where
  tg := .fn 33
  X := Nat × Nat × List Int × Nat × Nat
  args := fun (_, _, _, N, m) => [.sl 0 0 N m]
  mem := fun (b, q, l, _, _) => [⟨b, q, 1, false, none, .rows 3 l⟩]
  pre := fun (_, _, l, N, _) => N ≤ l.length ∧ N < 524288
  alts := fun (b, q, l, N, m) => [⟨Nat × Nat × List Int × Nat, fun y => N ≤ y.2.2.2 ∧ y.2.2.2 ≤ y.2.2.1.length ∧ y.2.2.1.take N = l.take N, fun y => .sl 1 0 N y.2.2.2, fun y => [⟨b, q, 1, false, none, .rows 3 l⟩, ⟨y.1, y.2.1, 1, true, none, .rows 3 y.2.2.1⟩]⟩]
  mat vs m := match vs with
    | [.sl k _ n c] => match nth m k with
      | ⟨b, q, _, _, _, .rows 3 l⟩ => some ((b, q, l, n, c), [k])
      | _ => none
    | _ => none
  ok := fun (_, _, _, _, _) h => ints_ok _ _ _ _ _ h.1 h.2
noncomputable def fcInts0 : Fc Try.prog C1 where
  tg := .fn 33
  X := Unit
  args := fun _ => [.nils]
  mem := fun _ => []
  pre := fun _ => True
  alts := fun _ => [⟨Nat × Nat × List Int × Nat, fun y => y.2.2.2 ≤ y.2.2.1.length, fun y => .sl 0 0 0 y.2.2.2, fun y => [⟨y.1, y.2.1, 1, true, none, .rows 3 y.2.2.1⟩]⟩]
  mat vs m := match vs with
    | [.nils] => some ((), [])
    | _ => none
  ok := fun _ _ => ints_nil

/-! The gap. -/
theorem within_cl (x : Int) : min (max 0 x) 1073741824 = cl x := by show _ = min (max x 0) 1073741824; omega
/-- The reference's walk over all numbers: the least, the most so far (-1: none). -/
def lo (a : List Int) (k : Nat) : Int := if k = 0 then -1 else mnI ((a.take k).map cl)
def hi (a : List Int) (k : Nat) : Int := if k = 0 then -1 else mxI ((a.take k).map cl)
theorem hi_step {a : List Int} {k : Nat} (hk : k < a.length) : max (hi a k) (cl (a.getD k 0)) = hi a (k + 1) := by
  unfold hi
  rw [if_neg (Nat.succ_ne_zero k), take_snoc (d := (0 : Int)) hk, List.map_append]
  split
  · rename_i h; subst h
    have := (cl_mem (a := [a.getD 0 0]) (x := cl (a.getD 0 0)) (by simp)).1
    simp only [List.take_zero, List.map_nil, List.nil_append, List.map_cons, mx_one]
    omega
  · rename_i h
    simp only [List.map_cons, List.map_nil]
    rw [mx_snoc _ _ (by simp; omega)]
theorem lo_neg {a : List Int} {k : Nat} (hk : k ≤ a.length) : lo a k < 0 ↔ k = 0 := by
  unfold lo
  split
  · rename_i h; simp [h]
  · rename_i h
    have := (cl_mem (mn_mem (l := (a.take k).map cl) (by simp; omega))).1
    constructor
    · intro g; omega
    · intro g; exact absurd g h
theorem lo_new {a : List Int} {k : Nat} (hk : k < a.length) (h : lo a k < 0 ∨ cl (a.getD k 0) < lo a k) : cl (a.getD k 0) = lo a (k + 1) := by
  rw [lo_neg (by omega)] at h
  unfold lo at h ⊢
  rw [if_neg (Nat.succ_ne_zero k), take_snoc (d := (0 : Int)) hk, List.map_append]
  by_cases e : k = 0
  · subst e
    simp only [List.take_zero, List.map_nil, List.nil_append, List.map_cons, mn_one]
  · simp only [e, if_false, false_or] at h
    simp only [List.map_cons, List.map_nil]
    rw [mn_snoc _ _ (by simp; omega)]
    omega
theorem lo_old {a : List Int} {k : Nat} (hk : k < a.length) (h : ¬ (lo a k < 0 ∨ cl (a.getD k 0) < lo a k)) : lo a k = lo a (k + 1) := by
  have e : k ≠ 0 := fun e => h (.inl ((lo_neg (by omega)).2 e))
  unfold lo at h ⊢
  rw [if_neg (Nat.succ_ne_zero k), take_snoc (d := (0 : Int)) hk, List.map_append]
  simp only [e, if_false, not_or] at h ⊢
  simp only [List.map_cons, List.map_nil]
  rw [mn_snoc _ _ (by simp; omega)]
  omega
theorem gap_hilo (a : List Int) : hi a a.length - lo a a.length = gapv a := by
  unfold hi lo gapv
  split
  · rfl
  · rw [List.take_of_length_le (Nat.le_refl _)]
theorem hilo_in {a : List Int} {k : Nat} : -1 ≤ hi a k ∧ hi a k ≤ 1073741824 ∧ -1 ≤ lo a k ∧ lo a k ≤ 1073741824 := by
  unfold hi lo
  split
  · omega
  · rename_i h
    by_cases g : a.length = 0
    · rw [List.length_eq_zero_iff.1 g]; simp [mxI, mnI]
    · have h1 := cl_mem (mx_mem (l := (a.take k).map cl) (by simp; omega))
      have h2 := cl_mem (mn_mem (l := (a.take k).map cl) (by simp; omega))
      omega
end Go.Vi
