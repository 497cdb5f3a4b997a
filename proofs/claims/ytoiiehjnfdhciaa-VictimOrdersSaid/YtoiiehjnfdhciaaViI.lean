/-
  Round 21: the failed ones deleted; the least.
  Conditions: none.
-/
import Derived.Test.YtoiiehjnfdhciaaViH
set_option maxRecDepth 100000
set_option linter.unusedVariables false
set_option linter.unusedSimpArgs false
namespace Go.Vi
open Go Go.Vx Go.Proofs

/-- Told up to j: the good ones lie in the first i. -/
structure Del (l0 l : List Blk) (i j : Nat) : Prop where
  len : l.length = l0.length
  le : i ≤ j
  good : l.take i = (l0.take j).filter nf
  rest : ∀ k, j ≤ k → l.getD k z0 = l0.getD k z0
theorem all_nf {bl : List Blk} {n : Nat} (hn : n ≤ bl.length) (h : ∀ k, k < n → failed (bl.getD k z0) = false) : (bl.take n).filter nf = bl.take n := by
  rw [List.filter_eq_self]
  intro x hx
  obtain ⟨k, hk, rfl⟩ := (Hg.mem_take (d := z0) hn).1 hx
  show (!failed (bl.getD k z0)) = true
  rw [h k hk]; rfl
theorem Del.start {bl : List Blk} {i : Nat} (hi : i < bl.length) (hf : failed (bl.getD i z0) = true) (h : ∀ k, k < i → failed (bl.getD k z0) = false) : Del bl bl i (i + 1) := by
  refine ⟨rfl, by omega, ?_, fun k hk => rfl⟩
  have hn : nf (bl.getD i z0) = false := by show (!failed _) = false; rw [hf]; rfl
  rw [take_snoc (d := z0) hi, List.filter_append, all_nf (by omega) h]
  simp only [List.filter_cons, hn, Bool.false_eq_true, if_false, List.filter_nil, List.append_nil]
theorem Del.keep {bl l : List Blk} {i j : Nat} (h : Del bl l i j) (hj : j < bl.length) (hn : nf (l.getD j z0) = true) : Del bl (l.set i (l.getD j z0)) (i + 1) (j + 1) := by
  have hl := h.len
  have hle := h.le
  refine ⟨by simp [hl], by omega, ?_, fun k hk => ?_⟩
  · have hi : i < (l.set i (l.getD j z0)).length := by simp; omega
    rw [take_snoc (d := z0) hj, List.filter_append, ← h.good, take_snoc (d := z0) hi, List.take_set_of_le (by omega)]
    rw [← h.rest j (Nat.le_refl _)]
    have e : (l.set i (l.getD j z0)).getD i z0 = l.getD j z0 := by
      simp only [List.getD_eq_getElem?_getD, List.getElem?_set]
      simp only [if_true]; rw [if_pos (by omega)]; rfl
    rw [e]
    simp only [List.filter_cons, hn, List.filter_nil, if_true]
  · rw [← h.rest k (by omega)]
    simp only [List.getD_eq_getElem?_getD, List.getElem?_set]
    rw [if_neg (by omega)]
theorem Del.skip {bl l : List Blk} {i j : Nat} (h : Del bl l i j) (hj : j < bl.length) (hn : nf (l.getD j z0) = false) : Del bl l i (j + 1) := by
  have hle := h.le
  refine ⟨h.len, by omega, ?_, fun k hk => h.rest k (by omega)⟩
  rw [take_snoc (d := z0) hj, List.filter_append, ← h.good, ← h.rest j (Nat.le_refl _)]
  simp only [List.filter_cons, hn, List.filter_nil, List.append_nil]
  simp
/-- What is left behind the good ones is made empty. -/
abbrev clr (l : List Blk) (i N m : Nat) : List Blk := l.take (srow m i 0) ++ List.replicate (N - i) z0 ++ l.drop (srow m i 0 + (N - i))
theorem clr_ok {l : List Blk} {i N m : Nat} (hi : i ≤ N) (hN : N ≤ m) (hm : m ≤ l.length) : srow m i 0 + (N - i) ≤ l.length ∧ (clr l i N m).length = l.length ∧ (clr l i N m).take i = l.take i := by
  have hs : srow m i 0 = 0 ∧ N - i = 0 ∨ srow m i 0 = i := by
    unfold srow
    split
    · exact .inl ⟨rfl, by omega⟩
    · exact .inr rfl
  unfold clr
  rcases hs with ⟨h1, h2⟩ | h1
  · rw [h1, h2]; simp
  · rw [h1]
    refine ⟨by omega, by simp; omega, ?_⟩
    rw [List.append_assoc, List.take_append_of_le_length (by simp; omega), List.take_of_length_le (by simp; omega)]
def Dl (bl : List Blk) (N : Nat) : Inv' C1 := ⟨5, List Blk × Nat × Nat, fun x => [(5, .int .i64 x.2.1), (6, .int .i64 x.2.2)], fun x m => setCk m 0 (.rows 27 x.1), fun x => x.2.2 ≤ N ∧ Del bl x.1 x.2.1 x.2.2, fun x => N - x.2.2⟩
set_option maxHeartbeats 4000000 in
theorem delete_ok (b q : Nat) (bl : List Blk) (N m : Nat) (hN : N ≤ m) (hm : m ≤ bl.length) (hb : N < 1048576) :
    Does (C := C1) Try.prog (.fn 25) [⟨b, q, 4, true, none, .rows 27 bl⟩] [.sl 0 0 N m, .fn (.func 27) [] []]
     [⟨List Blk × Nat, fun y => y.2 ≤ N ∧ y.1.length = bl.length ∧ y.1.take y.2 = (bl.take N).filter nf, fun y => .sl 0 0 y.2 m, fun y => [⟨b, q, 4, true, none, .rows 27 y.1⟩]⟩] := by
  refine loc_fn (P := Try.prog) (E := ⟨[fcIndex, fcIndex0], [pcFail], 42, []⟩) (L := [Dl bl N]) mix Try.func25 rfl (by kernel_rfl) (by kernel_rfl) rfl rfl ?_
  ((conv => (arg 1; reduce)); with_reducible repeat' (first | exact Tr.yes_h | refine Tr.and_h ?_ ?_ | refine Tr.imp_h fun _ => ?_ | refine Tr.all_h fun _ => ?_ | refine Tr.lf_h ?_))
  all_goals try first | (show Region.lexB _ _ = true; kernel_rfl) | (show planned _ _ = true; kernel_rfl) | exact rfl | exact True.intro
  all_goals try (have h9 : _ < (N : Int) := of_decide_eq_true ‹decide (_ < (N : Int)) = true›; obtain ⟨g1, g2, g3, g4, g5⟩ := (‹(Dl bl N).inv _› : (Dl bl N).inv _); first | omega | exact inR64 (by omega) (by omega))
  all_goals try exact absurd ‹decide ((-1 : Int) = -1) = false› (by decide)
  · exact ⟨by omega, hb⟩
  · rename_i i hi hc
    exfalso
    have hc : (i : Int) = -1 := of_decide_eq_true hc
    omega
  · rename_i i hi hc
    have := hi.1
    exact inR64 (by omega) (by omega)
  · rename_i i hi hc
    change Nat at i
    obtain ⟨h1, h2, h3⟩ := hi
    have h1 : i < N := h1
    refine Stands.one (bl, i, i + 1) ⟨⟨by show i + 1 ≤ N; omega, Del.start (i := i) (Nat.lt_of_lt_of_le h1 (Nat.le_trans hN hm)) h2 h3⟩, ?_⟩
    ((conv => (arg 1; reduce)); with_reducible repeat' (first | exact Tr.yes_h | refine Tr.and_h ?_ ?_ | refine Tr.imp_h fun _ => ?_ | refine Tr.all_h fun _ => ?_ | refine Tr.lf_h ?_))
    all_goals (first | first | (show Region.lexB _ _ = true; kernel_rfl) | (show planned _ _ = true; kernel_rfl) | exact rfl | exact True.intro | ((try dsimp only [imp, C1, cBlk, cItm] at *); (try refine inR64 ?_ ?_) <;> (try simp only [List.length_set, List.length_append, List.length_take, List.length_drop]) <;> omega))
  · rename_i i hi hc x hx hd cb hf
    have hd := of_decide_eq_true hd
    obtain ⟨g0, g⟩ := hx
    refine Stands.one (x.1.set x.2.1 (x.1.getD x.2.2 z0), x.2.1 + 1, x.2.2 + 1) ⟨⟨by show x.2.2 + 1 ≤ N; omega, g.keep (by omega) hf⟩, ?_, ?_⟩
    · show N - (x.2.2 + 1) < N - x.2.2; omega
    ((conv => (arg 1; reduce)); with_reducible repeat' (first | exact Tr.yes_h | refine Tr.and_h ?_ ?_ | refine Tr.imp_h fun _ => ?_ | refine Tr.all_h fun _ => ?_ | refine Tr.lf_h ?_))
    all_goals (first | first | (show Region.lexB _ _ = true; kernel_rfl) | (show planned _ _ = true; kernel_rfl) | exact rfl | exact True.intro | ((try dsimp only [imp, C1, cBlk, cItm] at *); (try refine inR64 ?_ ?_) <;> (try simp only [List.length_set, List.length_append, List.length_take, List.length_drop]) <;> omega))
  · rename_i i hi hc x hx hd cb hf
    have hd := of_decide_eq_true hd
    obtain ⟨g0, g⟩ := hx
    refine Stands.one (x.1, x.2.1, x.2.2 + 1) ⟨⟨by show x.2.2 + 1 ≤ N; omega, g.skip (by omega) hf⟩, ?_, ?_⟩
    · show N - (x.2.2 + 1) < N - x.2.2; omega
    ((conv => (arg 1; reduce)); with_reducible repeat' (first | exact Tr.yes_h | refine Tr.and_h ?_ ?_ | refine Tr.imp_h fun _ => ?_ | refine Tr.all_h fun _ => ?_ | refine Tr.lf_h ?_))
    all_goals (first | first | (show Region.lexB _ _ = true; kernel_rfl) | (show planned _ _ = true; kernel_rfl) | exact rfl | exact True.intro | ((try dsimp only [imp, C1, cBlk, cItm] at *); (try refine inR64 ?_ ?_) <;> (try simp only [List.length_set, List.length_append, List.length_take, List.length_drop]) <;> omega))
  all_goals try (rename_i i hi hc x hx hd; obtain ⟨g0, g⟩ := hx; have g1 := g.le; have g2 := g.len; first | omega | (rw [Int.toNat_natCast]; exact (clr_ok (l := x.1) (by omega) hN (by omega)).1))
  · rename_i i hi hc x hx hd
    have hd := of_decide_eq_false hd
    obtain ⟨g0, g⟩ := hx
    have g1 := g.le
    have g2 := g.len
    have e : x.2.2 = N := by omega
    obtain ⟨k1, k2, k3⟩ := clr_ok (l := x.1) (i := x.2.1) (N := N) (m := m) (by omega) hN (by omega)
    refine Ends.one (clr x.1 x.2.1 N m, x.2.1) ⟨by show x.2.1 ≤ N; omega, k2.trans g2, k3.trans (e ▸ g.good)⟩ ?_
    ((conv => (arg 1; reduce)); with_reducible repeat' (first | exact Tr.yes_h | refine Tr.and_h ?_ ?_ | refine Tr.imp_h fun _ => ?_ | refine Tr.all_h fun _ => ?_ | refine Tr.lf_h ?_))
    all_goals first | (first | first | (show Region.lexB _ _ = true; kernel_rfl) | (show planned _ _ = true; kernel_rfl) | exact rfl | exact True.intro | ((try dsimp only [imp, C1, cBlk, cItm] at *); (try refine inR64 ?_ ?_) <;> (try simp only [List.length_set, List.length_append, List.length_take, List.length_drop]) <;> omega)) | trace_state
  · rename_i u hu hc
    refine Ends.one (bl, N) ⟨Nat.le_refl _, rfl, (all_nf (by omega) hu).symm⟩ ?_
    ((conv => (arg 1; reduce)); with_reducible repeat' (first | exact Tr.yes_h | refine Tr.and_h ?_ ?_ | refine Tr.imp_h fun _ => ?_ | refine Tr.all_h fun _ => ?_ | refine Tr.lf_h ?_))
    all_goals (first | first | (show Region.lexB _ _ = true; kernel_rfl) | (show planned _ _ = true; kernel_rfl) | exact rfl | exact True.intro | ((try dsimp only [imp, C1, cBlk, cItm] at *); (try refine inR64 ?_ ?_) <;> (try simp only [List.length_set, List.length_append, List.length_take, List.length_drop]) <;> omega))

theorem delete_nil : Does (C := C1) Try.prog (.fn 25) [] [.nils, .fn (.func 27) [] []] [⟨Unit, fun _ => True, fun i => .nils, fun y => []⟩] := by
  refine loc_fn (P := Try.prog) (E := ⟨[fcIndex, fcIndex0], [pcFail], 42, []⟩) (L := [⟨5, Unit, fun x => [], fun x m => m, fun x => False, fun x => 0⟩]) mix Try.func25 rfl (by kernel_rfl) (by kernel_rfl) rfl rfl ?_
  ((conv => (arg 1; reduce)); with_reducible repeat' (first | exact Tr.yes_h | refine Tr.and_h ?_ ?_ | refine Tr.imp_h fun _ => ?_ | refine Tr.all_h fun _ => ?_ | refine Tr.lf_h ?_))
  all_goals try first | (show Region.lexB _ _ = true; kernel_rfl) | (show planned _ _ = true; kernel_rfl) | exact rfl | exact True.intro
  all_goals try exact absurd ‹decide ((-1 : Int) = -1) = false› (by decide)
  · refine Ends.one () trivial ?_
    ((conv => (arg 1; reduce)); with_reducible repeat' (first | exact Tr.yes_h | refine Tr.and_h ?_ ?_ | refine Tr.imp_h fun _ => ?_ | refine Tr.all_h fun _ => ?_ | refine Tr.lf_h ?_))
    all_goals (first | first | (show Region.lexB _ _ = true; kernel_rfl) | (show planned _ _ = true; kernel_rfl) | exact rfl | exact True.intro | ((try dsimp only [imp, C1, cBlk, cItm] at *); (try refine inR64 ?_ ?_) <;> (try simp only [List.length_set, List.length_append, List.length_take, List.length_drop]) <;> omega))
noncomputable def fcDel : Fc Try.prog C1 where
  tg := .fn 25
  X := Nat × Nat × List Blk × Nat × Nat
  args := fun (_, _, _, N, m) => [.sl 0 0 N m, .fn (.func 27) [] []]
  mem := fun (b, q, bl, _, _) => [⟨b, q, 4, true, none, .rows 27 bl⟩]
  pre := fun (_, _, bl, N, m) => N ≤ m ∧ m ≤ bl.length ∧ N < 1048576
  alts := fun (b, q, bl, N, m) => [⟨List Blk × Nat, fun y => y.2 ≤ N ∧ y.1.length = bl.length ∧ y.1.take y.2 = (bl.take N).filter nf, fun y => .sl 0 0 y.2 m, fun y => [⟨b, q, 4, true, none, .rows 27 y.1⟩]⟩]
  mat vs m := match vs with
    | [.sl k _ n c, _] => match nth m k with
      | ⟨b, q, _, _, _, .rows 27 l⟩ => some ((b, q, l, n, c), [k])
      | _ => none
    | _ => none
  ok := fun (_, _, _, _, _) h => delete_ok _ _ _ _ _ h.1 h.2.1 h.2.2
noncomputable def fcDel0 : Fc Try.prog C1 where
  tg := .fn 25
  X := Unit
  args := fun _ => [.nils, .fn (.func 27) [] []]
  mem := fun _ => []
  pre := fun _ => True
  alts := fun _ => [⟨Unit, fun _ => True, fun i => .nils, fun y => []⟩]
  mat vs m := match vs with
    | [.nils, _] => some ((), [])
    | _ => none
  ok := fun _ _ => delete_nil

/-! The least of those that are left. -/
theorem co_lt {a b : Blk} : co a b < 0 ↔ a.2.2.1 < b.2.2.1 ∨ (a.2.2.1 = b.2.2.1 ∧ (a.2.1 < b.2.1 ∨ (a.2.1 = b.2.1 ∧ a.1 < b.1))) := by
  have e : co a b = lexI [(a.2.2.1, b.2.2.1), (a.2.1, b.2.1), (a.1, b.1)] := orv_lex [(a.2.2.1, b.2.2.1), (a.2.1, b.2.1), (a.1, b.1)]
  rw [e]
  simp only [lexI]
  constructor
  · intro h
    repeat' (split at h)
    all_goals omega
  · intro h
    rcases h with h | ⟨h, h1⟩
    · rw [if_pos h]; decide
    · rw [if_neg (by omega), if_neg (by omega)]
      rcases h1 with h1 | ⟨h1, h2⟩
      · rw [if_pos h1]; decide
      · rw [if_neg (by omega), if_neg (by omega), if_pos h2]; decide
/-- The first j's least. -/
def LeastB (l : List Blk) (j : Nat) (e : Blk) : Prop := e ∈ l.take j ∧ ∀ x ∈ l.take j, ¬ co x e < 0
theorem LeastB.start {l : List Blk} (h : 0 < l.length) : LeastB l 1 (l.getD 0 z0) := by
  have e := take_snoc (d := z0) h
  simp only [List.take_zero, List.nil_append, Nat.zero_add] at e
  unfold LeastB
  rw [e]
  refine ⟨List.mem_singleton.2 rfl, fun x hx => ?_⟩
  rw [List.mem_singleton.1 hx, co_lt]; omega
theorem LeastB.new {l : List Blk} {j : Nat} {e : Blk} (h : LeastB l j e) (hj : j < l.length) (hc : co (l.getD j z0) e < 0) : LeastB l (j + 1) (l.getD j z0) := by
  unfold LeastB
  rw [take_snoc (d := z0) hj]
  refine ⟨by simp, fun x hx => ?_⟩
  rcases List.mem_append.1 hx with hx | hx
  · have := h.2 x hx
    rw [co_lt] at this hc ⊢; omega
  · rw [List.mem_singleton.1 hx, co_lt]; omega
theorem LeastB.old {l : List Blk} {j : Nat} {e : Blk} (h : LeastB l j e) (hj : j < l.length) (hc : ¬ co (l.getD j z0) e < 0) : LeastB l (j + 1) e := by
  unfold LeastB
  rw [take_snoc (d := z0) hj]
  refine ⟨List.mem_append.2 (.inl h.1), fun x hx => ?_⟩
  rcases List.mem_append.1 hx with hx | hx
  · exact h.2 x hx
  · rw [List.mem_singleton.1 hx]; exact hc
abbrev cellB (e : Blk) : Cells C1 := .one [.int .i64 e.1, .int .i64 e.2.1, .int .i64 e.2.2.1, .bool (.tm e.2.2.2)]
def Mn (bl : List Blk) (N : Nat) : Inv' C1 := ⟨5, Blk × Nat, fun x => [(6, .int .i64 x.2)], fun x m => setCk m 2 (cellB x.1), fun x => 0 < x.2 ∧ x.2 ≤ N ∧ LeastB bl x.2 x.1, fun x => N - x.2⟩
set_option maxHeartbeats 4000000 in
theorem min_ok (b q : Nat) (bl : List Blk) (N m : Nat) (h0 : 0 < N) (hN : N ≤ bl.length) (hb : N < 1048576) :
    Does (C := C1) Try.prog (.fn 28) [⟨b, q, 4, false, none, .rows 27 bl⟩] [.sl 0 0 N m, .fn (.func 29) [] []]
     [⟨Blk, fun e => LeastB bl N e, fun e => bSV e, fun y => [⟨b, q, 4, false, none, .rows 27 bl⟩]⟩] := by
  refine loc_fn (P := Try.prog) (E := ⟨[], [pcCo], 33, []⟩) (L := [Mn bl N]) mix Try.func28 rfl (by kernel_rfl) (by kernel_rfl) rfl rfl ?_
  ((conv => (arg 1; reduce)); with_reducible repeat' (first | exact Tr.yes_h | refine Tr.and_h ?_ ?_ | refine Tr.imp_h fun _ => ?_ | refine Tr.all_h fun _ => ?_ | refine Tr.lf_h ?_))
  all_goals try first | (show Region.lexB _ _ = true; kernel_rfl) | (show planned _ _ = true; kernel_rfl) | exact rfl | exact True.intro
  all_goals try (have h9 : _ < (N : Int) := of_decide_eq_true ‹decide (_ < (N : Int)) = true›; obtain ⟨g1, g2, g3⟩ := (‹(Mn bl N).inv _› : (Mn bl N).inv _); first | omega | exact inR64 (by omega) (by omega))
  all_goals try (first | (exfalso; have h9 : (N : Int) < 1 := of_decide_eq_true ‹decide ((N : Int) < 1) = true›; omega) | omega)
  · rename_i c1 hc c2
    refine Stands.one (bl.getD 0 z0, 1) ⟨⟨Nat.one_pos, h0, LeastB.start (by omega)⟩, ?_⟩
    ((conv => (arg 1; reduce)); with_reducible repeat' (first | exact Tr.yes_h | refine Tr.and_h ?_ ?_ | refine Tr.imp_h fun _ => ?_ | refine Tr.all_h fun _ => ?_ | refine Tr.lf_h ?_))
    all_goals (first | first | (show Region.lexB _ _ = true; kernel_rfl) | (show planned _ _ = true; kernel_rfl) | exact rfl | exact True.intro | ((try dsimp only [imp, C1, cBlk, cItm] at *); (try refine inR64 ?_ ?_) <;> (try simp only [List.length_set, List.length_append, List.length_take, List.length_drop]) <;> omega))
  · rename_i c1 hc c2 x hx hd he
    have hd := of_decide_eq_true hd
    have he : co (bl.getD x.2 z0) x.1 < 0 := of_decide_eq_true he
    obtain ⟨g1, g2, g3⟩ := hx
    refine Stands.one (bl.getD x.2 z0, x.2 + 1) ⟨⟨Nat.succ_pos _, by show x.2 + 1 ≤ N; omega, g3.new (by omega) he⟩, ?_, ?_⟩
    · show N - (x.2 + 1) < N - x.2; omega
    ((conv => (arg 1; reduce)); with_reducible repeat' (first | exact Tr.yes_h | refine Tr.and_h ?_ ?_ | refine Tr.imp_h fun _ => ?_ | refine Tr.all_h fun _ => ?_ | refine Tr.lf_h ?_))
    all_goals (first | first | (show Region.lexB _ _ = true; kernel_rfl) | (show planned _ _ = true; kernel_rfl) | exact rfl | exact True.intro | ((try dsimp only [imp, C1, cBlk, cItm] at *); (try refine inR64 ?_ ?_) <;> (try simp only [List.length_set, List.length_append, List.length_take, List.length_drop]) <;> omega))
  · rename_i c1 hc c2 x hx hd he
    have hd := of_decide_eq_true hd
    have he : ¬ co (bl.getD x.2 z0) x.1 < 0 := of_decide_eq_false he
    obtain ⟨g1, g2, g3⟩ := hx
    refine Stands.one (x.1, x.2 + 1) ⟨⟨Nat.succ_pos _, by show x.2 + 1 ≤ N; omega, g3.old (by omega) he⟩, ?_, ?_⟩
    · show N - (x.2 + 1) < N - x.2; omega
    ((conv => (arg 1; reduce)); with_reducible repeat' (first | exact Tr.yes_h | refine Tr.and_h ?_ ?_ | refine Tr.imp_h fun _ => ?_ | refine Tr.all_h fun _ => ?_ | refine Tr.lf_h ?_))
    all_goals (first | first | (show Region.lexB _ _ = true; kernel_rfl) | (show planned _ _ = true; kernel_rfl) | exact rfl | exact True.intro | ((try dsimp only [imp, C1, cBlk, cItm] at *); (try refine inR64 ?_ ?_) <;> (try simp only [List.length_set, List.length_append, List.length_take, List.length_drop]) <;> omega))
  · rename_i c1 hc c2 x hx hd
    have hd := of_decide_eq_false hd
    obtain ⟨g1, g2, g3⟩ := hx
    have e : x.2 = N := by omega
    rw [e] at g3
    refine Ends.one x.1 g3 ?_
    ((conv => (arg 1; reduce)); with_reducible repeat' (first | exact Tr.yes_h | refine Tr.and_h ?_ ?_ | refine Tr.imp_h fun _ => ?_ | refine Tr.all_h fun _ => ?_ | refine Tr.lf_h ?_))
    all_goals (first | first | (show Region.lexB _ _ = true; kernel_rfl) | (show planned _ _ = true; kernel_rfl) | exact rfl | exact True.intro | ((try dsimp only [imp, C1, cBlk, cItm] at *); (try refine inR64 ?_ ?_) <;> (try simp only [List.length_set, List.length_append, List.length_take, List.length_drop]) <;> omega))
noncomputable def fcMin : Fc Try.prog C1 where
  tg := .fn 28
  X := Nat × Nat × List Blk × Nat × Nat
  args := fun (_, _, _, N, m) => [.sl 0 0 N m, .fn (.func 29) [] []]
  mem := fun (b, q, bl, _, _) => [⟨b, q, 4, false, none, .rows 27 bl⟩]
  pre := fun (_, _, bl, N, m) => 0 < N ∧ N ≤ bl.length ∧ N < 1048576
  alts := fun (b, q, bl, N, m) => [⟨Blk, fun e => LeastB bl N e, fun e => bSV e, fun y => [⟨b, q, 4, false, none, .rows 27 bl⟩]⟩]
  mat vs m := match vs with
    | [.sl k _ n c, _] => match nth m k with
      | ⟨b, q, _, _, _, .rows 27 l⟩ => some ((b, q, l, n, c), [k])
      | _ => none
    | _ => none
  ok := fun (_, _, _, _, _) h => min_ok _ _ _ _ _ h.1 h.2.1 h.2.2

/-- The coldest of those that did not fail. -/
def Coldest (bl : List Blk) (e : Blk) : Prop := (e ∈ bl ∧ nf e = true) ∧ ∀ x ∈ bl, nf x = true → ¬ co x e < 0
theorem coldest_of {bl g : List Blk} {n : Nat} {e : Blk} (h : LeastB g n e) (hg : g.take n = bl.filter nf) : Coldest bl e := by
  obtain ⟨h1, h2⟩ := h
  rw [hg] at h1 h2
  exact ⟨List.mem_filter.1 h1, fun x hx hn => h2 x (List.mem_filter.2 ⟨hx, hn⟩)⟩
theorem none_of {bl g : List Blk} (hg : g.take 0 = bl.filter nf) : ∀ x ∈ bl, nf x = false := by
  intro x hx
  cases hn : nf x with
  | false => rfl
  | true =>
    have := List.mem_filter.2 ⟨hx, hn⟩
    rw [← hg] at this
    simp at this
set_option maxHeartbeats 4000000 in
theorem cold_ok (b q : Nat) (bl : List Blk) (N m : Nat) (hN : N ≤ bl.length) (hb : N < 1048576) :
    Does (C := C1) Try.prog (.fn 15) [⟨b, q, 4, false, none, .rows 27 bl⟩] [.sl 0 0 N m]
     [⟨Unit, fun _ => ∀ x ∈ bl.take N, nf x = false, fun _ => .tup [zSV, .bool .f], fun y => [⟨b, q, 4, false, none, .rows 27 bl⟩]⟩,
      ⟨Blk, fun e => Coldest (bl.take N) e, fun e => .tup [bSV e, .bool .t], fun y => [⟨b, q, 4, false, none, .rows 27 bl⟩]⟩] := by
  refine loc_fn (P := Try.prog) (E := ⟨[fc_clone, fc_clone0, fcDel, fcDel0, fcMin], [], 14, []⟩) (L := []) mix Try.func15 rfl (by kernel_rfl) (by kernel_rfl) rfl rfl ?_
  ((conv => (arg 1; reduce)); with_reducible repeat' (first | exact Tr.yes_h | refine Tr.and_h ?_ ?_ | refine Tr.imp_h fun _ => ?_ | refine Tr.all_h fun _ => ?_ | refine Tr.lf_h ?_))
  all_goals try first | (show Region.lexB _ _ = true; kernel_rfl) | (show planned _ _ = true; kernel_rfl) | exact rfl | exact True.intro
  · exact ⟨hN, hb⟩
  · rename_i b1 y hy
    exact ⟨hy.1, hy.2.1, hb⟩
  · rename_i b1 y hy z hz hc
    have hc : (z.2 : Int) = 0 := of_decide_eq_true hc
    have e : z.2 = 0 := by omega
    obtain ⟨k1, k2, k3⟩ := hz
    rw [e, hy.2.2] at k3
    refine Ends.one () (none_of k3) ?_
    ((conv => (arg 1; reduce)); with_reducible repeat' (first | exact Tr.yes_h | refine Tr.and_h ?_ ?_ | refine Tr.imp_h fun _ => ?_ | refine Tr.all_h fun _ => ?_ | refine Tr.lf_h ?_))
    all_goals (first | first | (show Region.lexB _ _ = true; kernel_rfl) | (show planned _ _ = true; kernel_rfl) | exact rfl | exact True.intro | ((try dsimp only [imp, C1, cBlk, cItm] at *); (try refine inR64 ?_ ?_) <;> (try simp only [List.length_set, List.length_append, List.length_take, List.length_drop]) <;> omega))
  · rename_i b1 y hy z hz hc
    have hc : ¬ (z.2 : Int) = 0 := of_decide_eq_false hc
    obtain ⟨k1, k2, k3⟩ := hz
    have h1 := hy.1
    have h2 := hy.2.1
    exact ⟨by show 0 < z.2; omega, by show z.2 ≤ z.1.length; rw [k2]; omega, by show z.2 < _; omega⟩
  · rename_i b1 y hy z hz hc e he
    obtain ⟨k1, k2, k3⟩ := hz
    rw [hy.2.2] at k3
    refine Ends.next (Ends.one e (coldest_of he k3) ?_)
    ((conv => (arg 1; reduce)); with_reducible repeat' (first | exact Tr.yes_h | refine Tr.and_h ?_ ?_ | refine Tr.imp_h fun _ => ?_ | refine Tr.all_h fun _ => ?_ | refine Tr.lf_h ?_))
    all_goals (first | first | (show Region.lexB _ _ = true; kernel_rfl) | (show planned _ _ = true; kernel_rfl) | exact rfl | exact True.intro | ((try dsimp only [imp, C1, cBlk, cItm] at *); (try refine inR64 ?_ ?_) <;> (try simp only [List.length_set, List.length_append, List.length_take, List.length_drop]) <;> omega))
theorem cold_nil : Does (C := C1) Try.prog (.fn 15) [] [.nils] [⟨Unit, fun _ => True, fun _ => .tup [zSV, .bool .f], fun y => []⟩] := by
  refine loc_fn (P := Try.prog) (E := ⟨[fc_clone, fc_clone0, fcDel, fcDel0, fcMin], [], 14, []⟩) (L := []) mix Try.func15 rfl (by kernel_rfl) (by kernel_rfl) rfl rfl ?_
  ((conv => (arg 1; reduce)); with_reducible repeat' (first | exact Tr.yes_h | refine Tr.and_h ?_ ?_ | refine Tr.imp_h fun _ => ?_ | refine Tr.all_h fun _ => ?_ | refine Tr.lf_h ?_))
  all_goals try first | (show Region.lexB _ _ = true; kernel_rfl) | (show planned _ _ = true; kernel_rfl) | exact rfl | exact True.intro
  all_goals try (rename_i h; exact absurd h (by decide))
  · refine Ends.one () trivial ?_
    ((conv => (arg 1; reduce)); with_reducible repeat' (first | exact Tr.yes_h | refine Tr.and_h ?_ ?_ | refine Tr.imp_h fun _ => ?_ | refine Tr.all_h fun _ => ?_ | refine Tr.lf_h ?_))
    all_goals (first | first | (show Region.lexB _ _ = true; kernel_rfl) | (show planned _ _ = true; kernel_rfl) | exact rfl | exact True.intro | ((try dsimp only [imp, C1, cBlk, cItm] at *); (try refine inR64 ?_ ?_) <;> (try simp only [List.length_set, List.length_append, List.length_take, List.length_drop]) <;> omega))
noncomputable def fcCold : Fc Try.prog C1 where
  tg := .fn 15
  X := Nat × Nat × List Blk × Nat × Nat
  args := fun (_, _, _, N, m) => [.sl 0 0 N m]
  mem := fun (b, q, bl, _, _) => [⟨b, q, 4, false, none, .rows 27 bl⟩]
  pre := fun (_, _, bl, N, _) => N ≤ bl.length ∧ N < 1048576
  alts := fun (b, q, bl, N, m) => [⟨Unit, fun _ => ∀ x ∈ bl.take N, nf x = false, fun _ => .tup [zSV, .bool .f], fun y => [⟨b, q, 4, false, none, .rows 27 bl⟩]⟩,
      ⟨Blk, fun e => Coldest (bl.take N) e, fun e => .tup [bSV e, .bool .t], fun y => [⟨b, q, 4, false, none, .rows 27 bl⟩]⟩]
  mat vs m := match vs with
    | [.sl k _ n c] => match nth m k with
      | ⟨b, q, _, _, _, .rows 27 l⟩ => some ((b, q, l, n, c), [k])
      | _ => none
    | _ => none
  ok := fun (_, _, _, _, _) h => cold_ok _ _ _ _ _ h.1 h.2
noncomputable def fcCold0 : Fc Try.prog C1 where
  tg := .fn 15
  X := Unit
  args := fun _ => [.nils]
  mem := fun _ => []
  pre := fun _ => True
  alts := fun _ => [⟨Unit, fun _ => True, fun _ => .tup [zSV, .bool .f], fun y => []⟩]
  mat vs m := match vs with
    | [.nils] => some ((), [])
    | _ => none
  ok := fun _ _ => cold_nil
end Go.Vi
