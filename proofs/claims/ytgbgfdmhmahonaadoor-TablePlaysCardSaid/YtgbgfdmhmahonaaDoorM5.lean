/-
  Round 20: the reference's slots of a block.
  Round 20: Same.
  Round 20: the program's slots and the reference's list say the same: plain facts.
  Conditions: none.
-/
import Derived.Test.YtgbgfdmhmahonaaDoorM4
set_option linter.unusedSectionVars false
set_option maxRecDepth 100000
set_option linter.unusedVariables false
set_option linter.unusedSimpArgs false
namespace Go.Vx
open Go Go.Proofs
variable [Gl]

def isAt (b : Int) (p : Nat) (s : Slot) : Bool := decide (s.pl.1 = b) && decide (s.pl.2 = (p : Int))
/-- The slots of a block on the pages below p. -/
def ofTo (R : List Slot) (b : Int) : Nat → List Slot
  | 0 => []
  | p + 1 => ofTo R b p ++ R.filter (isAt b p)
/-- .. and, of the first i, on page p. -/
def ofAt (R : List Slot) (b : Int) (p i : Nat) : List Slot := ofTo R b p ++ (R.take i).filter (isAt b p)
theorem ofAt_zero (R : List Slot) (b : Int) (p : Nat) : ofAt R b p 0 = ofTo R b p := by simp [ofAt]
theorem ofAt_all {R : List Slot} {b : Int} {p i : Nat} (h : R.length ≤ i) : ofAt R b p i = ofTo R b (p + 1) := by
  rw [ofAt, List.take_of_length_le h, ofTo]
theorem ofAt_yes {R : List Slot} {b : Int} {p i : Nat} (h : i < R.length) (hc : isAt b p (R.getD i slot0) = true) : ofAt R b p (i + 1) = ofAt R b p i ++ [R.getD i slot0] := by
  rw [ofAt, take_snoc h, List.filter_append, ← List.append_assoc, ofAt, List.filter_cons_of_pos hc, List.filter_nil]
theorem ofAt_no {R : List Slot} {b : Int} {p i : Nat} (h : i < R.length) (hc : isAt b p (R.getD i slot0) = false) : ofAt R b p (i + 1) = ofAt R b p i := by
  rw [ofAt, take_snoc h, List.filter_append, ofAt, List.filter_cons_of_neg (by rw [hc]; exact Bool.false_ne_true), List.filter_nil, List.append_nil]
theorem ofTo_nil (b : Int) : ∀ p, ofTo [] b p = []
  | 0 => rfl
  | p + 1 => by rw [ofTo, ofTo_nil b p]; rfl
theorem ofTo_len (R : List Slot) (b : Int) : ∀ p, (ofTo R b p).length ≤ p * R.length
  | 0 => by simp [ofTo]
  | p + 1 => by
    rw [ofTo, List.length_append, Nat.add_mul]
    have := ofTo_len R b p
    have := List.length_filter_le (isAt b p) R
    omega
theorem ofAt_len (R : List Slot) (b : Int) (p i : Nat) (hp : p < 64) : (ofAt R b p i).length ≤ 64 * R.length := by
  rw [ofAt, List.length_append]
  have h1 := ofTo_len R b p
  have h2 := List.length_filter_le (isAt b p) (R.take i)
  rw [List.length_take] at h2
  have h3 : p * R.length + R.length ≤ 64 * R.length := by
    have := Nat.mul_le_mul_right R.length (show p + 1 ≤ 64 by omega)
    rw [Nat.add_mul] at this; omega
  omega
/-- The rows that were found: as a list in memory. -/
structure Og (A : List Slot) (l : List Slot) (n c : Nat) : Prop where
  eq : l.take n = A
  pos : 0 < n
  len : A.length = n
  cap : n ≤ c
  fit : c ≤ l.length
abbrev rtr (w : Bool) : Rt → List (Ck C0)
  | ⟨bp, bq, bs, ps, b, q, l, n, c⟩ => [⟨bp, bq, 3, w, none, .one [.int .i64 bs, .int .i64 ps, .sl 1 0 n c]⟩, ⟨b, q, 9, false, none, .rows 56 l⟩]
def O30 (x : Rt) (b : Int) : Inv' C0 := ⟨3, Nat, fun p => [(6, .int .i64 (p : Int)), (5, .nils)], fun _ m => m, fun p => (p : Int) ≤ x.ps ∧ ofTo (rl x) b p = [], fun p => 64 - p⟩
def O31 (x : Rt) (b : Int) : Inv' C0 := ⟨3, Nat × Nat × Nat × List Slot × Nat × Nat, fun y => [(6, .int .i64 (y.1 : Int)), (5, .sl 2 0 y.2.2.2.2.1 y.2.2.2.2.2)], fun y m => match m with
  | [a, r] => [a, r, ⟨y.2.1, y.2.2.1, 9, true, none, .rows 56 y.2.2.2.1⟩]
  | m => m, fun y => (y.1 : Int) ≤ x.ps ∧ Og (ofTo (rl x) b y.1) y.2.2.2.1 y.2.2.2.2.1 y.2.2.2.2.2, fun y => 64 - y.1⟩
def O60 (x : Rt) (b : Int) : Inv' C0 := ⟨6, Nat × Nat, fun p => [(6, .int .i64 (p.1 : Int)), (7, .int .i64 (p.2 : Int)), (5, .nils)], fun _ m => match m with
  | [a, r] => [a, r]
  | [a, r, _] => [a, r]
  | m => m, fun p => p.2 ≤ x.n ∧ ofAt (rl x) b p.1 p.2 = [], fun p => x.n - p.2⟩
def O61 (x : Rt) (b : Int) : Inv' C0 := ⟨6, (Nat × Nat) × Nat × Nat × List Slot × Nat × Nat, fun y => [(6, .int .i64 (y.1.1 : Int)), (7, .int .i64 (y.1.2 : Int)), (5, .sl 2 0 y.2.2.2.2.1 y.2.2.2.2.2)], fun y m => match m with
  | [a, r] => [a, r, ⟨y.2.1, y.2.2.1, 9, true, none, .rows 56 y.2.2.2.1⟩]
  | [a, r, _] => [a, r, ⟨y.2.1, y.2.2.1, 9, true, none, .rows 56 y.2.2.2.1⟩]
  | m => m, fun y => y.1.2 ≤ x.n ∧ Og (ofAt (rl x) b y.1.1 y.1.2) y.2.2.2.1 y.2.2.2.2.1 y.2.2.2.2.2, fun y => x.n - y.1.2⟩
set_option maxHeartbeats 8000000 in
theorem of_ok (x : Rt) (b : Int) (h : Rk x.l x.n x.c) (hp : 1 ≤ x.ps ∧ x.ps ≤ 64) : Does (C := C0) Tryd.prog (.fn 20) (rtr false x) [.ptr 0 0 0, .int .i64 b]
    [⟨Unit, fun _ => ofTo (rl x) b x.ps.toNat = [], fun _ => .nils, fun _ => rtr false x⟩,
     ⟨Rw, fun y => Og (ofTo (rl x) b x.ps.toNat) y.2.2.1 y.2.2.2.1 y.2.2.2.2, fun y => .sl 2 0 y.2.2.2.1 y.2.2.2.2, fun y => rtr false x ++ [⟨y.1, y.2.1, 9, true, none, .rows 56 y.2.2.1⟩]⟩] := by
  refine loc_fn (P := Tryd.prog) (E := ⟨[], [], 60, []⟩) (L := [O30 x b, O31 x b, O60 x b, O61 x b]) mix Tryd.func20 rfl (by kernel_rfl) (by kernel_rfl) rfl rfl ?_
  ((conv => (arg 1; reduce)); with_reducible repeat' (first | exact Tr.yes_h | refine Tr.and_h ?_ ?_ | refine Tr.imp_h fun _ => ?_ | refine Tr.all_h fun _ => ?_ | refine Tr.lf_h ?_))
  all_goals try (first | first | (show Region.lexB _ _ = true; kernel_rfl) | (show planned _ _ = true; kernel_rfl) | exact rfl | exact True.intro | (first | exact key3 | exact key30 | exact zero3 | exact zero53 | exact eq30 | exact ⟨key3, zero53⟩ | exact ⟨key30, zero3⟩) | ((try dsimp only [imp, C0, cG, cInt, cPl, cSlot, cDo] at *); (try refine inR64 ?_ ?_) <;> (try simp only [List.length_set, List.length_append, List.length_take, List.length_drop]) <;> omega))
  · refine Stands.one (0 : Nat) ⟨⟨by show (0 : Int) ≤ x.ps; omega, rfl⟩, ?_⟩
    ((conv => (arg 1; reduce)); with_reducible repeat' (first | exact Tr.yes_h | refine Tr.and_h ?_ ?_ | refine Tr.imp_h fun _ => ?_ | refine Tr.all_h fun _ => ?_ | refine Tr.lf_h ?_))
    all_goals (first | first | (show Region.lexB _ _ = true; kernel_rfl) | (show planned _ _ = true; kernel_rfl) | exact rfl | exact True.intro | (first | exact key3 | exact key30 | exact zero3 | exact zero53 | exact eq30 | exact ⟨key3, zero53⟩ | exact ⟨key30, zero3⟩) | ((try dsimp only [imp, C0, cG, cInt, cPl, cSlot, cDo] at *); (try refine inR64 ?_ ?_) <;> (try simp only [List.length_set, List.length_append, List.length_take, List.length_drop]) <;> omega))
  · rename_i v0 hv0 h0
    change Nat at v0
    refine Stands.one (v0, 0) ⟨⟨Nat.zero_le _, by rw [ofAt_zero]; exact hv0.2⟩, ?_⟩
    ((conv => (arg 1; reduce)); with_reducible repeat' (first | exact Tr.yes_h | refine Tr.and_h ?_ ?_ | refine Tr.imp_h fun _ => ?_ | refine Tr.all_h fun _ => ?_ | refine Tr.lf_h ?_))
    all_goals (first | first | (show Region.lexB _ _ = true; kernel_rfl) | (show planned _ _ = true; kernel_rfl) | exact rfl | exact True.intro | (first | exact key3 | exact key30 | exact zero3 | exact zero53 | exact eq30 | exact ⟨key3, zero53⟩ | exact ⟨key30, zero3⟩) | ((try dsimp only [imp, C0, cG, cInt, cPl, cSlot, cDo] at *); (try refine inR64 ?_ ?_) <;> (try simp only [List.length_set, List.length_append, List.length_take, List.length_drop]) <;> omega))
  · rename_i v0 hv0 h0 v1 hv1 h1 h2
    exact of_decide_eq_true h2
  · rename_i v0 hv0 h0 v1 hv1 h1 h2
    obtain ⟨p, i⟩ := v1
    have h2' : decide ((i : Int) < (x.n : Int)) = true := h2
    have h2' := of_decide_eq_true h2'
    have g1 := h.cap
    have g2 := h.fit
    have g3 := h.few
    have gl : (rl x).length = x.n := rl_len h
    show (i : Int).toNat + 0 < x.l.length
    omega
  · rename_i v0 hv0 h0 v1 hv1 h1 h2 h3
    exact of_decide_eq_true h2
  · rename_i v0 hv0 h0 v1 hv1 h1 h2 h3
    obtain ⟨p, i⟩ := v1
    have h2' : decide ((i : Int) < (x.n : Int)) = true := h2
    have h2' := of_decide_eq_true h2'
    have g1 := h.cap
    have g2 := h.fit
    have g3 := h.few
    have gl : (rl x).length = x.n := rl_len h
    show (i : Int).toNat + 0 < x.l.length
    omega
  · rename_i v0 hv0 h0 v1 hv1 h1 h2 h3
    exact of_decide_eq_true h2
  · rename_i v0 hv0 h0 v1 hv1 h1 h2 h3
    obtain ⟨p, i⟩ := v1
    have h2' : decide ((i : Int) < (x.n : Int)) = true := h2
    have h2' := of_decide_eq_true h2'
    have g1 := h.cap
    have g2 := h.fit
    have g3 := h.few
    have gl : (rl x).length = x.n := rl_len h
    show (i : Int).toNat + 0 < x.l.length
    omega
  · rename_i v0 hv0 h0 v1 hv1 h1 h2 h3 b0
    rw [by56]
    exact ⟨by simp, by decide⟩
  · rename_i v0 hv0 h0 v1 hv1 h1 h2 h3 b0 h4 b1 h5
    obtain ⟨p, i⟩ := v1
    have h2' : decide ((i : Int) < (x.n : Int)) = true := h2
    have h2' := of_decide_eq_true h2'
    have g1 := h.cap
    have g2 := h.fit
    have g3 := h.few
    have gl : (rl x).length = x.n := rl_len h
    exact inR64 (by show _ ≤ (i : Int) + 1; omega) (by show (i : Int) + 1 ≤ _; omega)
  · rename_i v0 hv0 h0 v1 hv1 h1 h2 h3 b0 h4 b1 h5
    obtain ⟨p, i⟩ := v1
    have h2' : decide ((i : Int) < (x.n : Int)) = true := h2
    have h2' := of_decide_eq_true h2'
    have g1 := h.cap
    have g2 := h.fit
    have g3 := h.few
    have gl : (rl x).length = x.n := rl_len h
    have h3 : isAt b p ((rl x).getD i slot0) = true := by rw [rl_get (by omega)]; exact h3
    change List Slot at h5
    have hv : ofAt (rl x) b p i = [] := hv1.2
    have e := ofAt_yes (by omega) h3
    rw [hv, List.nil_append, rl_get (by omega)] at e
    refine Stands.next (Stands.one ((p, i + 1), b1, 0, x.l.getD i slot0 :: h5, 1, 1 + h5.length) ⟨⟨by show i + 1 ≤ x.n; omega, ⟨e.symm, Nat.zero_lt_one, by show (ofAt (rl x) b p (i + 1)).length = 1; rw [e]; rfl, by show 1 ≤ 1 + h5.length; omega, by show 1 + h5.length ≤ h5.length + 1; omega⟩⟩, ?_, ?_⟩)
    · show x.n - (i + 1) < x.n - i
      omega
    ((conv => (arg 1; reduce)); with_reducible repeat' (first | exact Tr.yes_h | refine Tr.and_h ?_ ?_ | refine Tr.imp_h fun _ => ?_ | refine Tr.all_h fun _ => ?_ | refine Tr.lf_h ?_))
    all_goals (first | first | (show Region.lexB _ _ = true; kernel_rfl) | (show planned _ _ = true; kernel_rfl) | exact rfl | exact True.intro | (first | exact key3 | exact key30 | exact zero3 | exact zero53 | exact eq30 | exact ⟨key3, zero53⟩ | exact ⟨key30, zero3⟩) | ((try dsimp only [imp, C0, cG, cInt, cPl, cSlot, cDo] at *); (try refine inR64 ?_ ?_) <;> (try simp only [List.length_set, List.length_append, List.length_take, List.length_drop]) <;> omega))
  · rename_i v0 hv0 h0 v1 hv1 h1 h2 h3
    obtain ⟨p, i⟩ := v1
    have h2' : decide ((i : Int) < (x.n : Int)) = true := h2
    have h2' := of_decide_eq_true h2'
    have g1 := h.cap
    have g2 := h.fit
    have g3 := h.few
    have gl : (rl x).length = x.n := rl_len h
    exact inR64 (by show _ ≤ (i : Int) + 1; omega) (by show (i : Int) + 1 ≤ _; omega)
  · rename_i v0 hv0 h0 v1 hv1 h1 h2 h3
    obtain ⟨p, i⟩ := v1
    have h2' : decide ((i : Int) < (x.n : Int)) = true := h2
    have h2' := of_decide_eq_true h2'
    have g1 := h.cap
    have g2 := h.fit
    have g3 := h.few
    have gl : (rl x).length = x.n := rl_len h
    have h3 : isAt b p ((rl x).getD i slot0) = false := by rw [rl_get (by omega)]; exact h3
    have e := ofAt_no (by omega) h3
    refine Stands.one (p, i + 1) ⟨⟨by show i + 1 ≤ x.n; omega, by show ofAt (rl x) b p (i + 1) = []; rw [e]; exact hv1.2⟩, ?_, ?_⟩
    · show x.n - (i + 1) < x.n - i
      omega
    ((conv => (arg 1; reduce)); with_reducible repeat' (first | exact Tr.yes_h | refine Tr.and_h ?_ ?_ | refine Tr.imp_h fun _ => ?_ | refine Tr.all_h fun _ => ?_ | refine Tr.lf_h ?_))
    all_goals (first | first | (show Region.lexB _ _ = true; kernel_rfl) | (show planned _ _ = true; kernel_rfl) | exact rfl | exact True.intro | (first | exact key3 | exact key30 | exact zero3 | exact zero53 | exact eq30 | exact ⟨key3, zero53⟩ | exact ⟨key30, zero3⟩) | ((try dsimp only [imp, C0, cG, cInt, cPl, cSlot, cDo] at *); (try refine inR64 ?_ ?_) <;> (try simp only [List.length_set, List.length_append, List.length_take, List.length_drop]) <;> omega))
  · rename_i v0 hv0 h0 v1 hv1 h1 h2
    change Nat at v0
    have hp0 : decide ((v0 : Int) < x.ps) = true := h0
    have hp0 := of_decide_eq_true hp0
    obtain ⟨p, i⟩ := v1
    have h2' : decide ((i : Int) < (x.n : Int)) = false := h2
    have h2' := of_decide_eq_false h2'
    have h1' : (v0 : Int) = (p : Int) := h1
    have hpv : v0 = p := by omega
    subst hpv
    exact inR64 (by show _ ≤ (v0 : Int) + 1; omega) (by show (v0 : Int) + 1 ≤ _; omega)
  · rename_i v0 hv0 h0 v1 hv1 h1 h2
    change Nat at v0
    have hp0 : decide ((v0 : Int) < x.ps) = true := h0
    have hp0 := of_decide_eq_true hp0
    obtain ⟨p, i⟩ := v1
    have h2' : decide ((i : Int) < (x.n : Int)) = false := h2
    have h2' := of_decide_eq_false h2'
    have h1' : (v0 : Int) = (p : Int) := h1
    have hpv : v0 = p := by omega
    subst hpv
    have g1 := h.cap
    have g2 := h.fit
    have g3 := h.few
    have gl : (rl x).length = x.n := rl_len h
    have e := ofAt_all (R := rl x) (b := b) (p := v0) (i := i) (by omega)
    refine Stands.one (v0 + 1) ⟨⟨by show ((v0 + 1 : Nat) : Int) ≤ x.ps; omega, by show ofTo (rl x) b (v0 + 1) = []; rw [← e]; exact hv1.2⟩, ?_, ?_⟩
    · show 64 - (v0 + 1) < 64 - v0
      omega
    ((conv => (arg 1; reduce)); with_reducible repeat' (first | exact Tr.yes_h | refine Tr.and_h ?_ ?_ | refine Tr.imp_h fun _ => ?_ | refine Tr.all_h fun _ => ?_ | refine Tr.lf_h ?_))
    all_goals (first | first | (show Region.lexB _ _ = true; kernel_rfl) | (show planned _ _ = true; kernel_rfl) | exact rfl | exact True.intro | (first | exact key3 | exact key30 | exact zero3 | exact zero53 | exact eq30 | exact ⟨key3, zero53⟩ | exact ⟨key30, zero3⟩) | ((try dsimp only [imp, C0, cG, cInt, cPl, cSlot, cDo] at *); (try refine inR64 ?_ ?_) <;> (try simp only [List.length_set, List.length_append, List.length_take, List.length_drop]) <;> omega))
  · rename_i v0 hv0 h0 v1 hv1 h1 h2
    exact of_decide_eq_true h2
  · rename_i v0 hv0 h0 v1 hv1 h1 h2
    obtain ⟨⟨p, i⟩, b8, q8, l8, n8, c8⟩ := v1
    have h2' : decide ((i : Int) < (x.n : Int)) = true := h2
    have h2' := of_decide_eq_true h2'
    have e1 : l8.take n8 = ofAt (rl x) b p i := hv1.2.eq
    have e2 : n8 ≤ c8 := hv1.2.cap
    have e3 : c8 ≤ l8.length := hv1.2.fit
    have e4 : (ofAt (rl x) b p i).length = n8 := hv1.2.len
    have g1 := h.cap
    have g2 := h.fit
    have g3 := h.few
    have gl : (rl x).length = x.n := rl_len h
    show (i : Int).toNat + 0 < x.l.length
    omega
  · rename_i v0 hv0 h0 v1 hv1 h1 h2 h3
    exact of_decide_eq_true h2
  · rename_i v0 hv0 h0 v1 hv1 h1 h2 h3
    obtain ⟨⟨p, i⟩, b8, q8, l8, n8, c8⟩ := v1
    have h2' : decide ((i : Int) < (x.n : Int)) = true := h2
    have h2' := of_decide_eq_true h2'
    have e1 : l8.take n8 = ofAt (rl x) b p i := hv1.2.eq
    have e2 : n8 ≤ c8 := hv1.2.cap
    have e3 : c8 ≤ l8.length := hv1.2.fit
    have e4 : (ofAt (rl x) b p i).length = n8 := hv1.2.len
    have g1 := h.cap
    have g2 := h.fit
    have g3 := h.few
    have gl : (rl x).length = x.n := rl_len h
    show (i : Int).toNat + 0 < x.l.length
    omega
  · rename_i v0 hv0 h0 v1 hv1 h1 h2 h3
    exact of_decide_eq_true h2
  · rename_i v0 hv0 h0 v1 hv1 h1 h2 h3
    obtain ⟨⟨p, i⟩, b8, q8, l8, n8, c8⟩ := v1
    have h2' : decide ((i : Int) < (x.n : Int)) = true := h2
    have h2' := of_decide_eq_true h2'
    have e1 : l8.take n8 = ofAt (rl x) b p i := hv1.2.eq
    have e2 : n8 ≤ c8 := hv1.2.cap
    have e3 : c8 ≤ l8.length := hv1.2.fit
    have e4 : (ofAt (rl x) b p i).length = n8 := hv1.2.len
    have g1 := h.cap
    have g2 := h.fit
    have g3 := h.few
    have gl : (rl x).length = x.n := rl_len h
    show (i : Int).toNat + 0 < x.l.length
    omega
  · rename_i v0 hv0 h0 v1 hv1 h1 h2 h3 b0
    change Nat at v0
    have hp0 : decide ((v0 : Int) < x.ps) = true := h0
    have hp0 := of_decide_eq_true hp0
    obtain ⟨⟨p, i⟩, b8, q8, l8, n8, c8⟩ := v1
    have h2' : decide ((i : Int) < (x.n : Int)) = true := h2
    have h2' := of_decide_eq_true h2'
    have e1 : l8.take n8 = ofAt (rl x) b p i := hv1.2.eq
    have e2 : n8 ≤ c8 := hv1.2.cap
    have e3 : c8 ≤ l8.length := hv1.2.fit
    have e4 : (ofAt (rl x) b p i).length = n8 := hv1.2.len
    have g1 := h.cap
    have g2 := h.fit
    have g3 := h.few
    have gl : (rl x).length = x.n := rl_len h
    have h1' : (v0 : Int) = (p : Int) := h1
    have e5 := ofAt_len (rl x) b p i (by omega)
    rw [gl] at e5
    rw [by56]
    exact ⟨e2, by show 0 + c8 ≤ l8.length; omega, by simp, by show (n8 + 1) * 72 ≤ _; omega⟩
  · rename_i v0 hv0 h0 v1 hv1 h1 h2 h3 b0 b1 b2 h4 b3 h5 h6
    obtain ⟨⟨p, i⟩, b8, q8, l8, n8, c8⟩ := v1
    have h2' : decide ((i : Int) < (x.n : Int)) = true := h2
    have h2' := of_decide_eq_true h2'
    have e1 : l8.take n8 = ofAt (rl x) b p i := hv1.2.eq
    have e2 : n8 ≤ c8 := hv1.2.cap
    have e3 : c8 ≤ l8.length := hv1.2.fit
    have e4 : (ofAt (rl x) b p i).length = n8 := hv1.2.len
    have g1 := h.cap
    have g2 := h.fit
    have g3 := h.few
    have gl : (rl x).length = x.n := rl_len h
    exact inR64 (by show _ ≤ (i : Int) + 1; omega) (by show (i : Int) + 1 ≤ _; omega)
  · rename_i v0 hv0 h0 v1 hv1 h1 h2 h3 b0 b1 b2 h4 b3 h5 h6
    obtain ⟨⟨p, i⟩, b8, q8, l8, n8, c8⟩ := v1
    have h2' : decide ((i : Int) < (x.n : Int)) = true := h2
    have h2' := of_decide_eq_true h2'
    have e1 : l8.take n8 = ofAt (rl x) b p i := hv1.2.eq
    have e2 : n8 ≤ c8 := hv1.2.cap
    have e3 : c8 ≤ l8.length := hv1.2.fit
    have e4 : (ofAt (rl x) b p i).length = n8 := hv1.2.len
    have g1 := h.cap
    have g2 := h.fit
    have g3 := h.few
    have gl : (rl x).length = x.n := rl_len h
    have h3 : isAt b p ((rl x).getD i slot0) = true := by rw [rl_get (by omega)]; exact h3
    change List Slot at h4
    have h5' : n8 + 1 ≤ b3 := h5
    have h6' : b3 ≤ n8 + 1 + h4.length := h6
    have e := ofAt_yes (by omega) h3
    rw [← e1, rl_get (by omega)] at e
    have e5 : (l8.take n8 ++ [x.l.getD i slot0]).length = n8 + 1 := by
      rw [List.length_append, List.length_take, List.length_singleton]; omega
    refine Stands.next (Stands.one ((p, i + 1), b1, b2, (l8.take n8 ++ [x.l.getD i slot0]) ++ h4, n8 + 1, b3) ⟨⟨by show i + 1 ≤ x.n; omega, ⟨?_, Nat.succ_pos _, by show (ofAt (rl x) b p (i + 1)).length = n8 + 1; rw [e]; exact e5, h5', ?_⟩⟩, ?_, ?_⟩)
    · show ((l8.take n8 ++ [x.l.getD i slot0]) ++ h4).take (n8 + 1) = ofAt (rl x) b p (i + 1)
      rw [List.take_append_of_le_length (by omega), List.take_of_length_le (by omega), e]
    · show b3 ≤ ((l8.take n8 ++ [x.l.getD i slot0]) ++ h4).length
      rw [List.length_append, e5]; exact h6'
    · show x.n - (i + 1) < x.n - i
      omega
    ((conv => (arg 1; reduce)); with_reducible repeat' (first | exact Tr.yes_h | refine Tr.and_h ?_ ?_ | refine Tr.imp_h fun _ => ?_ | refine Tr.all_h fun _ => ?_ | refine Tr.lf_h ?_))
    all_goals (first | first | (show Region.lexB _ _ = true; kernel_rfl) | (show planned _ _ = true; kernel_rfl) | exact rfl | exact True.intro | (first | exact key3 | exact key30 | exact zero3 | exact zero53 | exact eq30 | exact ⟨key3, zero53⟩ | exact ⟨key30, zero3⟩) | ((try dsimp only [imp, C0, cG, cInt, cPl, cSlot, cDo] at *); (try refine inR64 ?_ ?_) <;> (try simp only [List.length_set, List.length_append, List.length_take, List.length_drop]) <;> omega))
  · rename_i v0 hv0 h0 v1 hv1 h1 h2 h3
    obtain ⟨⟨p, i⟩, b8, q8, l8, n8, c8⟩ := v1
    have h2' : decide ((i : Int) < (x.n : Int)) = true := h2
    have h2' := of_decide_eq_true h2'
    have e1 : l8.take n8 = ofAt (rl x) b p i := hv1.2.eq
    have e2 : n8 ≤ c8 := hv1.2.cap
    have e3 : c8 ≤ l8.length := hv1.2.fit
    have e4 : (ofAt (rl x) b p i).length = n8 := hv1.2.len
    have g1 := h.cap
    have g2 := h.fit
    have g3 := h.few
    have gl : (rl x).length = x.n := rl_len h
    exact inR64 (by show _ ≤ (i : Int) + 1; omega) (by show (i : Int) + 1 ≤ _; omega)
  · rename_i v0 hv0 h0 v1 hv1 h1 h2 h3
    obtain ⟨⟨p, i⟩, b8, q8, l8, n8, c8⟩ := v1
    have h2' : decide ((i : Int) < (x.n : Int)) = true := h2
    have h2' := of_decide_eq_true h2'
    have e1 : l8.take n8 = ofAt (rl x) b p i := hv1.2.eq
    have e2 : n8 ≤ c8 := hv1.2.cap
    have e3 : c8 ≤ l8.length := hv1.2.fit
    have e4 : (ofAt (rl x) b p i).length = n8 := hv1.2.len
    have g1 := h.cap
    have g2 := h.fit
    have g3 := h.few
    have gl : (rl x).length = x.n := rl_len h
    have h3 : isAt b p ((rl x).getD i slot0) = false := by rw [rl_get (by omega)]; exact h3
    have e := ofAt_no (by omega) h3
    refine Stands.next (Stands.one ((p, i + 1), b8, q8, l8, n8, c8) ⟨⟨by show i + 1 ≤ x.n; omega, by show Og (ofAt (rl x) b p (i + 1)) l8 n8 c8; rw [e]; exact hv1.2⟩, ?_, ?_⟩)
    · show x.n - (i + 1) < x.n - i
      omega
    ((conv => (arg 1; reduce)); with_reducible repeat' (first | exact Tr.yes_h | refine Tr.and_h ?_ ?_ | refine Tr.imp_h fun _ => ?_ | refine Tr.all_h fun _ => ?_ | refine Tr.lf_h ?_))
    all_goals (first | first | (show Region.lexB _ _ = true; kernel_rfl) | (show planned _ _ = true; kernel_rfl) | exact rfl | exact True.intro | (first | exact key3 | exact key30 | exact zero3 | exact zero53 | exact eq30 | exact ⟨key3, zero53⟩ | exact ⟨key30, zero3⟩) | ((try dsimp only [imp, C0, cG, cInt, cPl, cSlot, cDo] at *); (try refine inR64 ?_ ?_) <;> (try simp only [List.length_set, List.length_append, List.length_take, List.length_drop]) <;> omega))
  · rename_i v0 hv0 h0 v1 hv1 h1 h2
    change Nat at v0
    have hp0 : decide ((v0 : Int) < x.ps) = true := h0
    have hp0 := of_decide_eq_true hp0
    obtain ⟨⟨p, i⟩, b8, q8, l8, n8, c8⟩ := v1
    have h2' : decide ((i : Int) < (x.n : Int)) = false := h2
    have h2' := of_decide_eq_false h2'
    have e1 : l8.take n8 = ofAt (rl x) b p i := hv1.2.eq
    have e2 : n8 ≤ c8 := hv1.2.cap
    have e3 : c8 ≤ l8.length := hv1.2.fit
    have e4 : (ofAt (rl x) b p i).length = n8 := hv1.2.len
    have h1' : (v0 : Int) = (p : Int) := h1
    have hpv : v0 = p := by omega
    subst hpv
    exact inR64 (by show _ ≤ (v0 : Int) + 1; omega) (by show (v0 : Int) + 1 ≤ _; omega)
  · rename_i v0 hv0 h0 v1 hv1 h1 h2
    change Nat at v0
    have hp0 : decide ((v0 : Int) < x.ps) = true := h0
    have hp0 := of_decide_eq_true hp0
    obtain ⟨⟨p, i⟩, b8, q8, l8, n8, c8⟩ := v1
    have h2' : decide ((i : Int) < (x.n : Int)) = false := h2
    have h2' := of_decide_eq_false h2'
    have e1 : l8.take n8 = ofAt (rl x) b p i := hv1.2.eq
    have e2 : n8 ≤ c8 := hv1.2.cap
    have e3 : c8 ≤ l8.length := hv1.2.fit
    have e4 : (ofAt (rl x) b p i).length = n8 := hv1.2.len
    have h1' : (v0 : Int) = (p : Int) := h1
    have hpv : v0 = p := by omega
    subst hpv
    have g1 := h.cap
    have g2 := h.fit
    have g3 := h.few
    have gl : (rl x).length = x.n := rl_len h
    have e := ofAt_all (R := rl x) (b := b) (p := v0) (i := i) (by omega)
    refine Stands.next (Stands.one (v0 + 1, b8, q8, l8, n8, c8) ⟨⟨by show ((v0 + 1 : Nat) : Int) ≤ x.ps; omega, by show Og (ofTo (rl x) b (v0 + 1)) l8 n8 c8; rw [← e]; exact hv1.2⟩, ?_, ?_⟩)
    · show 64 - (v0 + 1) < 64 - v0
      omega
    ((conv => (arg 1; reduce)); with_reducible repeat' (first | exact Tr.yes_h | refine Tr.and_h ?_ ?_ | refine Tr.imp_h fun _ => ?_ | refine Tr.all_h fun _ => ?_ | refine Tr.lf_h ?_))
    all_goals (first | first | (show Region.lexB _ _ = true; kernel_rfl) | (show planned _ _ = true; kernel_rfl) | exact rfl | exact True.intro | (first | exact key3 | exact key30 | exact zero3 | exact zero53 | exact eq30 | exact ⟨key3, zero53⟩ | exact ⟨key30, zero3⟩) | ((try dsimp only [imp, C0, cG, cInt, cPl, cSlot, cDo] at *); (try refine inR64 ?_ ?_) <;> (try simp only [List.length_set, List.length_append, List.length_take, List.length_drop]) <;> omega))
  · rename_i v0 hv0 h0
    change Nat at v0
    have h0' : decide ((v0 : Int) < x.ps) = false := h0
    have h0' := of_decide_eq_false h0'
    have h1' : (v0 : Int) ≤ x.ps := hv0.1
    have e : x.ps.toNat = v0 := by omega
    refine Ends.one () (by show ofTo (rl x) b x.ps.toNat = []; rw [e]; exact hv0.2) ?_
    ((conv => (arg 1; reduce)); with_reducible repeat' (first | exact Tr.yes_h | refine Tr.and_h ?_ ?_ | refine Tr.imp_h fun _ => ?_ | refine Tr.all_h fun _ => ?_ | refine Tr.lf_h ?_))
    all_goals (first | first | (show Region.lexB _ _ = true; kernel_rfl) | (show planned _ _ = true; kernel_rfl) | exact rfl | exact True.intro | (first | exact key3 | exact key30 | exact zero3 | exact zero53 | exact eq30 | exact ⟨key3, zero53⟩ | exact ⟨key30, zero3⟩) | ((try dsimp only [imp, C0, cG, cInt, cPl, cSlot, cDo] at *); (try refine inR64 ?_ ?_) <;> (try simp only [List.length_set, List.length_append, List.length_take, List.length_drop]) <;> omega))
  · rename_i v0 hv0 h0
    obtain ⟨p, b8, q8, l8, n8, c8⟩ := v0
    refine Stands.next (Stands.one ((p, 0), b8, q8, l8, n8, c8) ⟨⟨Nat.zero_le _, by rw [ofAt_zero]; exact hv0.2⟩, ?_⟩)
    ((conv => (arg 1; reduce)); with_reducible repeat' (first | exact Tr.yes_h | refine Tr.and_h ?_ ?_ | refine Tr.imp_h fun _ => ?_ | refine Tr.all_h fun _ => ?_ | refine Tr.lf_h ?_))
    all_goals (first | first | (show Region.lexB _ _ = true; kernel_rfl) | (show planned _ _ = true; kernel_rfl) | exact rfl | exact True.intro | (first | exact key3 | exact key30 | exact zero3 | exact zero53 | exact eq30 | exact ⟨key3, zero53⟩ | exact ⟨key30, zero3⟩) | ((try dsimp only [imp, C0, cG, cInt, cPl, cSlot, cDo] at *); (try refine inR64 ?_ ?_) <;> (try simp only [List.length_set, List.length_append, List.length_take, List.length_drop]) <;> omega))
  · rename_i v0 hv0 h0 v1 hv1 h1 h2
    exact of_decide_eq_true h2
  · rename_i v0 hv0 h0 v1 hv1 h1 h2
    obtain ⟨p, i⟩ := v1
    have h2' : decide ((i : Int) < (x.n : Int)) = true := h2
    have h2' := of_decide_eq_true h2'
    have g1 := h.cap
    have g2 := h.fit
    have g3 := h.few
    have gl : (rl x).length = x.n := rl_len h
    show (i : Int).toNat + 0 < x.l.length
    omega
  · rename_i v0 hv0 h0 v1 hv1 h1 h2 h3
    exact of_decide_eq_true h2
  · rename_i v0 hv0 h0 v1 hv1 h1 h2 h3
    obtain ⟨p, i⟩ := v1
    have h2' : decide ((i : Int) < (x.n : Int)) = true := h2
    have h2' := of_decide_eq_true h2'
    have g1 := h.cap
    have g2 := h.fit
    have g3 := h.few
    have gl : (rl x).length = x.n := rl_len h
    show (i : Int).toNat + 0 < x.l.length
    omega
  · rename_i v0 hv0 h0 v1 hv1 h1 h2 h3
    exact of_decide_eq_true h2
  · rename_i v0 hv0 h0 v1 hv1 h1 h2 h3
    obtain ⟨p, i⟩ := v1
    have h2' : decide ((i : Int) < (x.n : Int)) = true := h2
    have h2' := of_decide_eq_true h2'
    have g1 := h.cap
    have g2 := h.fit
    have g3 := h.few
    have gl : (rl x).length = x.n := rl_len h
    show (i : Int).toNat + 0 < x.l.length
    omega
  · rename_i v0 hv0 h0 v1 hv1 h1 h2 h3 b0
    rw [by56]
    exact ⟨by simp, by decide⟩
  · rename_i v0 hv0 h0 v1 hv1 h1 h2 h3 b0 h4 b1 h5
    obtain ⟨p, i⟩ := v1
    have h2' : decide ((i : Int) < (x.n : Int)) = true := h2
    have h2' := of_decide_eq_true h2'
    have g1 := h.cap
    have g2 := h.fit
    have g3 := h.few
    have gl : (rl x).length = x.n := rl_len h
    exact inR64 (by show _ ≤ (i : Int) + 1; omega) (by show (i : Int) + 1 ≤ _; omega)
  · rename_i v0 hv0 h0 v1 hv1 h1 h2 h3 b0 h4 b1 h5
    obtain ⟨p, i⟩ := v1
    have h2' : decide ((i : Int) < (x.n : Int)) = true := h2
    have h2' := of_decide_eq_true h2'
    have g1 := h.cap
    have g2 := h.fit
    have g3 := h.few
    have gl : (rl x).length = x.n := rl_len h
    have h3 : isAt b p ((rl x).getD i slot0) = true := by rw [rl_get (by omega)]; exact h3
    change List Slot at h5
    have hv : ofAt (rl x) b p i = [] := hv1.2
    have e := ofAt_yes (by omega) h3
    rw [hv, List.nil_append, rl_get (by omega)] at e
    refine Stands.next (Stands.one ((p, i + 1), b1, 0, x.l.getD i slot0 :: h5, 1, 1 + h5.length) ⟨⟨by show i + 1 ≤ x.n; omega, ⟨e.symm, Nat.zero_lt_one, by show (ofAt (rl x) b p (i + 1)).length = 1; rw [e]; rfl, by show 1 ≤ 1 + h5.length; omega, by show 1 + h5.length ≤ h5.length + 1; omega⟩⟩, ?_, ?_⟩)
    · show x.n - (i + 1) < x.n - i
      omega
    ((conv => (arg 1; reduce)); with_reducible repeat' (first | exact Tr.yes_h | refine Tr.and_h ?_ ?_ | refine Tr.imp_h fun _ => ?_ | refine Tr.all_h fun _ => ?_ | refine Tr.lf_h ?_))
    all_goals (first | first | (show Region.lexB _ _ = true; kernel_rfl) | (show planned _ _ = true; kernel_rfl) | exact rfl | exact True.intro | (first | exact key3 | exact key30 | exact zero3 | exact zero53 | exact eq30 | exact ⟨key3, zero53⟩ | exact ⟨key30, zero3⟩) | ((try dsimp only [imp, C0, cG, cInt, cPl, cSlot, cDo] at *); (try refine inR64 ?_ ?_) <;> (try simp only [List.length_set, List.length_append, List.length_take, List.length_drop]) <;> omega))
  · rename_i v0 hv0 h0 v1 hv1 h1 h2 h3
    obtain ⟨p, i⟩ := v1
    have h2' : decide ((i : Int) < (x.n : Int)) = true := h2
    have h2' := of_decide_eq_true h2'
    have g1 := h.cap
    have g2 := h.fit
    have g3 := h.few
    have gl : (rl x).length = x.n := rl_len h
    exact inR64 (by show _ ≤ (i : Int) + 1; omega) (by show (i : Int) + 1 ≤ _; omega)
  · rename_i v0 hv0 h0 v1 hv1 h1 h2 h3
    obtain ⟨p, i⟩ := v1
    have h2' : decide ((i : Int) < (x.n : Int)) = true := h2
    have h2' := of_decide_eq_true h2'
    have g1 := h.cap
    have g2 := h.fit
    have g3 := h.few
    have gl : (rl x).length = x.n := rl_len h
    have h3 : isAt b p ((rl x).getD i slot0) = false := by rw [rl_get (by omega)]; exact h3
    have e := ofAt_no (by omega) h3
    refine Stands.one (p, i + 1) ⟨⟨by show i + 1 ≤ x.n; omega, by show ofAt (rl x) b p (i + 1) = []; rw [e]; exact hv1.2⟩, ?_, ?_⟩
    · show x.n - (i + 1) < x.n - i
      omega
    ((conv => (arg 1; reduce)); with_reducible repeat' (first | exact Tr.yes_h | refine Tr.and_h ?_ ?_ | refine Tr.imp_h fun _ => ?_ | refine Tr.all_h fun _ => ?_ | refine Tr.lf_h ?_))
    all_goals (first | first | (show Region.lexB _ _ = true; kernel_rfl) | (show planned _ _ = true; kernel_rfl) | exact rfl | exact True.intro | (first | exact key3 | exact key30 | exact zero3 | exact zero53 | exact eq30 | exact ⟨key3, zero53⟩ | exact ⟨key30, zero3⟩) | ((try dsimp only [imp, C0, cG, cInt, cPl, cSlot, cDo] at *); (try refine inR64 ?_ ?_) <;> (try simp only [List.length_set, List.length_append, List.length_take, List.length_drop]) <;> omega))
  · rename_i v0 hv0 h0 v1 hv1 h1 h2
    obtain ⟨v0, b7, q7, l7, n7, c7⟩ := v0
    have hp0 : decide ((v0 : Int) < x.ps) = true := h0
    have hp0 := of_decide_eq_true hp0
    obtain ⟨p, i⟩ := v1
    have h2' : decide ((i : Int) < (x.n : Int)) = false := h2
    have h2' := of_decide_eq_false h2'
    have h1' : (v0 : Int) = (p : Int) := h1
    have hpv : v0 = p := by omega
    subst hpv
    exact inR64 (by show _ ≤ (v0 : Int) + 1; omega) (by show (v0 : Int) + 1 ≤ _; omega)
  · rename_i v0 hv0 h0 v1 hv1 h1 h2
    obtain ⟨v0, b7, q7, l7, n7, c7⟩ := v0
    have hp0 : decide ((v0 : Int) < x.ps) = true := h0
    have hp0 := of_decide_eq_true hp0
    obtain ⟨p, i⟩ := v1
    have h2' : decide ((i : Int) < (x.n : Int)) = false := h2
    have h2' := of_decide_eq_false h2'
    have h1' : (v0 : Int) = (p : Int) := h1
    have hpv : v0 = p := by omega
    subst hpv
    have g1 := h.cap
    have g2 := h.fit
    have g3 := h.few
    have gl : (rl x).length = x.n := rl_len h
    have e := ofAt_all (R := rl x) (b := b) (p := v0) (i := i) (by omega)
    refine Stands.one (v0 + 1) ⟨⟨by show ((v0 + 1 : Nat) : Int) ≤ x.ps; omega, by show ofTo (rl x) b (v0 + 1) = []; rw [← e]; exact hv1.2⟩, ?_, ?_⟩
    · show 64 - (v0 + 1) < 64 - v0
      omega
    ((conv => (arg 1; reduce)); with_reducible repeat' (first | exact Tr.yes_h | refine Tr.and_h ?_ ?_ | refine Tr.imp_h fun _ => ?_ | refine Tr.all_h fun _ => ?_ | refine Tr.lf_h ?_))
    all_goals (first | first | (show Region.lexB _ _ = true; kernel_rfl) | (show planned _ _ = true; kernel_rfl) | exact rfl | exact True.intro | (first | exact key3 | exact key30 | exact zero3 | exact zero53 | exact eq30 | exact ⟨key3, zero53⟩ | exact ⟨key30, zero3⟩) | ((try dsimp only [imp, C0, cG, cInt, cPl, cSlot, cDo] at *); (try refine inR64 ?_ ?_) <;> (try simp only [List.length_set, List.length_append, List.length_take, List.length_drop]) <;> omega))
  · rename_i v0 hv0 h0 v1 hv1 h1 h2
    exact of_decide_eq_true h2
  · rename_i v0 hv0 h0 v1 hv1 h1 h2
    obtain ⟨⟨p, i⟩, b8, q8, l8, n8, c8⟩ := v1
    have h2' : decide ((i : Int) < (x.n : Int)) = true := h2
    have h2' := of_decide_eq_true h2'
    have e1 : l8.take n8 = ofAt (rl x) b p i := hv1.2.eq
    have e2 : n8 ≤ c8 := hv1.2.cap
    have e3 : c8 ≤ l8.length := hv1.2.fit
    have e4 : (ofAt (rl x) b p i).length = n8 := hv1.2.len
    have g1 := h.cap
    have g2 := h.fit
    have g3 := h.few
    have gl : (rl x).length = x.n := rl_len h
    show (i : Int).toNat + 0 < x.l.length
    omega
  · rename_i v0 hv0 h0 v1 hv1 h1 h2 h3
    exact of_decide_eq_true h2
  · rename_i v0 hv0 h0 v1 hv1 h1 h2 h3
    obtain ⟨⟨p, i⟩, b8, q8, l8, n8, c8⟩ := v1
    have h2' : decide ((i : Int) < (x.n : Int)) = true := h2
    have h2' := of_decide_eq_true h2'
    have e1 : l8.take n8 = ofAt (rl x) b p i := hv1.2.eq
    have e2 : n8 ≤ c8 := hv1.2.cap
    have e3 : c8 ≤ l8.length := hv1.2.fit
    have e4 : (ofAt (rl x) b p i).length = n8 := hv1.2.len
    have g1 := h.cap
    have g2 := h.fit
    have g3 := h.few
    have gl : (rl x).length = x.n := rl_len h
    show (i : Int).toNat + 0 < x.l.length
    omega
  · rename_i v0 hv0 h0 v1 hv1 h1 h2 h3
    exact of_decide_eq_true h2
  · rename_i v0 hv0 h0 v1 hv1 h1 h2 h3
    obtain ⟨⟨p, i⟩, b8, q8, l8, n8, c8⟩ := v1
    have h2' : decide ((i : Int) < (x.n : Int)) = true := h2
    have h2' := of_decide_eq_true h2'
    have e1 : l8.take n8 = ofAt (rl x) b p i := hv1.2.eq
    have e2 : n8 ≤ c8 := hv1.2.cap
    have e3 : c8 ≤ l8.length := hv1.2.fit
    have e4 : (ofAt (rl x) b p i).length = n8 := hv1.2.len
    have g1 := h.cap
    have g2 := h.fit
    have g3 := h.few
    have gl : (rl x).length = x.n := rl_len h
    show (i : Int).toNat + 0 < x.l.length
    omega
  · rename_i v0 hv0 h0 v1 hv1 h1 h2 h3 b0
    obtain ⟨v0, b7, q7, l7, n7, c7⟩ := v0
    have hp0 : decide ((v0 : Int) < x.ps) = true := h0
    have hp0 := of_decide_eq_true hp0
    obtain ⟨⟨p, i⟩, b8, q8, l8, n8, c8⟩ := v1
    have h2' : decide ((i : Int) < (x.n : Int)) = true := h2
    have h2' := of_decide_eq_true h2'
    have e1 : l8.take n8 = ofAt (rl x) b p i := hv1.2.eq
    have e2 : n8 ≤ c8 := hv1.2.cap
    have e3 : c8 ≤ l8.length := hv1.2.fit
    have e4 : (ofAt (rl x) b p i).length = n8 := hv1.2.len
    have g1 := h.cap
    have g2 := h.fit
    have g3 := h.few
    have gl : (rl x).length = x.n := rl_len h
    have h1' : (v0 : Int) = (p : Int) := h1
    have e5 := ofAt_len (rl x) b p i (by omega)
    rw [gl] at e5
    rw [by56]
    exact ⟨e2, by show 0 + c8 ≤ l8.length; omega, by simp, by show (n8 + 1) * 72 ≤ _; omega⟩
  · rename_i v0 hv0 h0 v1 hv1 h1 h2 h3 b0 b1 b2 h4 b3 h5 h6
    obtain ⟨⟨p, i⟩, b8, q8, l8, n8, c8⟩ := v1
    have h2' : decide ((i : Int) < (x.n : Int)) = true := h2
    have h2' := of_decide_eq_true h2'
    have e1 : l8.take n8 = ofAt (rl x) b p i := hv1.2.eq
    have e2 : n8 ≤ c8 := hv1.2.cap
    have e3 : c8 ≤ l8.length := hv1.2.fit
    have e4 : (ofAt (rl x) b p i).length = n8 := hv1.2.len
    have g1 := h.cap
    have g2 := h.fit
    have g3 := h.few
    have gl : (rl x).length = x.n := rl_len h
    exact inR64 (by show _ ≤ (i : Int) + 1; omega) (by show (i : Int) + 1 ≤ _; omega)
  · rename_i v0 hv0 h0 v1 hv1 h1 h2 h3 b0 b1 b2 h4 b3 h5 h6
    obtain ⟨⟨p, i⟩, b8, q8, l8, n8, c8⟩ := v1
    have h2' : decide ((i : Int) < (x.n : Int)) = true := h2
    have h2' := of_decide_eq_true h2'
    have e1 : l8.take n8 = ofAt (rl x) b p i := hv1.2.eq
    have e2 : n8 ≤ c8 := hv1.2.cap
    have e3 : c8 ≤ l8.length := hv1.2.fit
    have e4 : (ofAt (rl x) b p i).length = n8 := hv1.2.len
    have g1 := h.cap
    have g2 := h.fit
    have g3 := h.few
    have gl : (rl x).length = x.n := rl_len h
    have h3 : isAt b p ((rl x).getD i slot0) = true := by rw [rl_get (by omega)]; exact h3
    change List Slot at h4
    have h5' : n8 + 1 ≤ b3 := h5
    have h6' : b3 ≤ n8 + 1 + h4.length := h6
    have e := ofAt_yes (by omega) h3
    rw [← e1, rl_get (by omega)] at e
    have e5 : (l8.take n8 ++ [x.l.getD i slot0]).length = n8 + 1 := by
      rw [List.length_append, List.length_take, List.length_singleton]; omega
    refine Stands.next (Stands.one ((p, i + 1), b1, b2, (l8.take n8 ++ [x.l.getD i slot0]) ++ h4, n8 + 1, b3) ⟨⟨by show i + 1 ≤ x.n; omega, ⟨?_, Nat.succ_pos _, by show (ofAt (rl x) b p (i + 1)).length = n8 + 1; rw [e]; exact e5, h5', ?_⟩⟩, ?_, ?_⟩)
    · show ((l8.take n8 ++ [x.l.getD i slot0]) ++ h4).take (n8 + 1) = ofAt (rl x) b p (i + 1)
      rw [List.take_append_of_le_length (by omega), List.take_of_length_le (by omega), e]
    · show b3 ≤ ((l8.take n8 ++ [x.l.getD i slot0]) ++ h4).length
      rw [List.length_append, e5]; exact h6'
    · show x.n - (i + 1) < x.n - i
      omega
    ((conv => (arg 1; reduce)); with_reducible repeat' (first | exact Tr.yes_h | refine Tr.and_h ?_ ?_ | refine Tr.imp_h fun _ => ?_ | refine Tr.all_h fun _ => ?_ | refine Tr.lf_h ?_))
    all_goals (first | first | (show Region.lexB _ _ = true; kernel_rfl) | (show planned _ _ = true; kernel_rfl) | exact rfl | exact True.intro | (first | exact key3 | exact key30 | exact zero3 | exact zero53 | exact eq30 | exact ⟨key3, zero53⟩ | exact ⟨key30, zero3⟩) | ((try dsimp only [imp, C0, cG, cInt, cPl, cSlot, cDo] at *); (try refine inR64 ?_ ?_) <;> (try simp only [List.length_set, List.length_append, List.length_take, List.length_drop]) <;> omega))
  · rename_i v0 hv0 h0 v1 hv1 h1 h2 h3
    obtain ⟨⟨p, i⟩, b8, q8, l8, n8, c8⟩ := v1
    have h2' : decide ((i : Int) < (x.n : Int)) = true := h2
    have h2' := of_decide_eq_true h2'
    have e1 : l8.take n8 = ofAt (rl x) b p i := hv1.2.eq
    have e2 : n8 ≤ c8 := hv1.2.cap
    have e3 : c8 ≤ l8.length := hv1.2.fit
    have e4 : (ofAt (rl x) b p i).length = n8 := hv1.2.len
    have g1 := h.cap
    have g2 := h.fit
    have g3 := h.few
    have gl : (rl x).length = x.n := rl_len h
    exact inR64 (by show _ ≤ (i : Int) + 1; omega) (by show (i : Int) + 1 ≤ _; omega)
  · rename_i v0 hv0 h0 v1 hv1 h1 h2 h3
    obtain ⟨⟨p, i⟩, b8, q8, l8, n8, c8⟩ := v1
    have h2' : decide ((i : Int) < (x.n : Int)) = true := h2
    have h2' := of_decide_eq_true h2'
    have e1 : l8.take n8 = ofAt (rl x) b p i := hv1.2.eq
    have e2 : n8 ≤ c8 := hv1.2.cap
    have e3 : c8 ≤ l8.length := hv1.2.fit
    have e4 : (ofAt (rl x) b p i).length = n8 := hv1.2.len
    have g1 := h.cap
    have g2 := h.fit
    have g3 := h.few
    have gl : (rl x).length = x.n := rl_len h
    have h3 : isAt b p ((rl x).getD i slot0) = false := by rw [rl_get (by omega)]; exact h3
    have e := ofAt_no (by omega) h3
    refine Stands.next (Stands.one ((p, i + 1), b8, q8, l8, n8, c8) ⟨⟨by show i + 1 ≤ x.n; omega, by show Og (ofAt (rl x) b p (i + 1)) l8 n8 c8; rw [e]; exact hv1.2⟩, ?_, ?_⟩)
    · show x.n - (i + 1) < x.n - i
      omega
    ((conv => (arg 1; reduce)); with_reducible repeat' (first | exact Tr.yes_h | refine Tr.and_h ?_ ?_ | refine Tr.imp_h fun _ => ?_ | refine Tr.all_h fun _ => ?_ | refine Tr.lf_h ?_))
    all_goals (first | first | (show Region.lexB _ _ = true; kernel_rfl) | (show planned _ _ = true; kernel_rfl) | exact rfl | exact True.intro | (first | exact key3 | exact key30 | exact zero3 | exact zero53 | exact eq30 | exact ⟨key3, zero53⟩ | exact ⟨key30, zero3⟩) | ((try dsimp only [imp, C0, cG, cInt, cPl, cSlot, cDo] at *); (try refine inR64 ?_ ?_) <;> (try simp only [List.length_set, List.length_append, List.length_take, List.length_drop]) <;> omega))
  · rename_i v0 hv0 h0 v1 hv1 h1 h2
    obtain ⟨v0, b7, q7, l7, n7, c7⟩ := v0
    have hp0 : decide ((v0 : Int) < x.ps) = true := h0
    have hp0 := of_decide_eq_true hp0
    obtain ⟨⟨p, i⟩, b8, q8, l8, n8, c8⟩ := v1
    have h2' : decide ((i : Int) < (x.n : Int)) = false := h2
    have h2' := of_decide_eq_false h2'
    have e1 : l8.take n8 = ofAt (rl x) b p i := hv1.2.eq
    have e2 : n8 ≤ c8 := hv1.2.cap
    have e3 : c8 ≤ l8.length := hv1.2.fit
    have e4 : (ofAt (rl x) b p i).length = n8 := hv1.2.len
    have h1' : (v0 : Int) = (p : Int) := h1
    have hpv : v0 = p := by omega
    subst hpv
    exact inR64 (by show _ ≤ (v0 : Int) + 1; omega) (by show (v0 : Int) + 1 ≤ _; omega)
  · rename_i v0 hv0 h0 v1 hv1 h1 h2
    obtain ⟨v0, b7, q7, l7, n7, c7⟩ := v0
    have hp0 : decide ((v0 : Int) < x.ps) = true := h0
    have hp0 := of_decide_eq_true hp0
    obtain ⟨⟨p, i⟩, b8, q8, l8, n8, c8⟩ := v1
    have h2' : decide ((i : Int) < (x.n : Int)) = false := h2
    have h2' := of_decide_eq_false h2'
    have e1 : l8.take n8 = ofAt (rl x) b p i := hv1.2.eq
    have e2 : n8 ≤ c8 := hv1.2.cap
    have e3 : c8 ≤ l8.length := hv1.2.fit
    have e4 : (ofAt (rl x) b p i).length = n8 := hv1.2.len
    have h1' : (v0 : Int) = (p : Int) := h1
    have hpv : v0 = p := by omega
    subst hpv
    have g1 := h.cap
    have g2 := h.fit
    have g3 := h.few
    have gl : (rl x).length = x.n := rl_len h
    have e := ofAt_all (R := rl x) (b := b) (p := v0) (i := i) (by omega)
    refine Stands.next (Stands.one (v0 + 1, b8, q8, l8, n8, c8) ⟨⟨by show ((v0 + 1 : Nat) : Int) ≤ x.ps; omega, by show Og (ofTo (rl x) b (v0 + 1)) l8 n8 c8; rw [← e]; exact hv1.2⟩, ?_, ?_⟩)
    · show 64 - (v0 + 1) < 64 - v0
      omega
    ((conv => (arg 1; reduce)); with_reducible repeat' (first | exact Tr.yes_h | refine Tr.and_h ?_ ?_ | refine Tr.imp_h fun _ => ?_ | refine Tr.all_h fun _ => ?_ | refine Tr.lf_h ?_))
    all_goals (first | first | (show Region.lexB _ _ = true; kernel_rfl) | (show planned _ _ = true; kernel_rfl) | exact rfl | exact True.intro | (first | exact key3 | exact key30 | exact zero3 | exact zero53 | exact eq30 | exact ⟨key3, zero53⟩ | exact ⟨key30, zero3⟩) | ((try dsimp only [imp, C0, cG, cInt, cPl, cSlot, cDo] at *); (try refine inR64 ?_ ?_) <;> (try simp only [List.length_set, List.length_append, List.length_take, List.length_drop]) <;> omega))
  · rename_i v0 hv0 h0
    obtain ⟨v0, b8, q8, l8, n8, c8⟩ := v0
    have h0' : decide ((v0 : Int) < x.ps) = false := h0
    have h0' := of_decide_eq_false h0'
    have h1' : (v0 : Int) ≤ x.ps := hv0.1
    have e : x.ps.toNat = v0 := by omega
    refine Ends.next (Ends.one (b8, q8, l8, n8, c8) (by show Og (ofTo (rl x) b x.ps.toNat) l8 n8 c8; rw [e]; exact hv0.2) ?_)
    ((conv => (arg 1; reduce)); with_reducible repeat' (first | exact Tr.yes_h | refine Tr.and_h ?_ ?_ | refine Tr.imp_h fun _ => ?_ | refine Tr.all_h fun _ => ?_ | refine Tr.lf_h ?_))
    all_goals (first | first | (show Region.lexB _ _ = true; kernel_rfl) | (show planned _ _ = true; kernel_rfl) | exact rfl | exact True.intro | (first | exact key3 | exact key30 | exact zero3 | exact zero53 | exact eq30 | exact ⟨key3, zero53⟩ | exact ⟨key30, zero3⟩) | ((try dsimp only [imp, C0, cG, cInt, cPl, cSlot, cDo] at *); (try refine inR64 ?_ ?_) <;> (try simp only [List.length_set, List.length_append, List.length_take, List.length_drop]) <;> omega))
noncomputable def fcOf : Fc Tryd.prog C0 where
  tg := .fn 20
  X := Rt × Int
  args := fun (x, b) => [.ptr 0 0 0, .int .i64 b]
  mem := fun (x, b) => rtr false x
  pre := fun (x, b) => Rk x.l x.n x.c ∧ 1 ≤ x.ps ∧ x.ps ≤ 64
  alts := fun (x, b) => [⟨Unit, fun _ => ofTo (rl x) b x.ps.toNat = [], fun _ => .nils, fun _ => rtr false x⟩,
     ⟨Rw, fun y => Og (ofTo (rl x) b x.ps.toNat) y.2.2.1 y.2.2.2.1 y.2.2.2.2, fun y => .sl 2 0 y.2.2.2.1 y.2.2.2.2, fun y => rtr false x ++ [⟨y.1, y.2.1, 9, true, none, .rows 56 y.2.2.1⟩]⟩]
  mat vs m := match vs with
    | [.ptr p 0 0, .int _ b] => match nth m p with
      | ⟨bp, bq, _, _, _, .one [.int _ bs, .int _ ps, .sl r 0 n c]⟩ => match nth m r with
        | ⟨b0, q, _, _, _, .rows 56 l⟩ => some ((⟨bp, bq, bs, ps, b0, q, l, n, c⟩, b), [p, r])
        | _ => none
      | _ => none
    | _ => none
  ok := fun (x, b) h => of_ok x b h.1 h.2
abbrev rtzr (bp bq : Nat) (bs ps : Int) : List (Ck C0) := [⟨bp, bq, 3, false, none, .one [.int .i64 bs, .int .i64 ps, .nils]⟩]
theorem of_nil (bp bq : Nat) (bs ps : Int) (b : Int) (hp : 1 ≤ ps ∧ ps ≤ 64) : Tells (C := C0) Tryd.prog (.fn 20) (rtzr bp bq bs ps) [.ptr 0 0 0, .int .i64 b] .nils := by
  refine loc_pc (P := Tryd.prog) (E := ⟨[], [], 60, []⟩) (L := [⟨3, Nat, fun p => [(6, .int .i64 (p : Int)), (5, .nils)], fun _ m => m, fun p => (p : Int) ≤ ps, fun p => 64 - p⟩,
    ⟨6, Nat, fun p => [(6, .int .i64 (p : Int)), (7, .int .i64 0), (5, .nils)], fun _ m => m, fun p => True, fun p => 0⟩]) mix Tryd.func20 rfl (by kernel_rfl) (by kernel_rfl) rfl rfl ?_
  ((conv => (arg 1; reduce)); with_reducible repeat' (first | exact Tr.yes_h | refine Tr.and_h ?_ ?_ | refine Tr.imp_h fun _ => ?_ | refine Tr.all_h fun _ => ?_ | refine Tr.lf_h ?_))
  all_goals try (first | first | (show Region.lexB _ _ = true; kernel_rfl) | (show planned _ _ = true; kernel_rfl) | exact rfl | exact True.intro | (first | exact key3 | exact key30 | exact zero3 | exact zero53 | exact eq30 | exact ⟨key3, zero53⟩ | exact ⟨key30, zero3⟩) | ((try dsimp only [imp, C0, cG, cInt, cPl, cSlot, cDo] at *); (try refine inR64 ?_ ?_) <;> (try simp only [List.length_set, List.length_append, List.length_take, List.length_drop]) <;> omega))
  all_goals try exact absurd (by with_reducible assumption : decide ((0 : Int) < 0) = true) (by decide)
  · refine Stands.one (0 : Nat) ⟨by show (0 : Int) ≤ ps; omega, ?_⟩
    ((conv => (arg 1; reduce)); with_reducible repeat' (first | exact Tr.yes_h | refine Tr.and_h ?_ ?_ | refine Tr.imp_h fun _ => ?_ | refine Tr.all_h fun _ => ?_ | refine Tr.lf_h ?_))
    all_goals (first | first | (show Region.lexB _ _ = true; kernel_rfl) | (show planned _ _ = true; kernel_rfl) | exact rfl | exact True.intro | (first | exact key3 | exact key30 | exact zero3 | exact zero53 | exact eq30 | exact ⟨key3, zero53⟩ | exact ⟨key30, zero3⟩) | ((try dsimp only [imp, C0, cG, cInt, cPl, cSlot, cDo] at *); (try refine inR64 ?_ ?_) <;> (try simp only [List.length_set, List.length_append, List.length_take, List.length_drop]) <;> omega))
  · rename_i v0 hv0 h0
    change Nat at v0
    refine Stands.one v0 ⟨trivial, ?_⟩
    ((conv => (arg 1; reduce)); with_reducible repeat' (first | exact Tr.yes_h | refine Tr.and_h ?_ ?_ | refine Tr.imp_h fun _ => ?_ | refine Tr.all_h fun _ => ?_ | refine Tr.lf_h ?_))
    all_goals (first | first | (show Region.lexB _ _ = true; kernel_rfl) | (show planned _ _ = true; kernel_rfl) | exact rfl | exact True.intro | (first | exact key3 | exact key30 | exact zero3 | exact zero53 | exact eq30 | exact ⟨key3, zero53⟩ | exact ⟨key30, zero3⟩) | ((try dsimp only [imp, C0, cG, cInt, cPl, cSlot, cDo] at *); (try refine inR64 ?_ ?_) <;> (try simp only [List.length_set, List.length_append, List.length_take, List.length_drop]) <;> omega))
  · rename_i v0 hv0 h0 v1 hv1 h1 h2
    change Nat at v0
    change Nat at v1
    have h0 := of_decide_eq_true h0
    have h1' : (v0 : Int) = (v1 : Int) := h1
    have hpv : v0 = v1 := by omega
    subst hpv
    refine Stands.one (v0 + 1) ⟨by show ((v0 + 1 : Nat) : Int) ≤ ps; omega, ?_, ?_⟩
    · show 64 - (v0 + 1) < 64 - v0
      omega
    ((conv => (arg 1; reduce)); with_reducible repeat' (first | exact Tr.yes_h | refine Tr.and_h ?_ ?_ | refine Tr.imp_h fun _ => ?_ | refine Tr.all_h fun _ => ?_ | refine Tr.lf_h ?_))
    all_goals (first | first | (show Region.lexB _ _ = true; kernel_rfl) | (show planned _ _ = true; kernel_rfl) | exact rfl | exact True.intro | (first | exact key3 | exact key30 | exact zero3 | exact zero53 | exact eq30 | exact ⟨key3, zero53⟩ | exact ⟨key30, zero3⟩) | ((try dsimp only [imp, C0, cG, cInt, cPl, cSlot, cDo] at *); (try refine inR64 ?_ ?_) <;> (try simp only [List.length_set, List.length_append, List.length_take, List.length_drop]) <;> omega))
def pcOf0 : Pc Tryd.prog C0 where
  tg := .fn 20
  X := Nat × Nat × Int × Int × Int
  args := fun (bp, bq, bs, ps, b) => [.ptr 0 0 0, .int .i64 b]
  mem := fun (bp, bq, bs, ps, b) => rtzr bp bq bs ps
  pre := fun (bp, bq, bs, ps, b) => 1 ≤ ps ∧ ps ≤ 64
  res := fun _ => .nils
  mat vs m := match vs with
    | [.ptr p 0 0, .int _ b] => match nth m p with
      | ⟨bp, bq, _, _, _, .one [.int _ bs, .int _ ps, .nils]⟩ => some ((bp, bq, bs, ps, b), [p])
      | _ => none
    | _ => none
  ok := fun (bp, bq, bs, ps, b) h => of_nil bp bq bs ps b h
end Go.Vx
set_option linter.unusedSectionVars false
set_option maxRecDepth 100000
set_option linter.unusedVariables false
set_option linter.unusedSimpArgs false
namespace Go.Vx
open Go Go.Proofs
variable [Gl]

abbrev tbr2 : Tb → Tb → List (Ck C0)
  | ⟨tp, tq, bs, ps, kb, kl, kc, pb, pl, pc⟩, ⟨tp', tq', bs', ps', kb', kl', kc', pb', pl', pc'⟩ =>
    [⟨tp, tq, 4, false, none, .one [.int .i64 bs, .int .i64 ps, .mp 1, .mp 2]⟩, ⟨kb, 0, 0, false, none, .mp 3 53 kl kc⟩, ⟨pb, 0, 0, false, none, .mp 30 3 pl pc⟩,
     ⟨tp', tq', 4, false, none, .one [.int .i64 bs', .int .i64 ps', .mp 4, .mp 5]⟩, ⟨kb', 0, 0, false, none, .mp 3 53 kl' kc'⟩, ⟨pb', 0, 0, false, none, .mp 30 3 pl' pc'⟩]
abbrev sameL (L M : List Slot) : Bool := sameB (srtK L) (srtK M)
abbrev Ry := Nat × Nat × List Slot × Nat × List Slot
structure Sorted (L : List Slot) (y : Ry) : Prop where
  is : Srt leKey L y.2.2.1
  pos : 0 < y.2.2.1.length
  cap : y.2.2.1.length ≤ y.2.2.2.1
  fit : y.2.2.2.1 ≤ y.2.2.1.length + y.2.2.2.2.length
theorem Sorted.take {L : List Slot} {y : Ry} (h : Lok L) (hy : Srt leKey L y.2.2.1) : (y.2.2.1 ++ y.2.2.2.2).take y.2.2.1.length = srtK L := by
  rw [List.take_left]; exact srtK_one h hy
theorem srtK_nil : srtK [] = [] := by
  have := (srtK_srt []).perm
  exact this.eq_nil
set_option maxHeartbeats 8000000 in
theorem same_ok (x u : Tb) (h : Tok x) (h' : Tok u) : Tells (C := C0) Tryd.prog (.fn 24) (tbr2 x u) [.ptr 0 0 0, .ptr 3 0 0] (.bool (.tm (sameL (tl x) (tl u)))) := by
  refine loc_pc (P := Tryd.prog) (E := ⟨[fcAll], [pcEqual, pcEqualN, pcEqualA, pcEqualB], 10, []⟩) (L := []) mix Tryd.func24 rfl (by kernel_rfl) (by kernel_rfl) rfl rfl ?_
  ((conv => (arg 1; reduce)); with_reducible repeat' (first | exact Tr.yes_h | refine Tr.and_h ?_ ?_ | refine Tr.imp_h fun _ => ?_ | refine Tr.all_h fun _ => ?_ | refine Tr.lf_h ?_))
  all_goals try (first | first | (show Region.lexB _ _ = true; kernel_rfl) | (show planned _ _ = true; kernel_rfl) | exact rfl | exact True.intro | (first | exact key3 | exact key30 | exact zero3 | exact zero53 | exact eq30 | exact ⟨key3, zero53⟩ | exact ⟨key30, zero3⟩) | ((try dsimp only [imp, C0, cG, cInt, cPl, cSlot, cDo] at *); (try refine inR64 ?_ ?_) <;> (try simp only [List.length_set, List.length_append, List.length_take, List.length_drop]) <;> omega))
  · exact h
  · exact h'
  · rename_i y1 p1 y2 p2
    have p1 : tl x = [] := p1
    have p2 : tl u = [] := p2
    show true = sameL (tl x) (tl u)
    unfold sameL
    rw [p1, p2]; exact (sameB_self _).symm
  · rename_i y1 p1 y2 p2
    exact p2.2.1
  · rename_i y1 p1 y2 p2
    have p1 : tl x = [] := p1
    show false = sameL (tl x) (tl u)
    have e2 := p2.1.perm.length_eq
    have e3 := (srtK_srt (tl u)).perm.length_eq
    unfold sameL
    rw [p1, srtK_nil, sameB_ne]
    have := p2.2.1
    show 0 ≠ (srtK (tl u)).length
    rw [e3, ← e2]
    exact Nat.ne_of_lt this
  · exact h'
  · rename_i y1 p1 y2 p2
    exact p1.2.1
  · rename_i y1 p1 y2 p2
    have p2 : tl u = [] := p2
    show false = sameL (tl x) (tl u)
    have e2 := p1.1.perm.length_eq
    have e3 := (srtK_srt (tl x)).perm.length_eq
    unfold sameL
    rw [p2, srtK_nil, sameB_ne]
    have := p1.2.1
    show (srtK (tl x)).length ≠ 0
    rw [e3, ← e2]
    exact (Nat.ne_of_lt this).symm
  · rename_i y1 p1 y2 p2
    have e2 : y1.2.2.1.length = (tl x).length := p1.1.perm.length_eq
    have := h.len
    refine ⟨by rw [List.length_append]; exact Nat.le_add_right _ _, by rw [List.length_append]; exact Nat.le_add_right _ _, ?_⟩
    show y1.2.2.1.length < _
    rw [e2, List.length_map]; exact h.len
  · rename_i y1 p1 y2 p2
    show sameB _ _ = sameL (tl x) (tl u)
    have e1 : (y1.2.2.1 ++ y1.2.2.2.2).take y1.2.2.1.length = srtK (tl x) := Sorted.take h.rep.ok p1.1
    have e2 : (y2.2.2.1 ++ y2.2.2.2.2).take y2.2.2.1.length = srtK (tl u) := Sorted.take h'.rep.ok p2.1
    rw [e1, e2]
set_option maxHeartbeats 8000000 in
theorem same1_ok (x : Tb) (h : Tok x) : Tells (C := C0) Tryd.prog (.fn 24) (tbr x) [.ptr 0 0 0, .ptr 0 0 0] (.bool .t) := by
  refine loc_pc (P := Tryd.prog) (E := ⟨[fcAll], [pcEqual, pcEqualN, pcEqualA, pcEqualB], 10, []⟩) (L := []) mix Tryd.func24 rfl (by kernel_rfl) (by kernel_rfl) rfl rfl ?_
  ((conv => (arg 1; reduce)); with_reducible repeat' (first | exact Tr.yes_h | refine Tr.and_h ?_ ?_ | refine Tr.imp_h fun _ => ?_ | refine Tr.all_h fun _ => ?_ | refine Tr.lf_h ?_))
  all_goals try (first | first | (show Region.lexB _ _ = true; kernel_rfl) | (show planned _ _ = true; kernel_rfl) | exact rfl | exact True.intro | (first | exact key3 | exact key30 | exact zero3 | exact zero53 | exact eq30 | exact ⟨key3, zero53⟩ | exact ⟨key30, zero3⟩) | ((try dsimp only [imp, C0, cG, cInt, cPl, cSlot, cDo] at *); (try refine inR64 ?_ ?_) <;> (try simp only [List.length_set, List.length_append, List.length_take, List.length_drop]) <;> omega))
  · exact h
  · exact h
  · rename_i y1 p1 y2 p2
    exact p2.2.1
  · rename_i y1 p1 y2 p2
    have p1 : tl x = [] := p1
    have := p2.2.1
    have e2 : y2.2.2.1.length = (tl x).length := p2.1.perm.length_eq
    rw [e2, p1] at this
    exact absurd this (Nat.lt_irrefl 0)
  · exact h
  · rename_i y1 p1 y2 p2
    exact p1.2.1
  · rename_i y1 p1 y2 p2
    have p2 : tl x = [] := p2
    have := p1.2.1
    have e2 : y1.2.2.1.length = (tl x).length := p1.1.perm.length_eq
    rw [e2, p2] at this
    exact absurd this (Nat.lt_irrefl 0)
  · rename_i y1 p1 y2 p2
    have e2 : y1.2.2.1.length = (tl x).length := p1.1.perm.length_eq
    refine ⟨by rw [List.length_append]; exact Nat.le_add_right _ _, by rw [List.length_append]; exact Nat.le_add_right _ _, ?_⟩
    show y1.2.2.1.length < _
    rw [e2, List.length_map]; exact h.len
  · rename_i y1 p1 y2 p2
    show sameB _ _ = true
    have e1 : (y1.2.2.1 ++ y1.2.2.2.2).take y1.2.2.1.length = srtK (tl x) := Sorted.take h.rep.ok p1.1
    have e2 : (y2.2.2.1 ++ y2.2.2.2.2).take y2.2.2.1.length = srtK (tl x) := Sorted.take h.rep.ok p2.1
    rw [e1, e2]; exact sameB_self _
def pcSame1 : Pc Tryd.prog C0 where
  tg := .fn 24
  X := Tb
  args := fun x => [.ptr 0 0 0, .ptr 0 0 0]
  mem := fun x => tbr x
  pre := fun x => Tok x
  res := fun _ => .bool .t
  mat vs m := match vs with
    | [.ptr p 0 0, .ptr p' 0 0] => match Nat.beq p p' with
      | true => tbOf m p
      | false => none
    | _ => none
  ok := fun x h => same1_ok x h
def pcSame2 : Pc Tryd.prog C0 where
  tg := .fn 24
  X := Tb × Tb
  args := fun (x, u) => [.ptr 0 0 0, .ptr 3 0 0]
  mem := fun (x, u) => tbr2 x u
  pre := fun (x, u) => Tok x ∧ Tok u
  res := fun (x, u) => .bool (.tm (sameL (tl x) (tl u)))
  mat vs m := match vs with
    | [.ptr p 0 0, .ptr p' 0 0] => match Nat.beq p p' with
      | true => none
      | false => match tbOf m p, tbOf m p' with
        | some (x, l), some (u, l') => some ((x, u), l ++ l')
        | _, _ => none
    | _ => none
  ok := fun (x, u) h => same_ok x u h.1 h.2
end Go.Vx
set_option linter.unusedSectionVars false
set_option maxRecDepth 100000
set_option linter.unusedVariables false
set_option linter.unusedSimpArgs false
namespace Go.Vx
open Go Go.Proofs
variable [Gl]

abbrev Yt' := Ks × Nat × Ps × Nat
abbrev tq (bs ps : Int) (y : Yt') : Tb := ⟨0, 0, bs, ps, 0, y.1, y.2.1, 0, y.2.2.1, y.2.2.2⟩
/-- A slot that may be there. -/
structure Sf (bs ps : Int) (s : Slot) : Prop where
  k0 : 0 ≤ s.key
  k1 : s.key ≤ 1073741824
  b0 : 0 ≤ s.pl.1
  b1 : s.pl.1 < bs
  p0 : 0 ≤ s.pl.2
  p1 : s.pl.2 < ps
structure Syn (bs ps : Int) (N : Nat) (T R : List Slot) : Prop where
  ok : Lok T
  ris : Ris R
  perm : R.Perm T
  fit : ∀ s ∈ R, Sf bs ps s
  len : R.length ≤ N
theorem Syn.nil (bs ps : Int) (N : Nat) : Syn bs ps N [] [] := ⟨⟨by simp, by simp⟩, List.Pairwise.nil, List.Perm.refl _, (fun s h => by cases h), Nat.zero_le _⟩
theorem Lok.perm {T R : List Slot} (h : Lok T) (hp : R.Perm T) : Lok R :=
  ⟨(hp.map (·.key)).nodup_iff.2 h.nk, (hp.map (·.pl)).nodup_iff.2 h.np⟩
theorem lhas_perm {T R : List Slot} (hp : R.Perm T) (k : Int) : lhas T k = lhas R k := by
  rw [Bool.eq_iff_iff, lhas_iff, lhas_iff]
  exact ⟨fun ⟨s, h, e⟩ => ⟨s, hp.mem_iff.2 h, e⟩, fun ⟨s, h, e⟩ => ⟨s, hp.mem_iff.1 h, e⟩⟩
theorem lat_perm {T R : List Slot} (hp : R.Perm T) (p : Pl) : lat T p = lat R p := by
  rw [Bool.eq_iff_iff, lat_iff, lat_iff]
  exact ⟨fun ⟨s, h, e⟩ => ⟨s, hp.mem_iff.2 h, e⟩, fun ⟨s, h, e⟩ => ⟨s, hp.mem_iff.1 h, e⟩⟩
theorem lget_no {L : List Slot} {k : Int} (h : lhas L k = false) : lget L k = slot0 := by
  unfold lget
  rw [List.find?_eq_none.2 (fun s hs hk => by
    have : lhas L k = true := lhas_iff.2 ⟨s, hs, by simpa using hk⟩
    rw [h] at this; cases this)]; rfl
theorem lwho_no {L : List Slot} {p : Pl} (h : lat L p = false) : lwho L p = 0 := by
  unfold lwho
  rw [List.find?_eq_none.2 (fun s hs hk => by
    have : lat L p = true := lat_iff.2 ⟨s, hs, by simpa using hk⟩
    rw [h] at this; cases this)]; rfl
theorem lget_perm {T R : List Slot} (hT : Lok T) (hp : R.Perm T) (k : Int) : lget T k = lget R k := by
  cases hh : lhas R k with
  | false => rw [lget_no hh, lget_no ((lhas_perm hp k).trans hh)]
  | true =>
    obtain ⟨h1, h2⟩ := lget_mem hh
    obtain ⟨h3, h4⟩ := lget_mem ((lhas_perm hp k).trans hh)
    exact hT.key h3 (hp.mem_iff.1 h1) (h4.trans h2.symm)
theorem lwho_perm {T R : List Slot} (hT : Lok T) (hp : R.Perm T) (p : Pl) : lwho T p = lwho R p := by
  cases hh : lat R p with
  | false => rw [lwho_no hh, lwho_no ((lat_perm hp p).trans hh)]
  | true =>
    obtain ⟨s, h1, h2, h3⟩ := lwho_mem hh
    obtain ⟨t, h4, h5, h6⟩ := lwho_mem ((lat_perm hp p).trans hh)
    have := hT.pl h4 (hp.mem_iff.1 h1) (h5.trans h2.symm)
    rw [← h6, ← h3, this]
theorem rtk_iff {R : List Slot} (hR : Lok R) (k : Int) (p : Pl) : rtk R k p = true ↔ lat R p = true ∧ lwho R p ≠ k := by
  unfold rtk
  rw [List.any_eq_true]
  constructor
  · rintro ⟨s, hs, h⟩
    simp only [Bool.and_eq_true, decide_eq_true_eq] at h
    have e : s.pl = p := Prod.ext h.2.1 h.2.2
    refine ⟨lat_iff.2 ⟨s, hs, e⟩, ?_⟩
    rw [← e, hR.who hs]; exact h.1
  · rintro ⟨h1, h2⟩
    obtain ⟨s, hs, e, hk⟩ := lwho_mem h1
    refine ⟨s, hs, ?_⟩
    simp only [Bool.and_eq_true, decide_eq_true_eq]
    rw [hk, e]; exact ⟨h2, rfl, rfl⟩
section
variable {bs ps : Int} {N : Nat} {T R : List Slot} (h : Syn bs ps N T R)
include h
theorem Syn.okR : Lok R := h.ok.perm h.perm
theorem Syn.mono {M : Nat} (hm : N ≤ M) : Syn bs ps M T R := ⟨h.ok, h.ris, h.perm, h.fit, Nat.le_trans h.len hm⟩
theorem Syn.has (k : Int) : lhas T k = lhas R k := lhas_perm h.perm k
theorem Syn.get (k : Int) : lget T k = lget R k := lget_perm h.ok h.perm k
theorem Syn.at (p : Pl) : lat T p = lat R p := lat_perm h.perm p
theorem Syn.who (p : Pl) : lwho T p = lwho R p := lwho_perm h.ok h.perm p
theorem Syn.tk (k : Int) (p : Pl) : rtk R k p = true ↔ lat T p = true ∧ lwho T p ≠ k := by rw [rtk_iff h.okR, h.at, h.who]
theorem Syn.leng : T.length = R.length := h.perm.length_eq.symm
theorem Syn.drop (k : Int) : Syn bs ps N (ldel T k) (ldel R k) :=
  ⟨h.ok.del k, h.ris.sublist List.filter_sublist, h.perm.filter _, fun s hs => h.fit s (List.mem_filter.1 hs).1, Nat.le_trans (List.length_filter_le _ _) h.len⟩
theorem ldel_two : ∀ (L : List Slot) (k : Int), (L.filter (fun t => decide (t.key < k)) ++ L.filter (fun t => decide (k < t.key))).Perm (ldel L k)
  | [], k => by simp [ldel]
  | a :: r, k => by
    have ih := ldel_two r k
    unfold ldel at ih ⊢
    rcases Int.lt_trichotomy a.key k with hk | hk | hk
    · rw [List.filter_cons_of_pos (by simpa using hk), List.filter_cons_of_neg (by simp; omega), List.filter_cons_of_pos (by simp; omega), List.cons_append]
      exact ih.cons a
    · rw [List.filter_cons_of_neg (by simp; omega), List.filter_cons_of_neg (by simp; omega), List.filter_cons_of_neg (by simp; omega)]
      exact ih
    · rw [List.filter_cons_of_neg (by simp; omega), List.filter_cons_of_pos (by simpa using hk), List.filter_cons_of_pos (by simp; omega)]
      exact List.perm_middle.trans (ih.cons a)
theorem Syn.set {s : Slot} (hf : Sf bs ps s) (hl : Lok (lset T s)) : Syn bs ps (N + 1) (lset T s) (rins R s) := by
  have hp : (rins R s).Perm (lset T s) := by
    unfold rins lset
    have h1 : (R.filter (fun t => decide (t.key < s.key)) ++ [s] ++ R.filter (fun t => decide (s.key < t.key))).Perm (s :: (R.filter (fun t => decide (t.key < s.key)) ++ R.filter (fun t => decide (s.key < t.key)))) := by
      rw [List.append_assoc, List.singleton_append]
      exact List.perm_middle
    refine h1.trans (((ldel_two h R s.key).trans (h.perm.filter _)).cons s |>.trans ?_)
    exact (List.perm_append_singleton s _).symm
  refine ⟨hl, ?_, hp, fun t ht => ?_, ?_⟩
  · unfold rins
    rw [List.append_assoc, List.singleton_append]
    refine List.pairwise_append.2 ⟨h.ris.sublist List.filter_sublist, List.pairwise_cons.2 ⟨fun t ht => ?_, h.ris.sublist List.filter_sublist⟩, fun a ha b hb => ?_⟩
    · simpa using (List.mem_filter.1 ht).2
    · have h1 : a.key < s.key := by simpa using (List.mem_filter.1 ha).2
      rcases List.mem_cons.1 hb with rfl | hb
      · exact h1
      · have h2 : s.key < b.key := by simpa using (List.mem_filter.1 hb).2
        omega
  · unfold rins at ht
    simp only [List.mem_append, List.mem_singleton, List.mem_filter] at ht
    rcases ht with (ht | rfl) | ht
    · exact h.fit t ht.1
    · exact hf
    · exact h.fit t ht.1
  · rw [hp.length_eq, lset, List.length_append, List.length_singleton]
    have := List.length_filter_le (fun t : Slot => !decide (t.key = s.key)) T
    have e := h.leng
    have := h.len
    unfold ldel
    omega
/-- All, in order. -/
theorem Syn.all {L : List Slot} (hL : Srt leKey T L) : L = R := by
  refine List.Perm.eq_of_pairwise (le := leKey) (fun a b ha hb h1 h2 => ?_) hL.ord (h.ris.imp fun h => Int.le_of_lt h) (hL.perm.trans h.perm.symm)
  exact h.ok.key (hL.perm.mem_iff.1 ha) (h.perm.mem_iff.1 hb) (Int.le_antisymm h1 h2)
theorem ofTo_mem {b : Int} : ∀ {m : Nat} {s : Slot}, s ∈ ofTo R b m ↔ s ∈ R ∧ s.pl.1 = b ∧ 0 ≤ s.pl.2 ∧ s.pl.2 < m
  | 0, s => by
    simp only [ofTo, List.not_mem_nil, false_iff]
    rintro ⟨_, _, h1, h2⟩
    omega
  | m + 1, s => by
    rw [ofTo, List.mem_append, ofTo_mem, List.mem_filter]
    simp only [isAt, Bool.and_eq_true, decide_eq_true_eq]
    constructor
    · rintro (⟨h1, h2, h3, h4⟩ | ⟨h1, h2, h3⟩)
      · exact ⟨h1, h2, h3, by omega⟩
      · exact ⟨h1, h2, by omega, by omega⟩
    · rintro ⟨h1, h2, h3, h4⟩
      by_cases h5 : s.pl.2 < m
      · exact .inl ⟨h1, h2, h3, h5⟩
      · exact .inr ⟨h1, h2, by omega⟩
theorem ofTo_ord {b : Int} : ∀ (m : Nat), (ofTo R b m).Pairwise lePage
  | 0 => List.Pairwise.nil
  | m + 1 => by
    rw [ofTo]
    refine List.pairwise_append.2 ⟨ofTo_ord m, ?_, fun x hx y hy => ?_⟩
    · refine List.Pairwise.imp_of_mem (R := fun _ _ => True) (fun {x y} hx hy _ => ?_) (List.pairwise_of_forall (fun _ _ => trivial))
      have h1 := (List.mem_filter.1 hx).2
      have h2 := (List.mem_filter.1 hy).2
      simp only [isAt, Bool.and_eq_true, decide_eq_true_eq] at h1 h2
      exact .inr ⟨h1.1.trans h2.1.symm, by omega⟩
    · have h1 := (ofTo_mem h).1 hx
      have h2 := (List.mem_filter.1 hy).2
      simp only [isAt, Bool.and_eq_true, decide_eq_true_eq] at h2
      exact .inr ⟨h1.2.1.trans h2.1.symm, by omega⟩
theorem ofTo_nodup {b : Int} (hn : R.Nodup) : ∀ (m : Nat), (ofTo R b m).Nodup
  | 0 => List.nodup_nil
  | m + 1 => by
    rw [ofTo]
    refine List.nodup_append.2 ⟨ofTo_nodup hn m, hn.sublist List.filter_sublist, fun x hx y hy e => ?_⟩
    subst e
    have h1 := (ofTo_mem h).1 hx
    have h2 := (List.mem_filter.1 hy).2
    simp only [isAt, Bool.and_eq_true, decide_eq_true_eq] at h2
    omega
theorem Syn.of_perm (b : Int) (hp : 0 ≤ ps) : (ofTo R b ps.toNat).Perm (T.filter (inBlk b)) := by
  have hn : R.Nodup := nodup_of_map h.okR.nk
  have hn' : T.Nodup := nodup_of_map h.ok.nk
  refine (List.perm_ext_iff_of_nodup (ofTo_nodup h hn _) (hn'.sublist List.filter_sublist)).2 fun s => ?_
  rw [ofTo_mem h, List.mem_filter, h.perm.mem_iff.symm]
  simp only [inBlk, decide_eq_true_eq]
  constructor
  · rintro ⟨h1, h2, _, _⟩; exact ⟨h1, h2⟩
  · rintro ⟨h1, h2⟩
    have := h.fit s h1
    exact ⟨h1, h2, this.p0, by have := this.p1; omega⟩
theorem Syn.of (b : Int) (hp : 0 ≤ ps) {L : List Slot} (hL : Srt lePage (T.filter (inBlk b)) L) : L = ofTo R b ps.toNat := by
  refine List.Perm.eq_of_pairwise (le := lePage) (fun x y hx hy h1 h2 => ?_) hL.ord (ofTo_ord h _) (hL.perm.trans (h.of_perm b hp).symm)
  have hx' := (List.mem_filter.1 (hL.perm.mem_iff.1 hx)).1
  have hy' := (List.mem_filter.1 ((h.of_perm b hp).mem_iff.1 hy)).1
  refine h.ok.pl hx' hy' (Prod.ext ?_ ?_)
  · rcases h1 with h1 | h1 <;> rcases h2 with h2 | h2 <;> omega
  · rcases h1 with h1 | h1 <;> rcases h2 with h2 | h2 <;> omega
end
/-- What a walk through the first j finds: the key's, and the page's, place. -/
structure Fl (R : List Slot) (k : Int) (p : Pl) (n j : Nat) (f g : Int) : Prop where
  le : j ≤ n
  fk : (f = -1 ∧ ∀ i, i < j → (R.getD i slot0).key ≠ k) ∨ ∃ i : Nat, i < j ∧ f = i ∧ (R.getD i slot0).key = k
  fp : (g = -1 ∧ ∀ i, i < j → (R.getD i slot0).pl ≠ p) ∨ ∃ i : Nat, i < j ∧ g = i ∧ (R.getD i slot0).pl = p
theorem Fl.zero (R : List Slot) (k : Int) (p : Pl) (n : Nat) : Fl R k p n 0 (-1) (-1) :=
  ⟨Nat.zero_le _, .inl ⟨rfl, fun i h => absurd h (Nat.not_lt_zero _)⟩, .inl ⟨rfl, fun i h => absurd h (Nat.not_lt_zero _)⟩⟩
theorem Fl.step {R : List Slot} {k : Int} {p : Pl} {n j : Nat} {f g : Int} (h : Fl R k p n j f g) (hj : j < n) {f' g' : Int} (hf : (f' = j ∧ (R.getD j slot0).key = k) ∨ (f' = f ∧ (R.getD j slot0).key ≠ k)) (hg : (g' = j ∧ (R.getD j slot0).pl = p) ∨ (g' = g ∧ (R.getD j slot0).pl ≠ p)) : Fl R k p n (j + 1) f' g' := by
  refine ⟨hj, ?_, ?_⟩
  · rcases hf with ⟨rfl, h1⟩ | ⟨rfl, h1⟩
    · exact .inr ⟨j, Nat.lt_succ_self j, rfl, h1⟩
    · rcases h.fk with ⟨h2, h3⟩ | ⟨i, h2, h3, h4⟩
      · refine .inl ⟨h2, fun i hi => ?_⟩
        rcases Nat.lt_succ_iff_lt_or_eq.1 hi with hi | rfl
        · exact h3 i hi
        · exact h1
      · exact .inr ⟨i, Nat.lt_succ_of_lt h2, h3, h4⟩
  · rcases hg with ⟨rfl, h1⟩ | ⟨rfl, h1⟩
    · exact .inr ⟨j, Nat.lt_succ_self j, rfl, h1⟩
    · rcases h.fp with ⟨h2, h3⟩ | ⟨i, h2, h3, h4⟩
      · refine .inl ⟨h2, fun i hi => ?_⟩
        rcases Nat.lt_succ_iff_lt_or_eq.1 hi with hi | rfl
        · exact h3 i hi
        · exact h1
      · exact .inr ⟨i, Nat.lt_succ_of_lt h2, h3, h4⟩
theorem Fl.has {R : List Slot} {k : Int} {p : Pl} {n j : Nat} {f g : Int} (h : Fl R k p n j f g) (hR : Lok R) (hj : n ≤ j) (hn : R.length = n) : lhas R k = decide (0 ≤ f) ∧ (0 ≤ f → ∃ i : Nat, i < n ∧ f = i ∧ R.getD i slot0 = lget R k) := by
  have hle := h.le
  rcases h.fk with ⟨h1, h2⟩ | ⟨i, h1, h2, h3⟩
  · refine ⟨?_, fun hf => by omega⟩
    rw [decide_eq_false (by omega)]
    cases hh : lhas R k with
    | false => rfl
    | true =>
      obtain ⟨s, hs, hk⟩ := lhas_iff.1 hh
      obtain ⟨i, hi, rfl⟩ := List.getElem_of_mem hs
      have := h2 i (by omega)
      rw [show R.getD i slot0 = R[i] by simp [List.getD, hi]] at this
      exact (this hk).elim
  · have hm := getD_mem (A := R) (i := i) (by omega)
    have hh : lhas R k = true := lhas_iff.2 ⟨_, hm, h3⟩
    refine ⟨by rw [hh, decide_eq_true (by omega)], fun hf => ⟨i, by omega, h2, ?_⟩⟩
    obtain ⟨h4, h5⟩ := lget_mem hh
    exact hR.key hm h4 (h3.trans h5.symm)
theorem Fl.at {R : List Slot} {k : Int} {p : Pl} {n j : Nat} {f g : Int} (h : Fl R k p n j f g) (hR : Lok R) (hj : n ≤ j) (hn : R.length = n) : lat R p = decide (0 ≤ g) ∧ (0 ≤ g → ∃ i : Nat, i < n ∧ g = i ∧ (R.getD i slot0).key = lwho R p) := by
  have hle := h.le
  rcases h.fp with ⟨h1, h2⟩ | ⟨i, h1, h2, h3⟩
  · refine ⟨?_, fun hf => by omega⟩
    rw [decide_eq_false (by omega)]
    cases hh : lat R p with
    | false => rfl
    | true =>
      obtain ⟨s, hs, hk⟩ := lat_iff.1 hh
      obtain ⟨i, hi, rfl⟩ := List.getElem_of_mem hs
      have := h2 i (by omega)
      rw [show R.getD i slot0 = R[i] by simp [List.getD, hi]] at this
      exact (this hk).elim
  · have hm := getD_mem (A := R) (i := i) (by omega)
    have hh : lat R p = true := lat_iff.2 ⟨_, hm, h3⟩
    refine ⟨by rw [hh, decide_eq_true (by omega)], fun hf => ⟨i, by omega, h2, ?_⟩⟩
    rw [← h3, hR.who hm]
end Go.Vx
