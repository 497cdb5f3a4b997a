/-
  Round 23: lists that are the same.
  Round 23: a fair point; points that are the same.
  Round 23: the errors that are laid; the inputs.
  Round 23: errors az plain data; all nineteen laid.
  Round 23: two lists of bytes, are they the same.
  The symbolic evaluator: the plan of a great region, looked at in pieces.
  Round 23: the order of the regions of made (the print of tools/bigplan.py).
  Round 23: a point for the program, and back.
  Round 23: the order of the regions of back (the print of tools/bigplan.py).
  Round 23: a point back, az the document has it.
  Round 23: the order of a region of checkpoint.May (the print of tools/bigplan.py).
  Round 23: the order of a region of checkpoint.May (the print of tools/bigplan.py).
  Conditions: none.
-/
import Derived.Test.YtmdnpfocihfkdaaDoorM3
import Derived.Test.YtmdnpfocihfkdaaDoorM4
import Derived.Test.YtmdnpfocihfkdaaDoorRows
import Derived.LaidMore
import Derived.ChangeOld
import Derived.Below
import Derived.Stop.Joined
import Derived.Lib.SmallJoins
set_option linter.unusedSectionVars false
set_option maxRecDepth 100000
set_option linter.unusedVariables false
set_option linter.unusedSimpArgs false
namespace Go.Vx
open Go Go.Proofs
variable [Gl]

theorem tk_at {α : Type} {l : List α} {n v : Nat} {d : α} (hv : v < n) : (l.take n).getD v d = l.getD v d := by
  simp only [List.getD_eq_getElem?_getD, List.getElem?_take, if_pos hv]
theorem tk_len {α : Type} {l : List α} {n : Nat} (h : n ≤ l.length) : (l.take n).length = n := by
  rw [List.length_take]; omega
/-- The first i are the same. -/
def Sm {α : Type} (A B : List α) (n : Nat) : Inv' C0 := ⟨4, Nat, fun i => [(5, .int .i64 (i : Int))], fun _ m => m, fun i => i ≤ n ∧ A.take i = B.take i, fun i => n - i⟩
set_option maxHeartbeats 8000000 in
theorem SameInts_ok (o : Bool) (b q : Nat) (l : List Int) (n c : Nat) (o' : Bool) (b' q' : Nat) (l' : List Int) (n' c' : Nat) (h : n ≤ l.length) (h' : n' ≤ l'.length) (hs : n < 140737488355000) (ho : o = false → n = 0 ∧ c = 0) (ho' : o' = false → n' = 0 ∧ c' = 0) :
    Tells (C := C0) Tryd.prog (.fn 45) [⟨b, q, 1, false, some o, .rows 3 l⟩, ⟨b', q', 1, false, some o', .rows 3 l'⟩] [.sl 0 0 n c, .sl 1 0 n' c'] (.bool (.tm (ieq (l.take n) (l'.take n')))) := by
  refine loc_pc (P := Tryd.prog) (E := ⟨[], [], 29, [], [], []⟩) (L := [Sm (l.take n) (l'.take n') n]) mix Tryd.func45 rfl (by kernel_rfl) (by kernel_rfl) rfl rfl ?_
  ((conv => (arg 1; reduce)); with_reducible repeat' (first | exact Tr.yes_h | refine Tr.and_h ?_ ?_ | refine Tr.imp_h fun _ => ?_ | refine Tr.all_h fun _ => ?_ | refine Tr.lf_h ?_))
  all_goals try (first | first | (show Region.lexB _ _ = true; kernel_rfl) | (show planned _ _ = true; kernel_rfl) | exact rfl | exact True.intro | ((try dsimp only [imp, C0, cG, cInt, cPl, cSlot, cPg, rwCodec, cRaw] at *); (try refine inR64 ?_ ?_) <;> (try simp only [List.length_set, List.length_append, List.length_take, List.length_drop]) <;> omega))
  · rename_i h0
    have h0 := of_decide_eq_true h0
    refine (ieq_no fun he => h0 ?_).symm
    have := congrArg List.length he
    rw [tk_len h, tk_len h'] at this
    omega
  · rename_i h0
    refine Stands.one (0 : Nat) ⟨⟨Nat.zero_le _, rfl⟩, ?_⟩
    ((conv => (arg 1; reduce)); with_reducible repeat' (first | exact Tr.yes_h | refine Tr.and_h ?_ ?_ | refine Tr.imp_h fun _ => ?_ | refine Tr.all_h fun _ => ?_ | refine Tr.lf_h ?_))
    all_goals (first | first | (show Region.lexB _ _ = true; kernel_rfl) | (show planned _ _ = true; kernel_rfl) | exact rfl | exact True.intro | ((try dsimp only [imp, C0, cG, cInt, cPl, cSlot, cPg, rwCodec, cRaw] at *); (try refine inR64 ?_ ?_) <;> (try simp only [List.length_set, List.length_append, List.length_take, List.length_drop]) <;> omega))
  all_goals try (
    rename_i h0 v hv h1
    change Nat at v
    have h0 := of_decide_eq_false h0
    have h1 := of_decide_eq_true h1
    first
      | (exact on_of ho (by omega))
      | (exact on_of ho' (by omega))
      | (show (v : Int) < (n : Int); omega)
      | (show (v : Int) < (n' : Int); omega)
      | (show (v : Int).toNat < l.length; omega)
      | (show (v : Int).toNat < l'.length; omega)
      | (show (v : Int).toNat + 0 < l.length; omega)
      | (show (v : Int).toNat + 0 < l'.length; omega))
  · rename_i h0 v hv h1 h2
    change Nat at v
    have h1' := of_decide_eq_true h1
    have h0' := of_decide_eq_false h0
    refine (ieq_no fun he => ?_).symm
    have hc := congrArg (fun L : List Int => L.getD v 0) he
    simp only [tk_at (l := l) (n := n) (v := v) (by omega), tk_at (l := l') (n := n') (v := v) (by omega)] at hc
    have h2 : (!decide (l.getD v 0 = l'.getD v 0)) = true := h2
    rw [decide_eq_true hc] at h2
    cases h2
  · rename_i h0 v hv h1 h2
    change Nat at v
    have h1' := of_decide_eq_true h1
    have h0' := of_decide_eq_false h0
    exact inR64 (by show _ ≤ (v : Int) + 1; omega) (by show (v : Int) + 1 ≤ _; omega)
  · rename_i h0 v hv h1 h2
    change Nat at v
    have h1' := of_decide_eq_true h1
    have h0' := of_decide_eq_false h0
    have h2 : (!decide (l.getD v 0 = l'.getD v 0)) = false := h2
    have h2 := of_decide_eq_true (by simpa using h2 : decide (l.getD v 0 = l'.getD v 0) = true)
    refine Stands.one (Nat.succ v) ⟨⟨by show v + 1 ≤ n; omega, ?_⟩, ?_, ?_⟩
    · show (l.take n).take (v + 1) = (l'.take n').take (v + 1)
      rw [take_snoc (d := 0) (by rw [tk_len h]; omega), take_snoc (d := 0) (by rw [tk_len h']; omega), tk_at (by omega), tk_at (by omega), h2, hv.2]
    · show n - (v + 1) < n - v
      omega
    ((conv => (arg 1; reduce)); with_reducible repeat' (first | exact Tr.yes_h | refine Tr.and_h ?_ ?_ | refine Tr.imp_h fun _ => ?_ | refine Tr.all_h fun _ => ?_ | refine Tr.lf_h ?_))
    all_goals (first | first | (show Region.lexB _ _ = true; kernel_rfl) | (show planned _ _ = true; kernel_rfl) | exact rfl | exact True.intro | ((try dsimp only [imp, C0, cG, cInt, cPl, cSlot, cPg, rwCodec, cRaw] at *); (try refine inR64 ?_ ?_) <;> (try simp only [List.length_set, List.length_append, List.length_take, List.length_drop]) <;> omega))
  · rename_i h0 v hv h1
    change Nat at v
    have h1' := of_decide_eq_false h1
    have h0' := of_decide_eq_false h0
    have hn : n = n' := by omega
    subst hn
    have he := hv.2
    have e1 : (l.take n).take v = l.take n := List.take_of_length_le (by rw [tk_len h]; omega)
    have e2 : (l'.take n).take v = l'.take n := List.take_of_length_le (by rw [tk_len h']; omega)
    exact (ieq_yes (e1.symm.trans (he.trans e2))).symm
def pcSameInts : Pc Tryd.prog C0 where
  tg := .fn 45
  X := (Bool × Nat × Nat × List Int × Nat × Nat) × (Bool × Nat × Nat × List Int × Nat × Nat)
  args := fun ((o, b, q, l, n, c), (o', b', q', l', n', c')) => [.sl 0 0 n c, .sl 1 0 n' c']
  mem := fun ((o, b, q, l, n, c), (o', b', q', l', n', c')) => [⟨b, q, 1, false, some o, .rows 3 l⟩, ⟨b', q', 1, false, some o', .rows 3 l'⟩]
  pre := fun ((o, b, q, l, n, c), (o', b', q', l', n', c')) => n ≤ l.length ∧ n' ≤ l'.length ∧ n < 140737488355000 ∧ (o = false → n = 0 ∧ c = 0) ∧ (o' = false → n' = 0 ∧ c' = 0)
  res := fun ((o, b, q, l, n, c), (o', b', q', l', n', c')) => .bool (.tm (ieq (l.take n) (l'.take n')))
  mat vs m := match vs with
    | [.sl a 0 n c, .sl a' 0 n' c'] => match nth m a, nth m a' with
      | ⟨b, q, _, _, g, .rows 3 l⟩, ⟨b', q', _, _, g', .rows 3 l'⟩ => some (((onOf g, b, q, l, n, c), (onOf g', b', q', l', n', c')), [a, a'])
      | _, _ => none
    | [.nils, .sl a' 0 n' c'] => match nth m a' with
      | ⟨b', q', _, _, g', .rows 3 l'⟩ => some (((false, 0, 0, [], 0, 0), (onOf g', b', q', l', n', c')), [m.length, a'])
      | _ => none
    | [.sl a 0 n c, .nils] => match nth m a with
      | ⟨b, q, _, _, g, .rows 3 l⟩ => some (((onOf g, b, q, l, n, c), (false, 0, 0, [], 0, 0)), [a, m.length])
      | _ => none
    | _ => none
  ok := fun ((o, b, q, l, n, c), (o', b', q', l', n', c')) h => SameInts_ok o b q l n c o' b' q' l' n' c' h.1 h.2.1 h.2.2.1 h.2.2.2.1 h.2.2.2.2
def eqSlot (a b : Slot) : Bool := decide (a.key = b.key) && (decide (a.pl.1 = b.pl.1) && decide (a.pl.2 = b.pl.2)) && eqMe a.me b.me
theorem eqMe_iff {a b : Me} : eqMe a b = true ↔ a = b := by
  obtain ⟨a1, a2, a3, a4, a5, a6⟩ := a
  obtain ⟨b1, b2, b3, b4, b5, b6⟩ := b
  simp [eqMe, and_assoc]
theorem eqSlot_iff {a b : Slot} : eqSlot a b = true ↔ a = b := by
  obtain ⟨a1, ⟨a2, a3⟩, a4⟩ := a
  obtain ⟨b1, ⟨b2, b3⟩, b4⟩ := b
  simp [eqSlot, eqMe_iff, and_assoc]
/-- Are they one list. -/
def lEqB : List Slot → List Slot → Bool
  | [], [] => true
  | a :: r, b :: s => eqSlot a b && lEqB r s
  | _, _ => false
theorem lEqB_iff : ∀ {a b : List Slot}, lEqB a b = true ↔ a = b
  | [], [] => by simp [lEqB]
  | [], _ :: _ => by simp [lEqB]
  | _ :: _, [] => by simp [lEqB]
  | a :: r, b :: s => by
    rw [lEqB, Bool.and_eq_true, eqSlot_iff, lEqB_iff, List.cons.injEq]
@[irreducible] def lEq (a b : List Slot) : Bool := lEqB a b
theorem lEq_iff {a b : List Slot} : lEq a b = true ↔ a = b := by unfold lEq; exact lEqB_iff
theorem lEq_no {a b : List Slot} (h : a ≠ b) : lEq a b = false := by
  cases hh : lEq a b with
  | false => rfl
  | true => exact (h (lEq_iff.1 hh)).elim
theorem lEq_yes {a b : List Slot} (h : a = b) : lEq a b = true := lEq_iff.2 h
/-- The test of one round. -/
theorem ne_slot {a b : Slot} : (decide (a.key ≠ b.key) || (!(decide (a.pl.1 = b.pl.1) && decide (a.pl.2 = b.pl.2))) || (!eqMe a.me b.me)) = !eqSlot a b := by
  unfold eqSlot
  by_cases h : a.key = b.key <;> simp [h, Bool.not_and]
set_option maxHeartbeats 8000000 in
theorem SameSlots_ok (o : Bool) (b q : Nat) (l : List Slot) (n c : Nat) (o' : Bool) (b' q' : Nat) (l' : List Slot) (n' c' : Nat) (h : n ≤ l.length) (h' : n' ≤ l'.length) (hs : n < 140737488355000) (ho : o = false → n = 0 ∧ c = 0) (ho' : o' = false → n' = 0 ∧ c' = 0) :
    Tells (C := C0) Tryd.prog (.fn 46) [⟨b, q, 9, false, some o, .rows 74 l⟩, ⟨b', q', 9, false, some o', .rows 74 l'⟩] [.sl 0 0 n c, .sl 1 0 n' c'] (.bool (.tm (lEq (l.take n) (l'.take n')))) := by
  refine loc_pc (P := Tryd.prog) (E := ⟨[], [pcSamePlace, pcSameMeta], 60, [(6, [0, 1], [.p 0, .p 1, .p 2, .p 3, .p 4, .p 5, .p 6, .p 7, .p 8, .p 9, .e 10, .p 11]), (7, [0, 1], [.p 0, .p 1, .p 2, .p 3, .p 4, .p 5, .p 6, .p 7, .p 8, .p 9, .e 10, .p 11])], [], []⟩) (L := [Sm (l.take n) (l'.take n') n]) mix Tryd.func46 rfl (by kernel_rfl) (by kernel_rfl) rfl rfl ?_
  ((conv => (arg 1; reduce)); with_reducible repeat' (first | exact Tr.yes_h | refine Tr.and_h ?_ ?_ | refine Tr.imp_h fun _ => ?_ | refine Tr.all_h fun _ => ?_ | refine Tr.lf_h ?_))
  all_goals try (first | first | (show Region.lexB _ _ = true; kernel_rfl) | (show planned _ _ = true; kernel_rfl) | exact rfl | exact True.intro | ((try dsimp only [imp, C0, cG, cInt, cPl, cSlot, cPg, rwCodec, cRaw] at *); (try refine inR64 ?_ ?_) <;> (try simp only [List.length_set, List.length_append, List.length_take, List.length_drop]) <;> omega))
  · rename_i h0
    have h0 := of_decide_eq_true h0
    refine (lEq_no fun he => h0 ?_).symm
    have := congrArg List.length he
    rw [tk_len h, tk_len h'] at this
    omega
  · rename_i h0
    refine Stands.one (0 : Nat) ⟨⟨Nat.zero_le _, rfl⟩, ?_⟩
    ((conv => (arg 1; reduce)); with_reducible repeat' (first | exact Tr.yes_h | refine Tr.and_h ?_ ?_ | refine Tr.imp_h fun _ => ?_ | refine Tr.all_h fun _ => ?_ | refine Tr.lf_h ?_))
    all_goals (first | first | (show Region.lexB _ _ = true; kernel_rfl) | (show planned _ _ = true; kernel_rfl) | exact rfl | exact True.intro | ((try dsimp only [imp, C0, cG, cInt, cPl, cSlot, cPg, rwCodec, cRaw] at *); (try refine inR64 ?_ ?_) <;> (try simp only [List.length_set, List.length_append, List.length_take, List.length_drop]) <;> omega))
  all_goals try (
    rename_i h0 v hv h1
    change Nat at v
    have h0 := of_decide_eq_false h0
    have h1 := of_decide_eq_true h1
    first
      | (exact on_of ho (by omega))
      | (exact on_of ho' (by omega))
      | (show (v : Int) < (n : Int); omega)
      | (show (v : Int) < (n' : Int); omega)
      | (show (v : Int).toNat < l.length; omega)
      | (show (v : Int).toNat < l'.length; omega)
      | (show (v : Int).toNat + 0 < l.length; omega)
      | (show (v : Int).toNat + 0 < l'.length; omega))
  · rename_i h0 v hv h1 h2
    change Nat at v
    have h1' := of_decide_eq_true h1
    have h0' := of_decide_eq_false h0
    refine (lEq_no fun he => ?_).symm
    have hc := congrArg (fun L : List Slot => L.getD v slot0) he
    simp only [tk_at (l := l) (n := n) (v := v) (by omega), tk_at (l := l') (n := n') (v := v) (by omega)] at hc
    have h2 := ne_slot.symm.trans h2
    have h2 : (!eqSlot (l.getD v slot0) (l'.getD v slot0)) = true := h2
    rw [eqSlot_iff.2 hc] at h2
    cases h2
  · rename_i h0 v hv h1 h2
    change Nat at v
    have h1' := of_decide_eq_true h1
    have h0' := of_decide_eq_false h0
    exact inR64 (by show _ ≤ (v : Int) + 1; omega) (by show (v : Int) + 1 ≤ _; omega)
  · rename_i h0 v hv h1 h2
    change Nat at v
    have h1' := of_decide_eq_true h1
    have h0' := of_decide_eq_false h0
    have h2 := ne_slot.symm.trans h2
    have h2 : (!eqSlot (l.getD v slot0) (l'.getD v slot0)) = false := h2
    have h2 := eqSlot_iff.1 (by simpa using h2 : eqSlot (l.getD v slot0) (l'.getD v slot0) = true)
    refine Stands.one (Nat.succ v) ⟨⟨by show v + 1 ≤ n; omega, ?_⟩, ?_, ?_⟩
    · show (l.take n).take (v + 1) = (l'.take n').take (v + 1)
      rw [take_snoc (d := slot0) (by rw [tk_len h]; omega), take_snoc (d := slot0) (by rw [tk_len h']; omega), tk_at (by omega), tk_at (by omega), h2, hv.2]
    · show n - (v + 1) < n - v
      omega
    ((conv => (arg 1; reduce)); with_reducible repeat' (first | exact Tr.yes_h | refine Tr.and_h ?_ ?_ | refine Tr.imp_h fun _ => ?_ | refine Tr.all_h fun _ => ?_ | refine Tr.lf_h ?_))
    all_goals (first | first | (show Region.lexB _ _ = true; kernel_rfl) | (show planned _ _ = true; kernel_rfl) | exact rfl | exact True.intro | ((try dsimp only [imp, C0, cG, cInt, cPl, cSlot, cPg, rwCodec, cRaw] at *); (try refine inR64 ?_ ?_) <;> (try simp only [List.length_set, List.length_append, List.length_take, List.length_drop]) <;> omega))
  · rename_i h0 v hv h1
    change Nat at v
    have h1' := of_decide_eq_false h1
    have h0' := of_decide_eq_false h0
    have hn : n = n' := by omega
    subst hn
    have he := hv.2
    have e1 : (l.take n).take v = l.take n := List.take_of_length_le (by rw [tk_len h]; omega)
    have e2 : (l'.take n).take v = l'.take n := List.take_of_length_le (by rw [tk_len h']; omega)
    exact (lEq_yes (e1.symm.trans (he.trans e2))).symm
def pcSameSlots : Pc Tryd.prog C0 where
  tg := .fn 46
  X := (Bool × Nat × Nat × List Slot × Nat × Nat) × (Bool × Nat × Nat × List Slot × Nat × Nat)
  args := fun ((o, b, q, l, n, c), (o', b', q', l', n', c')) => [.sl 0 0 n c, .sl 1 0 n' c']
  mem := fun ((o, b, q, l, n, c), (o', b', q', l', n', c')) => [⟨b, q, 9, false, some o, .rows 74 l⟩, ⟨b', q', 9, false, some o', .rows 74 l'⟩]
  pre := fun ((o, b, q, l, n, c), (o', b', q', l', n', c')) => n ≤ l.length ∧ n' ≤ l'.length ∧ n < 140737488355000 ∧ (o = false → n = 0 ∧ c = 0) ∧ (o' = false → n' = 0 ∧ c' = 0)
  res := fun ((o, b, q, l, n, c), (o', b', q', l', n', c')) => .bool (.tm (lEq (l.take n) (l'.take n')))
  mat vs m := match vs with
    | [.sl a 0 n c, .sl a' 0 n' c'] => match nth m a, nth m a' with
      | ⟨b, q, _, _, g, .rows 74 l⟩, ⟨b', q', _, _, g', .rows 74 l'⟩ => some (((onOf g, b, q, l, n, c), (onOf g', b', q', l', n', c')), [a, a'])
      | _, _ => none
    | [.nils, .sl a' 0 n' c'] => match nth m a' with
      | ⟨b', q', _, _, g', .rows 74 l'⟩ => some (((false, 0, 0, [], 0, 0), (onOf g', b', q', l', n', c')), [m.length, a'])
      | _ => none
    | [.sl a 0 n c, .nils] => match nth m a with
      | ⟨b, q, _, _, g, .rows 74 l⟩ => some (((onOf g, b, q, l, n, c), (false, 0, 0, [], 0, 0)), [a, m.length])
      | _ => none
    | _ => none
  ok := fun ((o, b, q, l, n, c), (o', b', q', l', n', c')) h => SameSlots_ok o b q l n c o' b' q' l' n' c' h.1 h.2.1 h.2.2.1 h.2.2.2.1 h.2.2.2.2
end Go.Vx
set_option linter.unusedSectionVars false
set_option maxRecDepth 100000
set_option linter.unusedVariables false
set_option linter.unusedSimpArgs false
namespace Go.Vx
open Go Go.Proofs
variable [Gl]

/-- Numbers of a point. -/
abbrev Hd := Int × Int × Int × Int
/-- A slice: is it there, where, what lies there, how many, how many can be. -/
abbrev Sq (α : Type) := Bool × Nat × Nat × List α × Nat × Nat
def Sq.ok {α : Type} (s : Sq α) : Prop := s.2.2.2.2.1 ≤ s.2.2.2.2.2 ∧ s.2.2.2.2.1 ≤ s.2.2.2.1.length ∧ (s.1 = false → s.2.2.2.2.1 = 0 ∧ s.2.2.2.2.2 = 0)
def Sq.li {α : Type} (s : Sq α) : List α := s.2.2.2.1.take s.2.2.2.2.1
/-- A row that is a slice, az it can be. -/
def Rok {α : Type} (r : Rw α) : Prop := (r.on = false → r.l.length = 0 ∧ r.m = 0) ∧ r.l.length ≤ r.m ∧ r.l.length < 140737488355000
abbrev ptv (h : Hd) (a b : SV) : SV := .agg [.int .i64 h.1, .int .i64 h.2.1, .int .i64 h.2.2.1, .int .i64 h.2.2.2, a, b]
/-- Is a point fair. -/
@[irreducible] def fr (A : List (Rw Int)) (k : Nat) : Bool := decide (A.length ≤ 70) && decide (k ≤ 100) && A.all fun r => decide (r.l.length = 2)
theorem fr_big {A : List (Rw Int)} {k : Nat} (h : 70 < A.length ∨ 100 < k) : fr A k = false := by
  cases hf : fr A k with
  | false => rfl
  | true =>
    unfold fr at hf
    simp only [Bool.and_eq_true, decide_eq_true_iff] at hf
    omega
theorem fr_row {A : List (Rw Int)} {k : Nat} {r : Rw Int} (h : r ∈ A) (hl : r.l.length ≠ 2) : fr A k = false := by
  cases hf : fr A k with
  | false => rfl
  | true =>
    unfold fr at hf
    simp only [Bool.and_eq_true, List.all_eq_true, decide_eq_true_iff] at hf
    exact (hl (hf.2 r h)).elim
theorem fr_iff {A : List (Rw Int)} {k : Nat} : fr A k = true ↔ A.length ≤ 70 ∧ k ≤ 100 ∧ ∀ r ∈ A, r.l.length = 2 := by
  unfold fr
  simp only [Bool.and_eq_true, List.all_eq_true, decide_eq_true_iff, and_assoc]
theorem fr_yes {A : List (Rw Int)} {k : Nat} (h : A.length ≤ 70) (h2 : k ≤ 100) (h3 : ∀ r ∈ A, r.l.length = 2) : fr A k = true := fr_iff.2 ⟨h, h2, h3⟩
def Fr (A : List (Rw Int)) : Inv' C0 := ⟨4, Nat, fun i => [(3, .int .i64 (i : Int))], fun _ m => m, fun i => i ≤ A.length ∧ ∀ r ∈ A.take i, r.l.length = 2, fun i => A.length - i⟩
theorem fair_ok (h : Hd) (o : Bool) (b q : Nat) (l : List (Rw Int)) (n c : Nat) (o' : Bool) (b' q' : Nat) (l' : List Slot) (n' c' : Nat) (h1 : n ≤ l.length) (ho : o = false → n = 0 ∧ c = 0) :
    Tells (C := C0) Tryd.prog (.fn 9) [⟨b, q, 1, false, some o, .rows 71 l⟩, ⟨b', q', 9, false, some o', .rows 74 l'⟩] [ptv h (.sl 0 0 n c) (.sl 1 0 n' c')] (.bool (.tm (fr (l.take n) n'))) := by
  refine loc_pc (P := Tryd.prog) (E := ⟨[], [], 28, [], [fI], []⟩) (L := [Fr (l.take n)]) mix Tryd.func9 rfl (by kernel_rfl) (by kernel_rfl) rfl rfl ?_
  ((conv => (arg 1; reduce)); with_reducible repeat' (first | exact Tr.yes_h | refine Tr.and_h ?_ ?_ | refine Tr.imp_h fun _ => ?_ | refine Tr.all_h fun _ => ?_ | refine Tr.lf_h ?_))
  all_goals try (first | first | (show Region.lexB _ _ = true; kernel_rfl) | (show planned _ _ = true; kernel_rfl) | exact rfl | exact True.intro | ((try dsimp only [imp, C0, cG, cInt, cPl, cSlot, cPg, rwCodec, cRaw] at *); (try refine inR64 ?_ ?_) <;> (try simp only [List.length_set, List.length_append, List.length_take, List.length_drop]) <;> omega))
  · rename_i b0 h0
    refine (fr_big ?_).symm
    have h0 : (decide (70 < (n : Int)) || decide (100 < (n' : Int))) = true := h0
    simp only [Bool.or_eq_true, decide_eq_true_iff] at h0
    rw [tk_len h1]
    omega
  · rename_i b0 h0
    refine Stands.one (0 : Nat) ⟨⟨Nat.zero_le _, by simp⟩, ?_⟩
    ((conv => (arg 1; reduce)); with_reducible repeat' (first | exact Tr.yes_h | refine Tr.and_h ?_ ?_ | refine Tr.imp_h fun _ => ?_ | refine Tr.all_h fun _ => ?_ | refine Tr.lf_h ?_))
    all_goals (first | first | (show Region.lexB _ _ = true; kernel_rfl) | (show planned _ _ = true; kernel_rfl) | exact rfl | exact True.intro | ((try dsimp only [imp, C0, cG, cInt, cPl, cSlot, cPg, rwCodec, cRaw] at *); (try refine inR64 ?_ ?_) <;> (try simp only [List.length_set, List.length_append, List.length_take, List.length_drop]) <;> omega))
  · rename_i b0 h0 v hv h2
    change Nat at v
    have h2 := of_decide_eq_true h2
    exact on_of ho (by omega)
  · rename_i b0 h0 v hv h2
    exact of_decide_eq_true h2
  · rename_i b0 h0 v hv h2
    change Nat at v
    have h2 := of_decide_eq_true h2
    exact on_of ho (by omega)
  · rename_i b0 h0 v hv h2
    change Nat at v
    have h2 := of_decide_eq_true h2
    show (v : Int).toNat + 0 < l.length
    omega
  · rename_i b0 h0 v hv h2 r hr h3
    change Nat at v
    have h2 := of_decide_eq_true h2
    change Rw Int at r
    have h3 : ((r.l.length : Nat) : Int) ≠ 2 := of_decide_eq_true h3
    refine (fr_row (r := r) ?_ (by omega)).symm
    have hr : l.getD v Rw.nil = r := hr
    rw [List.getD_eq_getElem?_getD, List.getElem?_eq_getElem (by omega), Option.getD_some] at hr
    rw [← hr, List.mem_take_iff_getElem]
    exact ⟨v, by omega, rfl⟩
  · rename_i b0 h0 v hv h2 r hr h3
    change Nat at v
    have h2 := of_decide_eq_true h2
    have h0 : (decide (70 < (n : Int)) || decide (100 < (n' : Int))) = false := h0
    simp only [Bool.or_eq_false_iff, decide_eq_false_iff_not] at h0
    exact inR64 (by show _ ≤ (v : Int) + 1; omega) (by show (v : Int) + 1 ≤ _; omega)
  · rename_i b0 h0 v hv h2 r hr h3
    change Nat at v
    have h2 := of_decide_eq_true h2
    change Rw Int at r
    have h3 : ¬ ((r.l.length : Nat) : Int) ≠ 2 := of_decide_eq_false h3
    obtain ⟨e1, e2⟩ := hv
    have hr : l.getD v Rw.nil = r := hr
    refine Stands.one (v + 1 : Nat) ⟨⟨by rw [tk_len h1]; omega, ?_⟩, ?_, ?_⟩
    · intro r2 hr2
      have hr2 : r2 ∈ (l.take n).take (v + 1) := hr2
      rw [take_snoc (d := Rw.nil) (by rw [tk_len h1]; omega), tk_at (by omega), hr] at hr2
      rcases List.mem_append.1 hr2 with h4 | h4
      · exact e2 r2 h4
      · rw [List.mem_singleton.1 h4]; omega
    · show (l.take n).length - (v + 1) < (l.take n).length - v
      rw [tk_len h1]; omega
    ((conv => (arg 1; reduce)); with_reducible repeat' (first | exact Tr.yes_h | refine Tr.and_h ?_ ?_ | refine Tr.imp_h fun _ => ?_ | refine Tr.all_h fun _ => ?_ | refine Tr.lf_h ?_))
    all_goals (first | first | (show Region.lexB _ _ = true; kernel_rfl) | (show planned _ _ = true; kernel_rfl) | exact rfl | exact True.intro | ((try dsimp only [imp, C0, cG, cInt, cPl, cSlot, cPg, rwCodec, cRaw] at *); (try refine inR64 ?_ ?_) <;> (try simp only [List.length_set, List.length_append, List.length_take, List.length_drop]) <;> omega))
  · rename_i b0 h0 v hv h2
    change Nat at v
    have h2 := of_decide_eq_false h2
    obtain ⟨e1, e2⟩ := hv
    have h0 : (decide (70 < (n : Int)) || decide (100 < (n' : Int))) = false := h0
    simp only [Bool.or_eq_false_iff, decide_eq_false_iff_not] at h0
    rw [List.take_of_length_le (by rw [tk_len h1]; omega)] at e2
    exact (fr_yes (by rw [tk_len h1]; omega) (by omega) e2).symm
def pcFair : Pc Tryd.prog C0 where
  tg := .fn 9
  X := Hd × Sq (Rw Int) × Sq Slot
  args := fun (h, (o, b, q, l, n, c), (o', b', q', l', n', c')) => [ptv h (.sl 0 0 n c) (.sl 1 0 n' c')]
  mem := fun (h, (o, b, q, l, n, c), (o', b', q', l', n', c')) => [⟨b, q, 1, false, some o, .rows 71 l⟩, ⟨b', q', 9, false, some o', .rows 74 l'⟩]
  pre := fun (h, (o, b, q, l, n, c), (o', b', q', l', n', c')) => n ≤ l.length ∧ (o = false → n = 0 ∧ c = 0)
  res := fun (h, (o, b, q, l, n, c), (o', b', q', l', n', c')) => .bool (.tm (fr (l.take n) n'))
  mat vs m := match vs with
    | [.agg [.int _ h1, .int _ h2, .int _ h3, .int _ h4, .sl a 0 n c, .sl a' 0 n' c']] => match nth m a, nth m a' with
      | ⟨b, q, _, _, g, .rows 71 l⟩, ⟨b', q', _, _, g', .rows 74 l'⟩ => some (((h1, h2, h3, h4), (onOf g, b, q, l, n, c), (onOf g', b', q', l', n', c')), [a, a'])
      | _, _ => none
    | _ => none
  ok := fun (h, (o, b, q, l, n, c), (o', b', q', l', n', c')) x => fair_ok h o b q l n c o' b' q' l' n' c' x.1 x.2
/-- Are points the same. -/
@[irreducible] def smP (h h' : Hd) (A A' : List (Rw Int)) (S S' : List Slot) : Bool := decide (h = h') && decide (A.map (·.l) = A'.map (·.l)) && lEq S S'
theorem smP_iff {h h' : Hd} {A A' : List (Rw Int)} {S S' : List Slot} : smP h h' A A' S S' = true ↔ h = h' ∧ A.map (·.l) = A'.map (·.l) ∧ S = S' := by
  unfold smP
  simp only [Bool.and_eq_true, decide_eq_true_iff, lEq_iff, and_assoc]
theorem hd_ne {h h' : Hd} {n n' : Nat} : (decide (h.1 ≠ h'.1) || decide (h.2.1 ≠ h'.2.1) || decide (h.2.2.1 ≠ h'.2.2.1) || decide (h.2.2.2 ≠ h'.2.2.2) || decide ((n : Int) ≠ (n' : Int))) = !decide (h = h' ∧ n = n') := by
  obtain ⟨a1, a2, a3, a4⟩ := h
  obtain ⟨b1, b2, b3, b4⟩ := h'
  simp only [Prod.mk.injEq]
  by_cases g1 : a1 = b1 <;> by_cases g2 : a2 = b2 <;> by_cases g3 : a3 = b3 <;> by_cases g4 : a4 = b4 <;> by_cases g5 : n = n' <;> simp [g1, g2, g3, g4, g5] <;> omega
theorem row_mem {l : List (Rw Int)} {n v : Nat} {r : Rw Int} (hv : v < n) (h : n ≤ l.length) (hr : l.getD v Rw.nil = r) : r ∈ l.take n := by
  rw [List.getD_eq_getElem?_getD, List.getElem?_eq_getElem (by omega), Option.getD_some] at hr
  rw [← hr, List.mem_take_iff_getElem]
  exact ⟨v, by omega, rfl⟩
def Sp (A A' : List (Rw Int)) (n : Nat) : Inv' C0 := ⟨4, Nat, fun i => [(5, .int .i64 (i : Int))], fun _ m => m, fun i => i ≤ n ∧ (A.take i).map (·.l) = (A'.take i).map (·.l), fun i => n - i⟩
set_option maxHeartbeats 8000000 in
theorem same_ok (h : Hd) (o : Bool) (b q : Nat) (l : List (Rw Int)) (n c : Nat) (o2 : Bool) (b2 q2 : Nat) (l2 : List Slot) (n2 c2 : Nat)
    (h' : Hd) (o' : Bool) (b' q' : Nat) (l' : List (Rw Int)) (n' c' : Nat) (o2' : Bool) (b2' q2' : Nat) (l2' : List Slot) (n2' c2' : Nat)
    (h1 : Sq.ok (o, b, q, l, n, c)) (h2 : Sq.ok (o2, b2, q2, l2, n2, c2)) (h1' : Sq.ok (o', b', q', l', n', c')) (h2' : Sq.ok (o2', b2', q2', l2', n2', c2'))
    (hr : ∀ r ∈ l.take n, Rok r) (hr' : ∀ r ∈ l'.take n', Rok r) (hn : n < 140737488355000) (hn2 : n2 < 140737488355000) :
    Tells (C := C0) Tryd.prog (.fn 18) [⟨b, q, 1, false, some o, .rows 71 l⟩, ⟨b2, q2, 9, false, some o2, .rows 74 l2⟩, ⟨b', q', 1, false, some o', .rows 71 l'⟩, ⟨b2', q2', 9, false, some o2', .rows 74 l2'⟩]
      [ptv h (.sl 0 0 n c) (.sl 1 0 n2 c2), ptv h' (.sl 2 0 n' c') (.sl 3 0 n2' c2')] (.bool (.tm (smP h h' (l.take n) (l'.take n') (l2.take n2) (l2'.take n2')))) := by
  refine loc_pc (P := Tryd.prog) (E := ⟨[], [pcSameInts, pcSameSlots], 65, [(6, [], [.p 0, .p 2, .p 5, .p 7, .q 1, .p 3, .q 4, .q 6, .p 8, .q 9, .e 10, .p 11])], [fI], []⟩) (L := [Sp (l.take n) (l'.take n') n]) mix Tryd.func18 rfl (by kernel_rfl) (by kernel_rfl) rfl rfl ?_
  ((conv => (arg 1; reduce)); with_reducible repeat' (first | exact Tr.yes_h | refine Tr.and_h ?_ ?_ | refine Tr.imp_h fun _ => ?_ | refine Tr.all_h fun _ => ?_ | refine Tr.lf_h ?_))
  all_goals try (first | first | (show Region.lexB _ _ = true; kernel_rfl) | (show planned _ _ = true; kernel_rfl) | exact rfl | exact True.intro | ((try dsimp only [imp, C0, cG, cInt, cPl, cSlot, cPg, rwCodec, cRaw] at *); (try refine inR64 ?_ ?_) <;> (try simp only [List.length_set, List.length_append, List.length_take, List.length_drop]) <;> omega))
  all_goals first
    | (rename_i b0 b1 h0 v hv h3; exact on_of h1.2.2 (Nat.lt_of_le_of_lt (Nat.zero_le v) (Int.ofNat_lt.1 (of_decide_eq_true h3))))
    | (rename_i b0 b1 h0 v hv h3; exact of_decide_eq_true h3)
    | skip
  · rename_i b0 b1 h0
    refine (Eq.symm (Bool.eq_false_iff.2 fun hs => ?_))
    obtain ⟨e1, e2, e3⟩ := smP_iff.1 hs
    have e2 := congrArg List.length e2
    rw [List.length_map, List.length_map, tk_len (h1.2.1), tk_len (h1'.2.1)] at e2
    have e2 : n = n' := e2
    have h0 := (hd_ne (h := h) (h' := h') (n := n) (n' := n')).symm.trans h0
    rw [decide_eq_true (show h = h' ∧ n = n' from ⟨e1, e2⟩)] at h0
    cases h0
  · rename_i b0 b1 h0
    refine Stands.one (0 : Nat) ⟨⟨Nat.zero_le _, rfl⟩, ?_⟩
    ((conv => (arg 1; reduce)); with_reducible repeat' (first | exact Tr.yes_h | refine Tr.and_h ?_ ?_ | refine Tr.imp_h fun _ => ?_ | refine Tr.all_h fun _ => ?_ | refine Tr.lf_h ?_))
    all_goals (first | first | (show Region.lexB _ _ = true; kernel_rfl) | (show planned _ _ = true; kernel_rfl) | exact rfl | exact True.intro | ((try dsimp only [imp, C0, cG, cInt, cPl, cSlot, cPg, rwCodec, cRaw] at *); (try refine inR64 ?_ ?_) <;> (try simp only [List.length_set, List.length_append, List.length_take, List.length_drop]) <;> omega))
  · rename_i b0 b1 h0 v hv h3
    change Nat at v
    have h3 := of_decide_eq_true h3
    have := h1.1; have := h1.2.1
    show (v : Int).toNat + 0 < l.length
    simp only at *
    omega
  · rename_i b0 b1 h0 v hv h3 r hr1
    change Nat at v
    have h3 := of_decide_eq_true h3
    have h0 := (hd_ne (h := h) (h' := h') (n := n) (n' := n')).symm.trans h0
    obtain ⟨hh, hnn⟩ : h = h' ∧ n = n' := of_decide_eq_true (by simpa using h0)
    subst hnn
    have a1 := h1.1; have a2 := h1.2.1; have a1' := h1'.1; have a2' := h1'.2.1
    simp only at a1 a2 a1' a2'
    exact on_of h1'.2.2 (by simp only; omega)
  · rename_i b0 b1 h0 v hv h3 r hr1
    change Nat at v
    have h3 := of_decide_eq_true h3
    have h0 := (hd_ne (h := h) (h' := h') (n := n) (n' := n')).symm.trans h0
    obtain ⟨hh, hnn⟩ : h = h' ∧ n = n' := of_decide_eq_true (by simpa using h0)
    subst hnn
    have a1 := h1.1; have a2 := h1.2.1; have a1' := h1'.1; have a2' := h1'.2.1
    simp only at a1 a2 a1' a2'
    exact h3
  · rename_i b0 b1 h0 v hv h3 r hr1
    change Nat at v
    have h3 := of_decide_eq_true h3
    have h0 := (hd_ne (h := h) (h' := h') (n := n) (n' := n')).symm.trans h0
    obtain ⟨hh, hnn⟩ : h = h' ∧ n = n' := of_decide_eq_true (by simpa using h0)
    subst hnn
    have a1 := h1.1; have a2 := h1.2.1; have a1' := h1'.1; have a2' := h1'.2.1
    simp only at a1 a2 a1' a2'
    exact on_of h1'.2.2 (by simp only; omega)
  · rename_i b0 b1 h0 v hv h3 r hr1
    change Nat at v
    have h3 := of_decide_eq_true h3
    have h0 := (hd_ne (h := h) (h' := h') (n := n) (n' := n')).symm.trans h0
    obtain ⟨hh, hnn⟩ : h = h' ∧ n = n' := of_decide_eq_true (by simpa using h0)
    subst hnn
    have a1 := h1.1; have a2 := h1.2.1; have a1' := h1'.1; have a2' := h1'.2.1
    simp only at a1 a2 a1' a2'
    show (v : Int).toNat + 0 < l'.length
    omega
  · rename_i b0 b1 h0 v hv h3 r hr1 r' hr1'
    change Nat at v
    have h3 := of_decide_eq_true h3
    have h0 := (hd_ne (h := h) (h' := h') (n := n) (n' := n')).symm.trans h0
    obtain ⟨hh, hnn⟩ : h = h' ∧ n = n' := of_decide_eq_true (by simpa using h0)
    subst hnn
    have a1 := h1.1; have a2 := h1.2.1; have a1' := h1'.1; have a2' := h1'.2.1
    simp only at a1 a2 a1' a2'
    have g1 := hr r (row_mem (v := v) (by omega) (by omega) hr1)
    have g2 := hr' r' (row_mem (v := v) (by omega) (by omega) hr1')
    exact ⟨Nat.le_refl _, Nat.le_refl _, g1.2.2, g1.1, g2.1⟩
  · rename_i b0 b1 h0 v hv h3 r hr1 r' hr1' h4
    change Nat at v
    have h3 := of_decide_eq_true h3
    have h0 := (hd_ne (h := h) (h' := h') (n := n) (n' := n')).symm.trans h0
    obtain ⟨hh, hnn⟩ : h = h' ∧ n = n' := of_decide_eq_true (by simpa using h0)
    subst hnn
    have a1 := h1.1; have a2 := h1.2.1; have a1' := h1'.1; have a2' := h1'.2.1
    simp only at a1 a2 a1' a2'
    change Rw Int at r
    change Rw Int at r'
    have hr1 : l.getD v Rw.nil = r := hr1
    have hr1' : l'.getD v Rw.nil = r' := hr1'
    refine (Eq.symm (Bool.eq_false_iff.2 fun hs => ?_))
    obtain ⟨e1, e2, e3⟩ := smP_iff.1 hs
    have hc := congrArg (fun L : List (List Int) => L.getD v []) e2
    simp only [List.getD_eq_getElem?_getD, List.getElem?_map, List.getElem?_take_of_lt (show v < n by omega)] at hc hr1 hr1'
    rw [List.getElem?_eq_getElem (show v < l.length by omega), List.getElem?_eq_getElem (show v < l'.length by omega)] at hc
    rw [List.getElem?_eq_getElem (show v < l.length by omega), Option.getD_some] at hr1
    rw [List.getElem?_eq_getElem (show v < l'.length by omega), Option.getD_some] at hr1'
    simp only [Option.map_some, Option.getD_some, hr1, hr1'] at hc
    have h4 : (!ieq (r.l.take r.l.length) (r'.l.take r'.l.length)) = true := h4
    rw [List.take_length, List.take_length, ieq_yes hc] at h4
    cases h4
  · rename_i b0 b1 h0 v hv h3 r hr1 r' hr1' h4
    change Nat at v
    have h3 := of_decide_eq_true h3
    have h0 := (hd_ne (h := h) (h' := h') (n := n) (n' := n')).symm.trans h0
    obtain ⟨hh, hnn⟩ : h = h' ∧ n = n' := of_decide_eq_true (by simpa using h0)
    subst hnn
    have a1 := h1.1; have a2 := h1.2.1; have a1' := h1'.1; have a2' := h1'.2.1
    simp only at a1 a2 a1' a2'
    exact inR64 (by show _ ≤ (v : Int) + 1; omega) (by show (v : Int) + 1 ≤ _; omega)
  · rename_i b0 b1 h0 v hv h3 r hr1 r' hr1' h4
    change Nat at v
    have h3 := of_decide_eq_true h3
    have h0 := (hd_ne (h := h) (h' := h') (n := n) (n' := n')).symm.trans h0
    obtain ⟨hh, hnn⟩ : h = h' ∧ n = n' := of_decide_eq_true (by simpa using h0)
    subst hnn
    have a1 := h1.1; have a2 := h1.2.1; have a1' := h1'.1; have a2' := h1'.2.1
    simp only at a1 a2 a1' a2'
    change Rw Int at r
    change Rw Int at r'
    have hr1 : l.getD v Rw.nil = r := hr1
    have hr1' : l'.getD v Rw.nil = r' := hr1'
    have h4 : (!ieq (r.l.take r.l.length) (r'.l.take r'.l.length)) = false := h4
    rw [List.take_length, List.take_length] at h4
    have h4 := ieq_iff.1 (by simpa using h4 : ieq r.l r'.l = true)
    refine Stands.one (v + 1 : Nat) ⟨⟨by show v + 1 ≤ n; omega, ?_⟩, ?_, ?_⟩
    · show ((l.take n).take (v + 1)).map (·.l) = ((l'.take n).take (v + 1)).map (·.l)
      rw [take_snoc (d := Rw.nil) (by rw [tk_len (by omega)]; omega), take_snoc (d := Rw.nil) (by rw [tk_len (by omega)]; omega), tk_at (by omega), tk_at (by omega), List.map_append, List.map_append, hv.2, hr1, hr1']
      simp only [List.map_cons, List.map_nil, h4]
    · show n - (v + 1) < n - v
      omega
    ((conv => (arg 1; reduce)); with_reducible repeat' (first | exact Tr.yes_h | refine Tr.and_h ?_ ?_ | refine Tr.imp_h fun _ => ?_ | refine Tr.all_h fun _ => ?_ | refine Tr.lf_h ?_))
    all_goals (first | first | (show Region.lexB _ _ = true; kernel_rfl) | (show planned _ _ = true; kernel_rfl) | exact rfl | exact True.intro | ((try dsimp only [imp, C0, cG, cInt, cPl, cSlot, cPg, rwCodec, cRaw] at *); (try refine inR64 ?_ ?_) <;> (try simp only [List.length_set, List.length_append, List.length_take, List.length_drop]) <;> omega))
  · exact ⟨h2.2.1, h2'.2.1, hn2, h2.2.2, h2'.2.2⟩
  · rename_i b0 b1 h0 v hv h3
    change Nat at v
    have h3 := of_decide_eq_false h3
    have h0 := (hd_ne (h := h) (h' := h') (n := n) (n' := n')).symm.trans h0
    obtain ⟨hh, hnn⟩ : h = h' ∧ n = n' := of_decide_eq_true (by simpa using h0)
    subst hnn
    have a1 := h1.1; have a2 := h1.2.1; have a1' := h1'.1; have a2' := h1'.2.1
    simp only at a1 a2 a1' a2'
    have e := hv.2
    have hvn := hv.1
    obtain rfl : v = n := by omega
    rw [List.take_of_length_le (l := l.take v) (by rw [tk_len (by omega)]; omega), List.take_of_length_le (l := l'.take v) (by rw [tk_len (by omega)]; omega)] at e
    show lEq _ _ = smP _ _ _ _ _ _
    unfold smP
    rw [decide_eq_true hh, decide_eq_true e]
    rfl
def pcSame : Pc Tryd.prog C0 where
  tg := .fn 18
  X := (Hd × Sq (Rw Int) × Sq Slot) × (Hd × Sq (Rw Int) × Sq Slot)
  args := fun ((h, (o, b, q, l, n, c), (o2, b2, q2, l2, n2, c2)), (h', (o', b', q', l', n', c'), (o2', b2', q2', l2', n2', c2'))) => [ptv h (.sl 0 0 n c) (.sl 1 0 n2 c2), ptv h' (.sl 2 0 n' c') (.sl 3 0 n2' c2')]
  mem := fun ((h, (o, b, q, l, n, c), (o2, b2, q2, l2, n2, c2)), (h', (o', b', q', l', n', c'), (o2', b2', q2', l2', n2', c2'))) => [⟨b, q, 1, false, some o, .rows 71 l⟩, ⟨b2, q2, 9, false, some o2, .rows 74 l2⟩, ⟨b', q', 1, false, some o', .rows 71 l'⟩, ⟨b2', q2', 9, false, some o2', .rows 74 l2'⟩]
  pre := fun ((h, (o, b, q, l, n, c), (o2, b2, q2, l2, n2, c2)), (h', (o', b', q', l', n', c'), (o2', b2', q2', l2', n2', c2'))) => Sq.ok (o, b, q, l, n, c) ∧ Sq.ok (o2, b2, q2, l2, n2, c2) ∧ Sq.ok (o', b', q', l', n', c') ∧ Sq.ok (o2', b2', q2', l2', n2', c2') ∧
    (∀ r ∈ l.take n, Rok r) ∧ (∀ r ∈ l'.take n', Rok r) ∧ n < 140737488355000 ∧ n2 < 140737488355000
  res := fun ((h, (o, b, q, l, n, c), (o2, b2, q2, l2, n2, c2)), (h', (o', b', q', l', n', c'), (o2', b2', q2', l2', n2', c2'))) => .bool (.tm (smP h h' (l.take n) (l'.take n') (l2.take n2) (l2'.take n2')))
  mat vs m := match vs with
    | [.agg [.int _ h1, .int _ h2, .int _ h3, .int _ h4, .sl a 0 n c, .sl a2 0 n2 c2], .agg [.int _ h1', .int _ h2', .int _ h3', .int _ h4', .sl a' 0 n' c', .sl a2' 0 n2' c2']] => match nth m a, nth m a2, nth m a', nth m a2' with
      | ⟨b, q, _, _, g, .rows 71 l⟩, ⟨b2, q2, _, _, g2, .rows 74 l2⟩, ⟨b', q', _, _, g', .rows 71 l'⟩, ⟨b2', q2', _, _, g2', .rows 74 l2'⟩ => some ((((h1, h2, h3, h4), (onOf g, b, q, l, n, c), (onOf g2, b2, q2, l2, n2, c2)), ((h1', h2', h3', h4'), (onOf g', b', q', l', n', c'), (onOf g2', b2', q2', l2', n2', c2'))), [a, a2, a', a2'])
      | _, _, _, _ => none
    | _ => none
  ok := fun ((h, (o, b, q, l, n, c), (o2, b2, q2, l2, n2, c2)), (h', (o', b', q', l', n', c'), (o2', b2', q2', l2', n2', c2'))) x =>
    same_ok h o b q l n c o2 b2 q2 l2 n2 c2 h' o' b' q' l' n' c' o2' b2' q2' l2' n2' c2' x.1 x.2.1 x.2.2.1 x.2.2.2.1 x.2.2.2.2.1 x.2.2.2.2.2.1 x.2.2.2.2.2.2.1 x.2.2.2.2.2.2.2
end Go.Vx
set_option linter.unusedVariables false
set_option maxRecDepth 100000
set_option linter.unusedSimpArgs false
namespace Go.Vx
open Go Go.Proofs Go.ChangeShapes Go.WideShapes Go.Deep Go.RowKit Go.Proofs.YtmdnpfocihfkdaaDoor

theorem c3 : Tryd.prog.cellsOf 3 = 1 := by kernel_rfl
theorem c9 : Tryd.prog.cellsOf 9 = 1 := by kernel_rfl
theorem c66 : Tryd.prog.cellsOf 66 = 2 := by kernel_rfl
theorem c68 : Tryd.prog.cellsOf 68 = 6 := by kernel_rfl
theorem c74 : Tryd.prog.cellsOf 74 = 9 := by kernel_rfl
theorem c212 : Tryd.prog.cellsOf 212 = 1 := by kernel_rfl
/-! The errors. -/
theorem star : "*" ++ "errors.errorString" = "*errors.errorString" := by decide
theorem row195 (u : TypeId) (h : Tryd.prog.typeName? 3 u = some "*errors.errorString") : u = 195 :=
  typeName_ptr_named (nm := "errors.errorString") (by rw [star]; kernel_rfl) (by kernel_rfl) (by decide) u (by rw [star]; exact h)
/-- The errors of a list lie there, no two at one place. -/
theorem gl_of {W : World} {L : List (String × DataW Unit)} {G0 : List Nat} {N : Nat} (pos : Nat → Nat) (hp : ∀ g, g < N → pos g < G0.length ∧ G0.getD (pos g) 0 = g) (hL : SentL Tryd.prog "*errors.errorString" 30 L G0) (h : laidMet Tryd.prog L W) :
    ∃ G : Gl, @Gl.lv G = N ∧ (∀ i j, i < N → j < N → @Gl.A G i = @Gl.A G j → i = j) ∧ ∀ g, g < N →
    W.cell? ⟨g, 0, none⟩ = some (.iface 195 (.pointer (some (@Gl.A G g)))) ∧ W.heap[(@Gl.A G g).block]? = some (.cells (@Gl.c G g) (@Gl.t G g) (0, 0)) := by
  obtain ⟨ps, hv, hnd, hrows⟩ := h
  obtain ⟨az, hs, _⟩ := laid_all Tryd.underlying30 row195 Tryd.underlying195 Tryd.underlying212 rfl rfl Tryd.underlying9 c212 c9 _ _ _ hL hv hnd hrows
  have hex : ∀ g, ∃ p : Array Value × TypeId, g < N → W.heap[(az.getD (pos g) default).block]? = some (.cells p.1 p.2 (0, 0)) := by
    intro g
    by_cases hg : g < N
    · obtain ⟨_, c, t, h2⟩ := hs.get (pos g) (hp g hg).1
      exact ⟨(c, t), fun _ => h2⟩
    · exact ⟨(#[], 0), fun h => absurd h hg⟩
  refine ⟨⟨fun g => az.getD (pos g) default, fun g => (Classical.choose (hex g)).1, fun g => (Classical.choose (hex g)).2, N⟩, rfl, ?_, ?_⟩
  · intro i j hi hj he
    have := hs.one (hp i hi).1 (hp j hj).1 he
    rw [← (hp i hi).2, ← (hp j hj).2, this]
  · intro g hg
    obtain ⟨h1, _⟩ := hs.get (pos g) (hp g hg).1
    rw [(hp g hg).2] at h1
    exact ⟨h1, Classical.choose_spec (hex g) hg⟩
theorem gv_is [Gl] (g : Nat) : (C0 g).gv = glV g := by unfold C0; split <;> rfl
theorem gp_is [Gl] (g : Nat) : (C0 g).gpins = glP g := by unfold C0; split <;> rfl
theorem glB_lt [Gl] {g : Nat} {n : Nat} (h3 : 3 ≤ n) (hn : Gl.lv ≤ n) (h : glB g = true) : g < n := by
  unfold glB at h
  split at h
  · rename_i hb; have : g < 3 := by simpa using hb
    omega
  · have : g < Gl.lv := by simpa using h
    omega
theorem more_of [Gl] {W : World} {n : Nat} (h3 : 3 ≤ n) (hn : Gl.lv ≤ n) (h : ∀ g, g < n → W.cell? ⟨g, 0, none⟩ = some (.iface 195 (.pointer (some (Gl.A g)))) ∧ W.heap[(Gl.A g).block]? = some (.cells (Gl.c g) (Gl.t g) (0, 0)))
    {mem : List (Ck C0)} (hnw : noWr mem = true) (hd : ∀ c ∈ mem, ∀ t l, c.cells = .rows t l → ∀ x ∈ l, (C0 t).good W x ∧ ∀ b ∈ (C0 t).blks x, b < W.heap.size) : More (wrS mem) W W mem where
  gv g v hv := by
    rw [gv_is] at hv
    unfold glV at hv
    split at hv
    · rename_i hb
      have hg := glB_lt h3 hn hb
      simp only [Option.some.injEq] at hv
      subst hv
      obtain ⟨h1, _⟩ := h g hg
      refine ⟨h1, ?_, ?_⟩
      · rcases Nat.lt_or_ge g W.heap.size with h' | h'
        · exact h'
        · simp [World.cell?, Array.getElem?_eq_none h'] at h1
      · rintro ⟨c, hc, hw, _⟩
        rw [noWr_ok hnw c hc] at hw; cases hw
    · cases hv
  gp g p hp := by
    rw [gp_is] at hp
    unfold glP at hp
    split at hp
    · rename_i hb
      have hg := glB_lt h3 hn hb
      rw [List.mem_singleton] at hp
      subst hp
      obtain ⟨_, h2⟩ := h g hg
      refine ⟨h2, heap_size_of h2, ?_⟩
      rintro ⟨c, hc, hw, _⟩
      rw [noWr_ok hnw c hc] at hw; cases hw
    · cases hp
  pin p hp := by cases hp
  nod := List.nodup_nil
  deep := deep_ro hnw hd
/-! What comes in. -/
theorem place_open {H : Type} {enc : TypeId × Value → H} {w : World} {base : Nat} {spare : Nat → Bool} {held : Bool} {fuel : Nat} {cs : List Value} {y : DataW H × List MemPlace} (h : DataW.trod enc Tryd.prog w base spare held fuel 66 cs = some y) :
    ∃ b : Pl, cs[0]? = some (.int .i64 b.1) ∧ cs[1]? = some (.int .i64 b.2) := by
  obtain ⟨y0, y1, n, _, _, h0, h1⟩ := trod_struct2 Tryd.underlying66 h
  simp only [c3] at h0 h1
  obtain ⟨n0, e0, _, _⟩ := DataW.trod_int Tryd.underlying3 h0
  obtain ⟨n1, e1, _, _⟩ := DataW.trod_int Tryd.underlying3 h1
  exact ⟨(n0, n1), one_at e0, one_at e1⟩
theorem meta_open {H : Type} {enc : TypeId × Value → H} {w : World} {base : Nat} {spare : Nat → Bool} {held : Bool} {fuel : Nat} {cs : List Value} {y : DataW H × List MemPlace} (h : DataW.trod enc Tryd.prog w base spare held fuel 68 cs = some y) :
    ∃ m : Me, cs[0]? = some (.int .i64 m.kind) ∧ cs[1]? = some (.int .i64 m.key) ∧ cs[2]? = some (.int .i64 m.seq) ∧ cs[3]? = some (.int .i64 m.stamp) ∧ cs[4]? = some (.int .i64 m.batch) ∧ cs[5]? = some (.int .i64 m.floor) := by
  obtain ⟨xs, n, _, rfl, hl, hlen, hf⟩ := DataW.trod_struct Tryd.underlying68 h
  match xs, hlen with
  | [y0, y1, y2, y3, y4, y5], _ =>
    have h0 : DataW.trod enc Tryd.prog w base spare held n 3 ((cs.drop 0).take (Tryd.prog.cellsOf 3)) = some y0 := hf 0 _ rfl
    have h1 : DataW.trod enc Tryd.prog w base spare held n 3 ((cs.drop 1).take (Tryd.prog.cellsOf 3)) = some y1 := hf 1 _ rfl
    have h2 : DataW.trod enc Tryd.prog w base spare held n 3 ((cs.drop 2).take (Tryd.prog.cellsOf 3)) = some y2 := hf 2 _ rfl
    have h3 : DataW.trod enc Tryd.prog w base spare held n 3 ((cs.drop 3).take (Tryd.prog.cellsOf 3)) = some y3 := hf 3 _ rfl
    have h4 : DataW.trod enc Tryd.prog w base spare held n 3 ((cs.drop 4).take (Tryd.prog.cellsOf 3)) = some y4 := hf 4 _ rfl
    have h5 : DataW.trod enc Tryd.prog w base spare held n 3 ((cs.drop 5).take (Tryd.prog.cellsOf 3)) = some y5 := hf 5 _ rfl
    simp only [c3] at h0 h1 h2 h3 h4 h5
    obtain ⟨n0, e0, _, _⟩ := DataW.trod_int Tryd.underlying3 h0
    obtain ⟨n1, e1, _, _⟩ := DataW.trod_int Tryd.underlying3 h1
    obtain ⟨n2, e2, _, _⟩ := DataW.trod_int Tryd.underlying3 h2
    obtain ⟨n3, e3, _, _⟩ := DataW.trod_int Tryd.underlying3 h3
    obtain ⟨n4, e4, _, _⟩ := DataW.trod_int Tryd.underlying3 h4
    obtain ⟨n5, e5, _, _⟩ := DataW.trod_int Tryd.underlying3 h5
    exact ⟨⟨n0, n1, n2, n3, n4, n5⟩, one_at e0, one_at e1, one_at e2, one_at e3, one_at e4, one_at e5⟩
theorem slot_open {H : Type} {enc : TypeId × Value → H} {w : World} {base : Nat} {spare : Nat → Bool} {held : Bool} {fuel : Nat} {cs : List Value} {y : DataW H × List MemPlace} (h : DataW.trod enc Tryd.prog w base spare held fuel 74 cs = some y) :
    ∃ b : Slot, ∀ f, f < 9 → cs[f]? = some (cellV cSlot b f) := by
  obtain ⟨y0, y1, y2, n, _, _, h0, h1, h2⟩ := Go.Deep.trod_struct3 Tryd.underlying74 h
  simp only [c3, c66, c68] at h0 h1 h2
  obtain ⟨n0, e0, _, _⟩ := DataW.trod_int Tryd.underlying3 h0
  obtain ⟨p, hp0, hp1⟩ := place_open h1
  obtain ⟨m, m0, m1, m2, m3, m4, m5⟩ := meta_open h2
  refine ⟨⟨n0, p, m⟩, fun f hf => ?_⟩
  have p0 := part_at hp0
  have p1 := part_at hp1
  have k0 := part_at m0
  have k1 := part_at m1
  have k2 := part_at m2
  have k3 := part_at m3
  have k4 := part_at m4
  have k5 := part_at m5
  rcases f with _ | _ | _ | _ | _ | _ | _ | _ | _ | f
  · exact one_at e0
  · exact p0
  · exact p1
  · exact k0
  · exact k1
  · exact k2
  · exact k3
  · exact k4
  · exact k5
  · omega
/-- A point that came in. -/
structure PtIn (W : World) (a : Option Addr) (n c : Nat) (l : List (Rw Int)) (a2 : Option Addr) (n2 c2 : Nat) (l2 : List Slot) : Prop where
  bl : IsPart (rwCodec (cInt .i64)) W a n c l
  rw : ∀ r ∈ l, RwIn (cInt .i64) W r
  sl : IsPart cSlot W a2 n2 c2 l2
theorem point_open {H : Type} {enc : TypeId × Value → H} {W : World} {base b0 : Nat} {r : Reach} {v : Value} {d : DataW H} {p : List MemPlace} (hv : Value.okWide Tryd.prog W r b0 25 v)
    (h : DataW.Trod enc Tryd.prog W base (fun _ => true) true 25 v d p) :
    ∃ (h : Hd) (a : Option Addr) (n c : Nat) (a2 : Option Addr) (n2 c2 : Nat) (l2 : List Slot) (R : List Raw), v = .agg #[.int .i64 h.1, .int .i64 h.2.1, .int .i64 h.2.2.1, .int .i64 h.2.2.2, .slice a n c, .slice a2 n2 c2] ∧ IsPart cSlot W a2 n2 c2 l2 ∧
      R.length = n ∧ IsPart cRaw W a n c R ∧ ((∀ r ∈ R, r.2.1 = 2) → ∃ l : List (Rw Int), (∀ r ∈ l, r.l.length = 2) ∧ PtIn W a n c l a2 n2 c2 l2) := by
  obtain ⟨cs, rfl, hsz⟩ := okWide_struct Tryd.underlying25 hv
  obtain ⟨fuel, hf⟩ := h
  obtain ⟨xs, m, _, hx, hl, hlen, hall⟩ := DataW.trod_struct Tryd.underlying25 hf
  have c25 : Tryd.prog.cellsOf 25 = 6 := by kernel_rfl
  have c22 : Tryd.prog.cellsOf 22 = 1 := by kernel_rfl
  have c23 : Tryd.prog.cellsOf 23 = 1 := by kernel_rfl
  rw [c25] at hsz
  obtain ⟨l⟩ := cs
  match l, hsz, xs, hlen with
  | [v0, v1, v2, v3, v4, v5], _, [y0, y1, y2, y3, y4, y5], _ =>
    have h0 : DataW.trod enc Tryd.prog W base (fun _ => true) true m 3 (([v0, v1, v2, v3, v4, v5].drop 0).take (Tryd.prog.cellsOf 3)) = some y0 := hall 0 _ rfl
    have h1 : DataW.trod enc Tryd.prog W base (fun _ => true) true m 3 (([v0, v1, v2, v3, v4, v5].drop 1).take (Tryd.prog.cellsOf 3)) = some y1 := hall 1 _ rfl
    have h2 : DataW.trod enc Tryd.prog W base (fun _ => true) true m 3 (([v0, v1, v2, v3, v4, v5].drop 2).take (Tryd.prog.cellsOf 3)) = some y2 := hall 2 _ rfl
    have h3 : DataW.trod enc Tryd.prog W base (fun _ => true) true m 3 (([v0, v1, v2, v3, v4, v5].drop 3).take (Tryd.prog.cellsOf 3)) = some y3 := hall 3 _ rfl
    have h4 : DataW.trod enc Tryd.prog W base (fun _ => true) true m 22 (([v0, v1, v2, v3, v4, v5].drop 4).take (Tryd.prog.cellsOf 22)) = some y4 := hall 4 _ rfl
    have h5 : DataW.trod enc Tryd.prog W base (fun _ => true) true m 23 (([v0, v1, v2, v3, v4, v5].drop 5).take (Tryd.prog.cellsOf 23)) = some y5 := hall 5 _ rfl
    simp only [c3, c22, c23] at h0 h1 h2 h3 h4 h5
    obtain ⟨n0, e0, _, _⟩ := DataW.trod_int Tryd.underlying3 h0
    obtain ⟨n1, e1, _, _⟩ := DataW.trod_int Tryd.underlying3 h1
    obtain ⟨n2, e2, _, _⟩ := DataW.trod_int Tryd.underlying3 h2
    obtain ⟨n3, e3, _, _⟩ := DataW.trod_int Tryd.underlying3 h3
    have e0 : [v0] = [.int .i64 n0] := e0
    have e1 : [v1] = [.int .i64 n1] := e1
    have e2 : [v2] = [.int .i64 n2] := e2
    have e3 : [v3] = [.int .i64 n3] := e3
    cases e0; cases e1; cases e2; cases e3
    have h4 : DataW.trod enc Tryd.prog W base (fun _ => true) true m 22 [v4] = some y4 := h4
    have h5 : DataW.trod enc Tryd.prog W base (fun _ => true) true m 23 [v5] = some y5 := h5
    obtain ⟨a, n, c, e4⟩ := Go.Joins.slice_form Tryd.underlying22 h4
    obtain ⟨a2, n2', c2, e5⟩ := Go.Joins.slice_form Tryd.underlying23 h5
    cases e4; cases e5
    obtain ⟨R, r1, r2, r3⟩ := rws_open (b0 := 0) Tryd.underlying22 Tryd.underlying71 Tryd.underlying3 (by kernel_rfl) c3 (fun x hx => arg_at (i := 4) (a := x) (len := n) (cap := c) Tryd.underlying25 hv (by rw [hx]; rfl)) h4
    obtain ⟨zs2, w3⟩ := rows_open2 cSlot Tryd.underlying23 c74 (fun _ _ _ h => slot_open h) (fun x hx => arg_at (i := 5) (a := x) (len := n2') (cap := c2) Tryd.underlying25 hv (by rw [hx]; rfl)) h5
    refine ⟨(n0, n1, n2, n3), a, n, c, a2, n2', c2, zs2, R, rfl, w3.part, r1, r2, fun hR => ?_⟩
    obtain ⟨zs, z1, z2, z3, z4⟩ := r3 fun r hr => by rw [hR r hr]; decide
    refine ⟨zs, fun r hr => ?_, z3, fun r hr => (z4 r hr).1, w3.part⟩
    obtain ⟨i, hi, rfl⟩ := List.getElem_of_mem hr
    have := z2 i (by omega)
    rw [List.getD_eq_getElem?_getD, List.getElem?_eq_getElem hi, List.getD_eq_getElem?_getD, List.getElem?_eq_getElem (by omega)] at this
    simp only [Option.getD_some] at this
    rw [this]
    exact hR _ (List.getElem_mem _)
/-- Bytes that came in. -/
theorem bytes_open {H : Type} {enc : TypeId × Value → H} {W : World} {base b0 : Nat} {r : Reach} {v : Value} {d : DataW H} {p : List MemPlace} (hv : Value.okWide Tryd.prog W r b0 26 v)
    (h : DataW.Trod enc Tryd.prog W base (fun _ => true) true 26 v d p) : ∃ (a : Option Addr) (n c : Nat) (l : List Int), v = .slice a n c ∧ IsRows (cInt .u8) W a n c l ∧ Bys l := by
  obtain ⟨a, n, c, rfl⟩ := okWide_slice Tryd.underlying26 hv
  obtain ⟨fuel, hf⟩ := h
  have hf : DataW.trod enc Tryd.prog W base (fun _ => true) true fuel 26 [.slice a n c] = some (d, p) := by simpa [Value.cells] using hf
  rcases open_ints Tryd.underlying26 Tryd.underlying5 (by kernel_rfl) hf with ⟨hcs, _⟩ | ⟨x, len', cap', zs, hcs, _, hl, _, hz, _, hcell, hw⟩
  · simp at hcs
    obtain ⟨rfl, rfl, rfl⟩ := hcs
    exact ⟨none, 0, 0, [], rfl, .inl ⟨rfl, rfl, rfl, rfl⟩, fun x hx => by cases hx⟩
  · simp at hcs
    obtain ⟨rfl, rfl, rfl⟩ := hcs
    simp only [if_true] at hz
    obtain ⟨hs, hb⟩ := okWide_at Tryd.underlying26 hv
    refine ⟨some x, n, c, zs, rfl, .inr ⟨x, rfl, hs, hb, hl, hz, fun i hi f hf => ?_⟩, fun n hn => ?_⟩
    · obtain rfl : f = 0 := by
        have : f < 1 := hf
        omega
      rw [show i * 1 + 0 = i by omega, hcell i (by omega)]
      rfl
    · have := hw n hn
      simp [Lit.wf, IntKind.min, IntKind.max, IntKind.signed, IntKind.bits] at this
      omega
end Go.Vx
set_option linter.unusedSectionVars false
set_option maxRecDepth 100000
set_option linter.unusedVariables false
set_option linter.unusedSimpArgs false
namespace Go.Vx
open Go Go.Proofs

/-- Where all nineteen errors lie. -/
class Gl0 where
  A : Nat → Addr
  c : Nat → Array Value
  t : Nat → TypeId
@[reducible] instance glAll [Gl0] : Gl := ⟨Gl0.A, Gl0.c, Gl0.t, 19⟩
variable [Gl0]
abbrev er (a : Addr) : SV := .ifc 195 (.val (.pointer (some a)))
abbrev flt (n : Int) : SV := .agg [.int .i64 n, .nils]
theorem bare_ok (n : Int) : Tells (C := C0) Tryd.prog (.fn 48) [] [.int .i64 n] (flt n) := by
  refine loc_pc (P := Tryd.prog) (E := ⟨[], [], 5, [], [], []⟩) (L := []) mix Tryd.func48 rfl (by kernel_rfl) (by kernel_rfl) rfl rfl ?_
  ((conv => (arg 1; reduce)); with_reducible repeat' (first | exact Tr.yes_h | refine Tr.and_h ?_ ?_ | refine Tr.imp_h fun _ => ?_ | refine Tr.all_h fun _ => ?_ | refine Tr.lf_h ?_))
  all_goals (first | first | (show Region.lexB _ _ = true; kernel_rfl) | (show planned _ _ = true; kernel_rfl) | exact rfl | exact True.intro | ((try dsimp only [imp, C0, cG, cInt, cPl, cSlot, cPg, rwCodec, cRaw] at *); (try refine inR64 ?_ ?_) <;> (try simp only [List.length_set, List.length_append, List.length_take, List.length_drop]) <;> omega))
theorem none_ok : Tells (C := C0) Tryd.prog (.fn 89) [] [] (flt 0) := by
  refine loc_pc (P := Tryd.prog) (E := ⟨[], [], 2, [], [], []⟩) (L := []) mix Tryd.func89 rfl (by kernel_rfl) (by kernel_rfl) rfl rfl ?_
  ((conv => (arg 1; reduce)); with_reducible repeat' (first | exact Tr.yes_h | refine Tr.and_h ?_ ?_ | refine Tr.imp_h fun _ => ?_ | refine Tr.all_h fun _ => ?_ | refine Tr.lf_h ?_))
  all_goals (first | first | (show Region.lexB _ _ = true; kernel_rfl) | (show planned _ _ = true; kernel_rfl) | exact rfl | exact True.intro | ((try dsimp only [imp, C0, cG, cInt, cPl, cSlot, cPg, rwCodec, cRaw] at *); (try refine inR64 ?_ ?_) <;> (try simp only [List.length_set, List.length_append, List.length_take, List.length_drop]) <;> omega))
def Si0 : Inv' C0 := ⟨4, Unit, fun _ => [(5, .int .i64 0)], fun _ m => m, fun _ => True, fun _ => 0⟩
theorem sameInts0 : Tells (C := C0) Tryd.prog (.fn 45) [] [.nils, .nils] (.bool .t) := by
  refine loc_pc (P := Tryd.prog) (E := ⟨[], [], 29, [], [], []⟩) (L := [Si0]) mix Tryd.func45 rfl (by kernel_rfl) (by kernel_rfl) rfl rfl ?_
  ((conv => (arg 1; reduce)); with_reducible repeat' (first | exact Tr.yes_h | refine Tr.and_h ?_ ?_ | refine Tr.imp_h fun _ => ?_ | refine Tr.all_h fun _ => ?_ | refine Tr.lf_h ?_))
  all_goals try first | (show Region.lexB _ _ = true; kernel_rfl) | (show planned _ _ = true; kernel_rfl) | exact rfl | exact True.intro
  all_goals try exact absurd (by with_reducible assumption : decide ((0 : Int) < 0) = true) (by decide)
  all_goals try exact absurd (by with_reducible assumption : decide ((0 : Int) ≠ 0) = true) (by decide)
  · refine Stands.one () ⟨trivial, ?_⟩
    ((conv => (arg 1; reduce)); with_reducible repeat' (first | exact Tr.yes_h | refine Tr.and_h ?_ ?_ | refine Tr.imp_h fun _ => ?_ | refine Tr.all_h fun _ => ?_ | refine Tr.lf_h ?_))
    all_goals (first | first | (show Region.lexB _ _ = true; kernel_rfl) | (show planned _ _ = true; kernel_rfl) | exact rfl | exact True.intro | ((try dsimp only [imp, C0, cG, cInt, cPl, cSlot, cPg, rwCodec, cRaw] at *); (try refine inR64 ?_ ?_) <;> (try simp only [List.length_set, List.length_append, List.length_take, List.length_drop]) <;> omega))
def pcBare : Pc Tryd.prog C0 where
  tg := .fn 48
  X := Int
  args n := [.int .i64 n]
  mem _ := []
  pre _ := True
  res n := flt n
  mat vs _ := match vs with
    | [.int _ n] => some (n, [])
    | _ => none
  ok n _ := bare_ok n
def pcNone : Pc Tryd.prog C0 where
  tg := .fn 89
  X := Unit
  args _ := []
  mem _ := []
  pre _ := True
  res _ := flt 0
  mat _ _ := some ((), [])
  ok _ _ := none_ok
def pcSameInts0 : Pc Tryd.prog C0 where
  tg := .fn 45
  X := Unit
  args _ := [.nils, .nils]
  mem _ := []
  pre _ := True
  res _ := .bool .t
  mat vs _ := match vs with
    | [.nils, .nils] => some ((), [])
    | _ => none
  ok _ _ := sameInts0
theorem sameFault_ok (a b : Int) : Tells (C := C0) Tryd.prog (.fn 65) [] [flt a, flt b] (.bool (.tm (decide (a = b)))) := by
  refine loc_pc (P := Tryd.prog) (E := ⟨[], [pcSameInts0], 19, [], [], []⟩) (L := []) mix Tryd.func65 rfl (by kernel_rfl) (by kernel_rfl) rfl rfl ?_
  ((conv => (arg 1; reduce)); with_reducible repeat' (first | exact Tr.yes_h | refine Tr.and_h ?_ ?_ | refine Tr.imp_h fun _ => ?_ | refine Tr.all_h fun _ => ?_ | refine Tr.lf_h ?_))
  all_goals try first | (show Region.lexB _ _ = true; kernel_rfl) | (show planned _ _ = true; kernel_rfl) | exact rfl | exact True.intro
def pcSameFault : Pc Tryd.prog C0 where
  tg := .fn 65
  X := Int × Int
  args x := [flt x.1, flt x.2]
  mem _ := []
  pre _ := True
  res x := .bool (.tm (decide (x.1 = x.2)))
  mat vs _ := match vs with
    | [.agg [.int _ a, .nils], .agg [.int _ b, .nils]] => some ((a, b), [])
    | _ => none
  ok x _ := sameFault_ok x.1 x.2
theorem fault_nil : Tells (C := C0) Tryd.prog (.fn 64) [] [.nili] (flt 0) := by
  refine loc_pc (P := Tryd.prog) (E := ⟨[], [pcNone], 8, [], [], []⟩) (L := []) mix Tryd.func64 rfl (by kernel_rfl) (by kernel_rfl) rfl rfl ?_
  ((conv => (arg 1; reduce)); with_reducible repeat' (first | exact Tr.yes_h | refine Tr.and_h ?_ ?_ | refine Tr.imp_h fun _ => ?_ | refine Tr.all_h fun _ => ?_ | refine Tr.lf_h ?_))
  all_goals try first | (show Region.lexB _ _ = true; kernel_rfl) | (show planned _ _ = true; kernel_rfl) | exact rfl | exact True.intro
def pcFault0 : Pc Tryd.prog C0 where
  tg := .fn 64
  X := Unit
  args _ := [.nili]
  mem _ := []
  pre _ := True
  res _ := flt 0
  mat vs _ := match vs with
    | [.nili] => some ((), [])
    | _ => none
  ok _ _ := fault_nil
theorem same_nil (c : Int) : Tells (C := C0) Tryd.prog (.fn 47) [] [.nili, flt c] (.bool (.tm (decide (0 = c)))) := by
  refine loc_pc (P := Tryd.prog) (E := ⟨[], [pcFault0, pcSameFault], 11, [], [], []⟩) (L := []) mix Tryd.func47 rfl (by kernel_rfl) (by kernel_rfl) rfl rfl ?_
  ((conv => (arg 1; reduce)); with_reducible repeat' (first | exact Tr.yes_h | refine Tr.and_h ?_ ?_ | refine Tr.imp_h fun _ => ?_ | refine Tr.all_h fun _ => ?_ | refine Tr.lf_h ?_))
  all_goals try first | (show Region.lexB _ _ = true; kernel_rfl) | (show planned _ _ = true; kernel_rfl) | exact rfl | exact True.intro
def pcSameE0 : Pc Tryd.prog C0 where
  tg := .fn 47
  X := Int
  args c := [.nili, flt c]
  mem _ := []
  pre _ := True
  res c := .bool (.tm (decide (0 = c)))
  mat vs _ := match vs with
    | [.nili, .agg [.int _ c, .nils]] => some (c, [])
    | _ => none
  ok c _ := same_nil c
theorem is_nil (c : Int) : Tells (C := C0) Tryd.prog (.fn 23) [] [.nili, .int .i64 c] (.bool (.tm (decide (0 = c)))) := by
  refine loc_pc (P := Tryd.prog) (E := ⟨[], [pcBare, pcSameE0], 9, [], [], []⟩) (L := []) mix Tryd.func23 rfl (by kernel_rfl) (by kernel_rfl) rfl rfl ?_
  ((conv => (arg 1; reduce)); with_reducible repeat' (first | exact Tr.yes_h | refine Tr.and_h ?_ ?_ | refine Tr.imp_h fun _ => ?_ | refine Tr.all_h fun _ => ?_ | refine Tr.lf_h ?_))
  all_goals try first | (show Region.lexB _ _ = true; kernel_rfl) | (show planned _ _ = true; kernel_rfl) | exact rfl | exact True.intro
def pcIs0 : Pc Tryd.prog C0 where
  tg := .fn 23
  X := Int
  args c := [.nili, .int .i64 c]
  mem _ := []
  pre _ := True
  res c := .bool (.tm (decide (0 = c)))
  mat vs _ := match vs with
    | [.nili, .int _ c] => some (c, [])
    | _ => none
  ok c _ := is_nil c
/-- The same values handed. -/
theorem LocG.args {C : Nat → Codec} {P : Program} {tg : Tg} {m : List (Ck C)} {args args' : List SV} {post : SV → List (Ck C) → Prop} (h : LocG P tg m args post) (he : SV.vas (ads m) args = SV.vas (ads m) args') : LocG P tg m args' post := by
  intro w hm
  rw [← he]
  exact h w hm
theorem Tells.res {C : Nat → Codec} {P : Program} {tg : Tg} {mem : List (Ck C)} {args : List SV} {res res' : SV} (h : Tells P tg mem args res) (he : res.va (ads mem) = res'.va (ads mem)) : Tells P tg mem args res' := by
  intro w hm
  obtain ⟨f, vals, h1, h2⟩ := h w hm
  refine ⟨f, vals, h1, h2.mono ?_⟩
  rintro e w' ⟨r, m', rfl, hm', hx, rfl, rfl⟩
  exact ⟨res', m', by rw [he], hm', hx, rfl, rfl⟩

theorem plainN : ∀ g, g < 19 → Plain C0 (Gl.A g)
  | 0, _ => ⟨0, _, _, List.Mem.head _⟩
  | 1, _ => ⟨1, _, _, List.Mem.head _⟩
  | 2, _ => ⟨2, _, _, List.Mem.head _⟩
  | 3, _ => ⟨3, _, _, List.Mem.head _⟩
  | 4, _ => ⟨4, _, _, List.Mem.head _⟩
  | 5, _ => ⟨5, _, _, List.Mem.head _⟩
  | 6, _ => ⟨6, _, _, List.Mem.head _⟩
  | 7, _ => ⟨7, _, _, List.Mem.head _⟩
  | 8, _ => ⟨8, _, _, List.Mem.head _⟩
  | 9, _ => ⟨9, _, _, List.Mem.head _⟩
  | 10, _ => ⟨10, _, _, List.Mem.head _⟩
  | 11, _ => ⟨11, _, _, List.Mem.head _⟩
  | 12, _ => ⟨12, _, _, List.Mem.head _⟩
  | 13, _ => ⟨13, _, _, List.Mem.head _⟩
  | 14, _ => ⟨14, _, _, List.Mem.head _⟩
  | 15, _ => ⟨15, _, _, List.Mem.head _⟩
  | 16, _ => ⟨16, _, _, List.Mem.head _⟩
  | 17, _ => ⟨17, _, _, List.Mem.head _⟩
  | 18, _ => ⟨18, _, _, List.Mem.head _⟩
  | g + 19, h => absurd h (by omega)
/-- The errors, in the order of their numbers. -/
@[irreducible] def sentL : List (Option Addr) := [some (Gl.A 5), some (Gl.A 6), some (Gl.A 7), some (Gl.A 8), some (Gl.A 9), some (Gl.A 1), some (Gl.A 0), some (Gl.A 3), some (Gl.A 10), some (Gl.A 4), some (Gl.A 11), some (Gl.A 12), some (Gl.A 13), some (Gl.A 14), some (Gl.A 15), some (Gl.A 2), some (Gl.A 16), some (Gl.A 17), some (Gl.A 18)]
set_option maxHeartbeats 4000000 in
theorem sent_ok : Does (C := C0) Tryd.prog (.fn 109) [] [] [⟨Nat, fun _ => True, fun _ => .sl 0 0 19 19, fun y => [⟨y, 0, 1, true, none, .rows 30 sentL⟩]⟩] := by
  refine loc_fn (P := Tryd.prog) (E := ⟨[], [], 21, [], [], []⟩) (L := []) mix Tryd.func109 rfl (by kernel_rfl) (by kernel_rfl) rfl rfl ?_
  ((conv => (arg 1; reduce)); with_reducible repeat' (first | exact Tr.yes_h | refine Tr.and_h ?_ ?_ | refine Tr.imp_h fun _ => ?_ | refine Tr.all_h fun _ => ?_ | refine Tr.lf_h ?_))
  all_goals try first | (show Region.lexB _ _ = true; kernel_rfl) | (show planned _ _ = true; kernel_rfl) | exact rfl | exact True.intro
  · rename_i b
    refine Ends.one b trivial ?_
    ((conv => (arg 1; reduce)); with_reducible repeat' (first | exact Tr.yes_h | refine Tr.and_h ?_ ?_ | refine Tr.imp_h fun _ => ?_ | refine Tr.all_h fun _ => ?_ | refine Tr.lf_h ?_))
    all_goals first | (first | first | (show Region.lexB _ _ = true; kernel_rfl) | (show planned _ _ = true; kernel_rfl) | exact rfl | exact True.intro | ((try dsimp only [imp, C0, cG, cInt, cPl, cSlot, cPg, rwCodec, cRaw] at *); (try refine inR64 ?_ ?_) <;> (try simp only [List.length_set, List.length_append, List.length_take, List.length_drop]) <;> omega)) | (unfold sentL; rfl)
noncomputable def fcSent : Fc Tryd.prog C0 where
  tg := .fn 109
  X := Unit
  args _ := []
  mem _ := []
  pre _ := True
  alts _ := [⟨Nat, fun _ => True, fun _ => .sl 0 0 19 19, fun y => [⟨y, 0, 1, true, none, .rows 30 sentL⟩]⟩]
  mat _ _ := some ((), [])
  ok _ _ := sent_ok

theorem alike_nil (a : Addr) : Tells (C := C0) Tryd.prog (.fn 110) [] [er a, .nili] (.bool .f) := by
  refine loc_pc (P := Tryd.prog) (E := ⟨[], [], 20, [], [], []⟩) (L := []) mix Tryd.func110 rfl (by kernel_rfl) (by kernel_rfl) rfl rfl ?_
  ((conv => (arg 1; reduce)); with_reducible repeat' (first | exact Tr.yes_h | refine Tr.and_h ?_ ?_ | refine Tr.imp_h fun _ => ?_ | refine Tr.all_h fun _ => ?_ | refine Tr.lf_h ?_))
  all_goals (first | first | (show Region.lexB _ _ = true; kernel_rfl) | (show planned _ _ = true; kernel_rfl) | exact rfl | exact True.intro | ((try dsimp only [imp, C0, cG, cInt, cPl, cSlot, cPg, rwCodec, cRaw] at *); (try refine inR64 ?_ ?_) <;> (try simp only [List.length_set, List.length_append, List.length_take, List.length_drop]) <;> omega))
theorem alike_er (a b : Addr) (ha : Plain C0 a) (hb : Plain C0 b) : Tells (C := C0) Tryd.prog (.fn 110) [] [er a, er b] (.bool (.tm (decide (a = b)))) := by
  refine loc_pc (P := Tryd.prog) (E := ⟨[], [], 20, [], [], []⟩) (L := []) mix Tryd.func110 rfl (by kernel_rfl) (by kernel_rfl) rfl rfl ?_
  ((conv => (arg 1; reduce)); with_reducible repeat' (first | exact Tr.yes_h | refine Tr.and_h ?_ ?_ | refine Tr.imp_h fun _ => ?_ | refine Tr.all_h fun _ => ?_ | refine Tr.lf_h ?_))
  all_goals first | first | (show Region.lexB _ _ = true; kernel_rfl) | (show planned _ _ = true; kernel_rfl) | exact rfl | exact True.intro | exact ha | exact hb
@[irreducible] def isErr (v : Value) (a : Addr) : Bool := match v with
  | .iface 195 (.pointer (some b)) => decide (a = b)
  | _ => false
theorem isErr_V (y : Option Addr) (a : Addr) : isErr (errV y) a = decide (y = some a) := by
  unfold isErr errV
  cases y with
  | none => simp
  | some b => simp [eq_comm]
structure ErrIs (v : Value) : Prop where
  ex : ∃ y, v = errV y ∧ ∀ b, y = some b → Plain C0 b
theorem alike_ok (a : Addr) (v : Value) (ha : Plain C0 a) (hv : ErrIs v) : Tells (C := C0) Tryd.prog (.fn 110) [] [er a, .val v] (.bool (.tm (isErr v a))) := by
  obtain ⟨y, rfl, hy⟩ := hv
  rw [isErr_V]
  cases y with
  | none =>
    refine Tells.res (res := .bool .f) (LocG.args (args := [er a, .nili]) (alike_nil a) ?_) ?_
    · simp [SV.vas, SV.va, errV]
    · simp [SV.va, SB.val]
  | some b =>
    refine Tells.res (res := .bool (.tm (decide (a = b)))) (LocG.args (args := [er a, er b]) (alike_er a b ha (hy b rfl)) ?_) ?_
    · simp [SV.vas, SV.va, errV]
    · simp [SV.va, SB.val, eq_comm]
noncomputable def pcAlikeE : Pc Tryd.prog C0 where
  tg := .fn 110
  X := Addr × Value
  args x := [er x.1, .val x.2]
  mem _ := []
  pre x := Plain C0 x.1 ∧ ErrIs x.2
  res x := .bool (.tm (isErr x.2 x.1))
  mat vs _ := match vs with
    | [.ifc 195 (.val (.pointer (some a))), .val v] => some ((a, v), [])
    | _ => none
  ok x h := alike_ok x.1 x.2 h.1 h.2

def idxE : List (Option Addr) → Addr → Int → Int
  | [], _, _ => -1
  | x :: r, a, n => if x = some a then n else idxE r a (n + 1)
theorem idxE_at : ∀ (l : List (Option Addr)) (a : Addr) (n : Int) (i : Nat), i < l.length → l.getD i none = some a → (∀ j, j < i → l.getD j none ≠ some a) → idxE l a n = n + i
  | [], _, _, _, h, _, _ => by simp at h
  | x :: r, a, n, 0, _, h, _ => by
    have : x = some a := by simpa using h
    simp [idxE, this]
  | x :: r, a, n, i + 1, h, h1, h2 => by
    have hx : ¬ x = some a := by simpa using h2 0 (by omega)
    simp only [idxE, if_neg hx]
    rw [idxE_at r a (n + 1) i (by simpa using h) (by simpa using h1) (fun j hj => by simpa using h2 (j + 1) (by omega))]
    omega
theorem idxE_no : ∀ (l : List (Option Addr)) (a : Addr) (n : Int), (∀ j, j < l.length → l.getD j none ≠ some a) → idxE l a n = -1
  | [], _, _, _ => rfl
  | x :: r, a, n, h => by
    have hx : ¬ x = some a := by simpa using h 0 (by simp)
    simp only [idxE, if_neg hx]
    exact idxE_no r a (n + 1) fun j hj => by simpa using h (j + 1) (by simpa using hj)
/-- The number of an error; -1: it is none of them. -/
@[irreducible] def codeOf (a : Addr) : Int := idxE sentL a 101
theorem sentL_len : sentL.length = 19 := by unfold sentL; rfl
theorem sentL_in (j : Nat) (hj : j < 19) : ∃ g, g < 19 ∧ sentL.getD j none = some (Gl.A g) := by
  unfold sentL
  rcases j with _ | _ | _ | _ | _ | _ | _ | _ | _ | _ | _ | _ | _ | _ | _ | _ | _ | _ | _ | j
  all_goals first | exact ⟨_, by omega, rfl⟩ | exact ⟨_, by decide, rfl⟩ | omega
theorem sent_is (j : Nat) : ErrIs (errV (sentL.getD j none)) := by
  refine ⟨_, rfl, fun b hb => ?_⟩
  by_cases hj : j < 19
  · obtain ⟨g, hg, he⟩ := sentL_in j hj
    rw [he] at hb
    simp only [Option.some.injEq] at hb; subst hb
    exact plainN g hg
  · rw [List.getD_eq_getElem?_getD, List.getElem?_eq_none (by rw [sentL_len]; omega)] at hb
    cases hb
attribute [local irreducible] errV
def Se (a : Addr) : Inv' C0 := ⟨3, Nat, fun i => [(4, .int .i64 i)], fun _ m => m, fun i => i ≤ 19 ∧ ∀ j, j < i → sentL.getD j none ≠ some a, fun i => 19 - i⟩
theorem Se.at {a : Addr} {i : Nat} (hi : (Se a).inv i) (hc : i < 19) (he : isErr (errV (sentL.getD i none)) a = true) : codeOf a = 101 + i := by
  rw [isErr_V] at he
  unfold codeOf
  exact idxE_at _ _ _ i (by rw [sentL_len]; exact hc) (of_decide_eq_true he) hi.2
theorem Se.more {a : Addr} {i : Nat} (hi : (Se a).inv i) (hc : i < 19) (he : isErr (errV (sentL.getD i none)) a = false) : (Se a).inv (Nat.succ i) ∧ (Se a).meas (Nat.succ i) < (Se a).meas i := by
  rw [isErr_V] at he
  refine ⟨⟨hc, fun j hj => ?_⟩, by show 19 - (i + 1) < 19 - i; omega⟩
  rcases Nat.lt_succ_iff_lt_or_eq.1 hj with h1 | h1
  · exact hi.2 j h1
  · rw [h1]; exact of_decide_eq_false he
theorem Se.no {a : Addr} {i : Nat} (hi : (Se a).inv i) (hc : ¬ (i : Int) < 19) : codeOf a = -1 := by
  unfold codeOf
  exact idxE_no _ _ _ fun j hj => hi.2 j (by rw [sentL_len] at hj; omega)
theorem sentinel_ok (a : Addr) (ha : Plain C0 a) : Tells (C := C0) Tryd.prog (.fn 103) [] [er a] (.int .i64 (codeOf a)) := by
  refine loc_pc (P := Tryd.prog) (E := ⟨[fcSent], [pcAlikeE], 20, [], [], []⟩) (L := [Se a]) mix Tryd.func103 rfl (by kernel_rfl) (by kernel_rfl) rfl rfl ?_
  ((conv => (arg 1; reduce)); with_reducible repeat' (first | exact Tr.yes_h | refine Tr.and_h ?_ ?_ | refine Tr.imp_h fun _ => ?_ | refine Tr.all_h fun _ => ?_ | refine Tr.lf_h ?_))
  all_goals try first | (show Region.lexB _ _ = true; kernel_rfl) | (show planned _ _ = true; kernel_rfl) | exact rfl | exact True.intro
  · refine Stands.one (0 : Nat) ⟨⟨Nat.zero_le _, fun j hj => absurd hj (Nat.not_lt_zero _)⟩, ?_⟩
    ((conv => (arg 1; reduce)); with_reducible repeat' (first | exact Tr.yes_h | refine Tr.and_h ?_ ?_ | refine Tr.imp_h fun _ => ?_ | refine Tr.all_h fun _ => ?_ | refine Tr.lf_h ?_))
    all_goals (first | first | (show Region.lexB _ _ = true; kernel_rfl) | (show planned _ _ = true; kernel_rfl) | exact rfl | exact True.intro | ((try dsimp only [imp, C0, cG, cInt, cPl, cSlot, cPg, rwCodec, cRaw] at *); (try refine inR64 ?_ ?_) <;> (try simp only [List.length_set, List.length_append, List.length_take, List.length_drop]) <;> omega))
  · rename_i i hi hc
    change Nat at i
    omega
  · rename_i i hi hc
    exact of_decide_eq_true hc
  · rename_i i hi hc
    change Nat at i
    have hc := of_decide_eq_true hc
    rw [sentL_len]; omega
  · exact ⟨ha, sent_is _⟩
  · rename_i i hi hc he
    change Nat at i
    have hc := of_decide_eq_true hc
    exact inR64 (by omega) (by omega)
  · rename_i i hi hc he
    change Nat at i
    have hc := of_decide_eq_true hc
    exact (Se.at hi (by omega) he).symm
  · rename_i i hi hc he
    change Nat at i
    have hc := of_decide_eq_true hc
    exact inR64 (by omega) (by omega)
  · rename_i i hi hc he
    change Nat at i
    have hc := of_decide_eq_true hc
    obtain ⟨k1, k2⟩ := Se.more hi (by omega) he
    refine Stands.one (Nat.succ i) ⟨k1, k2, ?_⟩
    ((conv => (arg 1; reduce)); with_reducible repeat' (first | exact Tr.yes_h | refine Tr.and_h ?_ ?_ | refine Tr.imp_h fun _ => ?_ | refine Tr.all_h fun _ => ?_ | refine Tr.lf_h ?_))
    all_goals (first | first | (show Region.lexB _ _ = true; kernel_rfl) | (show planned _ _ = true; kernel_rfl) | exact rfl | exact True.intro | ((try dsimp only [imp, C0, cG, cInt, cPl, cSlot, cPg, rwCodec, cRaw] at *); (try refine inR64 ?_ ?_) <;> (try simp only [List.length_set, List.length_append, List.length_take, List.length_drop]) <;> omega))
  · rename_i i hi hc
    exact (Se.no hi (of_decide_eq_false hc)).symm
def pcSentinel : Pc Tryd.prog C0 where
  tg := .fn 103
  X := Addr
  args a := [er a]
  mem _ := []
  pre a := Plain C0 a
  res a := .int .i64 (codeOf a)
  mat vs _ := match vs with
    | [.ifc 195 (.val (.pointer (some a)))] => some (a, [])
    | _ => none
  ok a h := sentinel_ok a h
theorem faultE_ok (a : Addr) (ha : Plain C0 a) : Tells (C := C0) Tryd.prog (.fn 90) [] [er a, .int .i64 9] (flt (codeOf a)) := by
  refine loc_pc (P := Tryd.prog) (E := ⟨[], [pcSentinel, pcBare], 37, [], [], []⟩) (L := []) mix Tryd.func90 rfl (by kernel_rfl) (by kernel_rfl) rfl rfl ?_
  ((conv => (arg 1; reduce)); with_reducible repeat' (first | exact Tr.yes_h | refine Tr.and_h ?_ ?_ | refine Tr.imp_h fun _ => ?_ | refine Tr.all_h fun _ => ?_ | refine Tr.lf_h ?_))
  all_goals try first | (show Region.lexB _ _ = true; kernel_rfl) | (show planned _ _ = true; kernel_rfl) | exact rfl | exact True.intro
  all_goals first | exact ha | exact absurd (by with_reducible assumption : decide ((9 : Int) = 0) = true) (by decide)
def pcFaultE9 : Pc Tryd.prog C0 where
  tg := .fn 90
  X := Addr
  args a := [er a, .int .i64 9]
  mem _ := []
  pre a := Plain C0 a
  res a := flt (codeOf a)
  mat vs _ := match vs with
    | [.ifc 195 (.val (.pointer (some a))), _] => some (a, [])
    | _ => none
  ok a h := faultE_ok a h
theorem faultT_ok (a : Addr) (ha : Plain C0 a) : Tells (C := C0) Tryd.prog (.fn 64) [] [er a] (flt (codeOf a)) := by
  refine loc_pc (P := Tryd.prog) (E := ⟨[], [pcFaultE9], 8, [], [], []⟩) (L := []) mix Tryd.func64 rfl (by kernel_rfl) (by kernel_rfl) rfl rfl ?_
  ((conv => (arg 1; reduce)); with_reducible repeat' (first | exact Tr.yes_h | refine Tr.and_h ?_ ?_ | refine Tr.imp_h fun _ => ?_ | refine Tr.all_h fun _ => ?_ | refine Tr.lf_h ?_))
  all_goals try first | (show Region.lexB _ _ = true; kernel_rfl) | (show planned _ _ = true; kernel_rfl) | exact rfl | exact True.intro
  all_goals exact ha
def pcFaultT : Pc Tryd.prog C0 where
  tg := .fn 64
  X := Addr
  args a := [er a]
  mem _ := []
  pre a := Plain C0 a
  res a := flt (codeOf a)
  mat vs _ := match vs with
    | [.ifc 195 (.val (.pointer (some a)))] => some (a, [])
    | _ => none
  ok a h := faultT_ok a h
theorem sameE_ok (a : Addr) (c : Int) (ha : Plain C0 a) : Tells (C := C0) Tryd.prog (.fn 47) [] [er a, flt c] (.bool (.tm (decide (codeOf a = c)))) := by
  refine loc_pc (P := Tryd.prog) (E := ⟨[], [pcFaultT, pcSameFault], 11, [], [], []⟩) (L := []) mix Tryd.func47 rfl (by kernel_rfl) (by kernel_rfl) rfl rfl ?_
  ((conv => (arg 1; reduce)); with_reducible repeat' (first | exact Tr.yes_h | refine Tr.and_h ?_ ?_ | refine Tr.imp_h fun _ => ?_ | refine Tr.all_h fun _ => ?_ | refine Tr.lf_h ?_))
  all_goals try first | (show Region.lexB _ _ = true; kernel_rfl) | (show planned _ _ = true; kernel_rfl) | exact rfl | exact True.intro
  all_goals exact ha
def pcSameE : Pc Tryd.prog C0 where
  tg := .fn 47
  X := Addr × Int
  args x := [er x.1, flt x.2]
  mem _ := []
  pre x := Plain C0 x.1
  res x := .bool (.tm (decide (codeOf x.1 = x.2)))
  mat vs _ := match vs with
    | [.ifc 195 (.val (.pointer (some a))), .agg [.int _ c, .nils]] => some ((a, c), [])
    | _ => none
  ok x h := sameE_ok x.1 x.2 h
theorem isE_ok (a : Addr) (c : Int) (ha : Plain C0 a) : Tells (C := C0) Tryd.prog (.fn 23) [] [er a, .int .i64 c] (.bool (.tm (decide (codeOf a = c)))) := by
  refine loc_pc (P := Tryd.prog) (E := ⟨[], [pcBare, pcSameE], 9, [], [], []⟩) (L := []) mix Tryd.func23 rfl (by kernel_rfl) (by kernel_rfl) rfl rfl ?_
  ((conv => (arg 1; reduce)); with_reducible repeat' (first | exact Tr.yes_h | refine Tr.and_h ?_ ?_ | refine Tr.imp_h fun _ => ?_ | refine Tr.all_h fun _ => ?_ | refine Tr.lf_h ?_))
  all_goals try first | (show Region.lexB _ _ = true; kernel_rfl) | (show planned _ _ = true; kernel_rfl) | exact rfl | exact True.intro
  all_goals exact ha
def pcIsE : Pc Tryd.prog C0 where
  tg := .fn 23
  X := Addr × Int
  args x := [er x.1, .int .i64 x.2]
  mem _ := []
  pre x := Plain C0 x.1
  res x := .bool (.tm (decide (codeOf x.1 = x.2)))
  mat vs _ := match vs with
    | [.ifc 195 (.val (.pointer (some a))), .int _ c] => some ((a, c), [])
    | _ => none
  ok x h := isE_ok x.1 x.2 h
end Go.Vx
set_option linter.unusedSectionVars false
set_option maxRecDepth 100000
set_option linter.unusedVariables false
set_option linter.unusedSimpArgs false
namespace Go.Vx
open Go Go.Proofs
variable [Gl]

/-- Two lists of bytes, the same. -/
@[irreducible] def lsEq (A A' : List (Rw Int)) : Bool := decide (A.map (·.l) = A'.map (·.l))
theorem lsEq_iff {A A' : List (Rw Int)} : lsEq A A' = true ↔ A.map (·.l) = A'.map (·.l) := by unfold lsEq; exact decide_eq_true_iff
def Sl4 (A A' : List (Rw Int)) : Inv' C0 := ⟨4, Nat, fun i => [(5, .int .i64 (i : Int))], fun _ m => m, fun i => i ≤ A.length ∧ A.length = A'.length ∧ (A.take i).map (·.l) = (A'.take i).map (·.l), fun i => A.length - i⟩
theorem rows_map_at {A : List (Rw Int)} {v : Nat} (h : v < A.length) : (A.map (·.l)).getD v [] = (A.getD v Rw.nil).l := by
  rw [List.getD_eq_getElem?_getD, List.getElem?_map, List.getElem?_eq_getElem h, List.getD_eq_getElem?_getD, List.getElem?_eq_getElem h]; rfl
theorem sameLists_ok (o : Bool) (b q : Nat) (l : List (Rw Int)) (n c : Nat) (o' : Bool) (b' q' : Nat) (l' : List (Rw Int)) (n' c' : Nat) (h1 : n ≤ l.length) (h1' : n' ≤ l'.length) (ho : o = false → n = 0 ∧ c = 0) (ho' : o' = false → n' = 0 ∧ c' = 0)
    (hr : ∀ r ∈ l.take n, Rok r ∧ Bys r.l) (hr' : ∀ r ∈ l'.take n', Rok r ∧ Bys r.l) (hn : n ≤ 1000000) :
    Tells (C := C0) Tryd.prog (.fn 22) [⟨b, q, 1, false, some o, .rows 26 l⟩, ⟨b', q', 1, false, some o', .rows 26 l'⟩] [.sl 0 0 n c, .sl 1 0 n' c'] (.bool (.tm (lsEq (l.take n) (l'.take n')))) := by
  have hl := tk_len h1
  have hl' := tk_len h1'
  refine loc_pc (P := Tryd.prog) (E := ⟨[], [pcSb], 29, [(6, [], [.p 0, .p 1, .p 4, .p 5, .p 2, .p 6, .q 3, .q 7, .e 8, .p 9])], [fB], []⟩) (L := [Sl4 (l.take n) (l'.take n')]) mix Tryd.func22 rfl (by kernel_rfl) (by kernel_rfl) rfl rfl ?_
  ((conv => (arg 1; reduce)); with_reducible repeat' (first | exact Tr.yes_h | refine Tr.and_h ?_ ?_ | refine Tr.imp_h fun _ => ?_ | refine Tr.all_h fun _ => ?_ | refine Tr.lf_h ?_))
  all_goals try (first | first | (show Region.lexB _ _ = true; kernel_rfl) | (show planned _ _ = true; kernel_rfl) | exact rfl | exact True.intro | ((try dsimp only [imp, C0, cG, cInt, cPl, cSlot, cPg, rwCodec, cRaw] at *); (try refine inR64 ?_ ?_) <;> (try simp only [List.length_set, List.length_append, List.length_take, List.length_drop]) <;> omega))
  all_goals try (first | (first | first | (show Region.lexB _ _ = true; kernel_rfl) | (show planned _ _ = true; kernel_rfl) | exact rfl | exact True.intro | ((try dsimp only [imp, C0, cG, cInt, cPl, cSlot, cPg, rwCodec, cRaw] at *); (try refine inR64 ?_ ?_) <;> (try simp only [List.length_set, List.length_append, List.length_take, List.length_drop]) <;> omega)) | ((try dsimp only [imp, C0, cG, cInt, cPl, cSlot, cPg, rwCodec, cRaw, Sl4] at *); (try simp only [decide_eq_true_eq, decide_eq_false_iff_not, Bool.and_eq_true, Bool.or_eq_true, Bool.or_eq_false_iff, Bool.and_eq_false_iff, Bool.not_eq_true', Bool.not_eq_false', SB.val, List.length_append, List.length_cons, List.length_nil, List.length_take, List.length_drop] at *); (first | omega | exact inR64 (by omega) (by omega) | (refine inR64 ?_ ?_ <;> omega))) | (refine on_of ho ?_; ((try dsimp only [imp, C0, cG, cInt, cPl, cSlot, cPg, rwCodec, cRaw, Sl4] at *); (try simp only [decide_eq_true_eq, decide_eq_false_iff_not, Bool.and_eq_true, Bool.or_eq_true, Bool.or_eq_false_iff, Bool.and_eq_false_iff, Bool.not_eq_true', Bool.not_eq_false', SB.val, List.length_append, List.length_cons, List.length_nil, List.length_take, List.length_drop] at *); (first | omega | exact inR64 (by omega) (by omega) | (refine inR64 ?_ ?_ <;> omega)))) | (refine on_of ho' ?_; ((try dsimp only [imp, C0, cG, cInt, cPl, cSlot, cPg, rwCodec, cRaw, Sl4] at *); (try simp only [decide_eq_true_eq, decide_eq_false_iff_not, Bool.and_eq_true, Bool.or_eq_true, Bool.or_eq_false_iff, Bool.and_eq_false_iff, Bool.not_eq_true', Bool.not_eq_false', SB.val, List.length_append, List.length_cons, List.length_nil, List.length_take, List.length_drop] at *); (first | omega | exact inR64 (by omega) (by omega) | (refine inR64 ?_ ?_ <;> omega)))))
  · rename_i d0
    have d0 : ¬ (n : Int) = (n' : Int) := of_decide_eq_true d0
    refine (Bool.eq_false_iff.2 fun hs => ?_).symm
    have e := congrArg List.length (lsEq_iff.1 hs)
    rw [List.length_map, List.length_map, hl, hl'] at e
    omega
  · rename_i d0
    have d0 : ¬ ¬ (n : Int) = (n' : Int) := of_decide_eq_false d0
    refine Stands.one (0 : Nat) ⟨⟨Nat.zero_le _, by rw [hl, hl']; omega, rfl⟩, ?_⟩
    ((conv => (arg 1; reduce)); with_reducible repeat' (first | exact Tr.yes_h | refine Tr.and_h ?_ ?_ | refine Tr.imp_h fun _ => ?_ | refine Tr.all_h fun _ => ?_ | refine Tr.lf_h ?_))
    all_goals (first | first | (show Region.lexB _ _ = true; kernel_rfl) | (show planned _ _ = true; kernel_rfl) | exact rfl | exact True.intro | ((try dsimp only [imp, C0, cG, cInt, cPl, cSlot, cPg, rwCodec, cRaw] at *); (try refine inR64 ?_ ?_) <;> (try simp only [List.length_set, List.length_append, List.length_take, List.length_drop]) <;> omega))
  · rename_i d0 v hv d1
    change Nat at v
    have d1 : v < n := Int.ofNat_lt.1 (of_decide_eq_true d1)
    show (v : Int).toNat + 0 < l.length
    omega
  · rename_i d0 v hv d1 r g1
    change Nat at v
    have d1 : v < n := Int.ofNat_lt.1 (of_decide_eq_true d1)
    have e2 : (l.take n).length = (l'.take n').length := hv.2.1
    show (v : Int).toNat + 0 < l'.length
    omega
  · rename_i d0 v hv d1 r g1 r' g2
    change Nat at v
    change Rw Int at r
    change Rw Int at r'
    have d1 : v < n := Int.ofNat_lt.1 (of_decide_eq_true d1)
    obtain ⟨e1, e2, e3⟩ : v ≤ (l.take n).length ∧ (l.take n).length = (l'.take n').length ∧ ((l.take n).take v).map (·.l) = ((l'.take n').take v).map (·.l) := hv
    have hnn : n = n' := by omega
    have g1 : l.getD v Rw.nil = r := g1
    have g2 : l'.getD v Rw.nil = r' := g2
    have k1 := hr r (row_mem d1 h1 g1)
    have k2 := hr' r' (row_mem (by omega) h1' g2)
    exact ⟨Nat.le_of_eq (Nat.zero_add _), Nat.le_of_eq (Nat.zero_add _), k1.1.1, k2.1.1, (k1.2.drop 0).take _, (k2.2.drop 0).take _⟩
  · rename_i d0 v hv d1 r g1 r' g2 d2
    change Nat at v
    change Rw Int at r
    change Rw Int at r'
    have d1 : v < n := Int.ofNat_lt.1 (of_decide_eq_true d1)
    obtain ⟨e1, e2, e3⟩ : v ≤ (l.take n).length ∧ (l.take n).length = (l'.take n').length ∧ ((l.take n).take v).map (·.l) = ((l'.take n').take v).map (·.l) := hv
    have hnn : n = n' := by omega
    have g1 : l.getD v Rw.nil = r := g1
    have g2 : l'.getD v Rw.nil = r' := g2
    have d2 : (!ieq (r.l.take r.l.length) (r'.l.take r'.l.length)) = true := d2
    refine (Bool.eq_false_iff.2 fun hs => ?_).symm
    have e := congrArg (fun L => L.getD v []) (lsEq_iff.1 hs)
    simp only at e
    rw [rows_map_at (by rw [hl]; exact d1), rows_map_at (by rw [hl']; omega), tk_at d1, tk_at (by omega), g1, g2] at e
    rw [List.take_length, List.take_length, ieq_yes e] at d2
    cases d2
  · rename_i d0 v hv d1 r g1 r' g2 d2
    change Nat at v
    change Rw Int at r
    change Rw Int at r'
    have d1 : v < n := Int.ofNat_lt.1 (of_decide_eq_true d1)
    obtain ⟨e1, e2, e3⟩ : v ≤ (l.take n).length ∧ (l.take n).length = (l'.take n').length ∧ ((l.take n).take v).map (·.l) = ((l'.take n').take v).map (·.l) := hv
    have hnn : n = n' := by omega
    have g1 : l.getD v Rw.nil = r := g1
    have g2 : l'.getD v Rw.nil = r' := g2
    have d2 : (!ieq (r.l.take r.l.length) (r'.l.take r'.l.length)) = false := d2
    rw [List.take_length, List.take_length] at d2
    have d2 := ieq_iff.1 (by simpa using d2 : ieq r.l r'.l = true)
    refine Stands.one (v + 1 : Nat) ⟨⟨by rw [hl]; exact d1, e2, ?_⟩, ?_, ?_⟩
    · rw [take_snoc (d := Rw.nil) (by rw [hl]; exact d1), take_snoc (d := Rw.nil) (by rw [hl']; omega), List.map_append, List.map_append, e3, tk_at d1, tk_at (by omega), g1, g2]
      simp only [List.map_cons, List.map_nil, d2]
    · show (l.take n).length - (v + 1) < (l.take n).length - v
      rw [hl]; omega
    ((conv => (arg 1; reduce)); with_reducible repeat' (first | exact Tr.yes_h | refine Tr.and_h ?_ ?_ | refine Tr.imp_h fun _ => ?_ | refine Tr.all_h fun _ => ?_ | refine Tr.lf_h ?_))
    all_goals (first | first | (show Region.lexB _ _ = true; kernel_rfl) | (show planned _ _ = true; kernel_rfl) | exact rfl | exact True.intro | ((try dsimp only [imp, C0, cG, cInt, cPl, cSlot, cPg, rwCodec, cRaw] at *); (try refine inR64 ?_ ?_) <;> (try simp only [List.length_set, List.length_append, List.length_take, List.length_drop]) <;> omega))
  · rename_i d0 v hv d1
    change Nat at v
    have d1 := of_decide_eq_false d1
    obtain ⟨e1, e2, e3⟩ : v ≤ (l.take n).length ∧ (l.take n).length = (l'.take n').length ∧ ((l.take n).take v).map (·.l) = ((l'.take n').take v).map (·.l) := hv
    rw [List.take_of_length_le (l := l.take n) (by omega), List.take_of_length_le (l := l'.take n') (by omega)] at e3
    exact (lsEq_iff.2 e3).symm
def pcSameLists : Pc Tryd.prog C0 where
  tg := .fn 22
  X := (Bool × Nat × Nat × List (Rw Int) × Nat × Nat) × (Bool × Nat × Nat × List (Rw Int) × Nat × Nat)
  args := fun ((o, b, q, l, n, c), (o', b', q', l', n', c')) => [.sl 0 0 n c, .sl 1 0 n' c']
  mem := fun ((o, b, q, l, n, c), (o', b', q', l', n', c')) => [⟨b, q, 1, false, some o, .rows 26 l⟩, ⟨b', q', 1, false, some o', .rows 26 l'⟩]
  pre := fun ((o, b, q, l, n, c), (o', b', q', l', n', c')) => n ≤ l.length ∧ n' ≤ l'.length ∧ (o = false → n = 0 ∧ c = 0) ∧ (o' = false → n' = 0 ∧ c' = 0) ∧ (∀ r ∈ l.take n, Rok r ∧ Bys r.l) ∧ (∀ r ∈ l'.take n', Rok r ∧ Bys r.l) ∧ n ≤ 1000000
  res := fun ((o, b, q, l, n, c), (o', b', q', l', n', c')) => .bool (.tm (lsEq (l.take n) (l'.take n')))
  mat vs m := match vs with
    | [.sl a 0 n c, .sl a' 0 n' c'] => match nth m a, nth m a' with
      | ⟨b, q, _, _, g, .rows 26 l⟩, ⟨b', q', _, _, g', .rows 26 l'⟩ => some (((onOf g, b, q, l, n, c), (onOf g', b', q', l', n', c')), [a, a'])
      | _, _ => none
    | [.nils, .sl a' 0 n' c'] => match nth m a' with
      | ⟨b', q', _, _, g', .rows 26 l'⟩ => some (((false, 0, 0, [], 0, 0), (onOf g', b', q', l', n', c')), [m.length, a'])
      | _ => none
    | [.sl a 0 n c, .nils] => match nth m a with
      | ⟨b, q, _, _, g, .rows 26 l⟩ => some (((onOf g, b, q, l, n, c), (false, 0, 0, [], 0, 0)), [a, m.length])
      | _ => none
    | [.nils, .nils] => some (((false, 0, 0, [], 0, 0), (false, 0, 0, [], 0, 0)), [m.length, m.length + 1])
    | _ => none
  ok := fun ((o, b, q, l, n, c), (o', b', q', l', n', c')) h => sameLists_ok o b q l n c o' b' q' l' n' c' h.1 h.2.1 h.2.2.1 h.2.2.2.1 h.2.2.2.2.1 h.2.2.2.2.2.1 h.2.2.2.2.2.2
end Go.Vx
namespace Go.Vx
open Go
def getOps : Code → Nat → Option (Array Oper)
  | .region id ops _, n => match Nat.beq id n with
    | true => some ops
    | false => none
  | .seq a b, n => match getOps a n with
    | some o => some o
    | none => getOps b n
  | .cond _ a b, n => match getOps a n with
    | some o => some o
    | none => getOps b n
  | .block _ c, n => getOps c n
  | .loop c, n => getOps c n
  | _, _ => none
def opsOf (fn : Func) (n : Nat) : Option (Array Oper) := match fn.body with
  | some c => getOps c n
  | none => none
def stepOK (ops : Array Oper) (W : List Nat) : Tk → Array Bool → Bool
  | .p i, listed => (Region.ready .any ops listed).contains i && Region.free .any ops listed i && !kW W i && reachP ops [] false i listed (Array.replicate ops.size true)
  | .e i, listed => (match Region.ready .any ops listed with
      | [j] => Nat.beq j i
      | _ => false) && kW W i
  | _, _ => false
def tkI : Tk → Nat
  | .p i => i
  | .q i => i
  | .e i => i
  | .f i => i
  | .t _ => 0
def stepsOK (ops : Array Oper) (W : List Nat) : List Tk → Array Bool → Bool
  | [], _ => true
  | t :: r, listed => stepOK ops W t listed && stepsOK ops W r (listed.setIfInBounds (tkI t) true)
def listedBy : List Tk → Array Bool → Array Bool
  | [], l => l
  | t :: r, l => listedBy r (l.setIfInBounds (tkI t) true)
theorem plan_cut {ops : Array Oper} {W : List Nat} : ∀ (a b : List Tk) (listed : Array Bool), stepsOK ops W a listed = true → planOK ops W [] false (PTree.of b) (listedBy a listed) = true → planOK ops W [] false (PTree.of (a ++ b)) listed = true
  | [], b, listed, _, h => h
  | t :: r, b, listed, hs, h => by
    simp only [stepsOK, Bool.and_eq_true] at hs
    have ih := plan_cut r b _ hs.2 h
    cases t with
    | p i =>
      simp only [stepOK, Bool.and_eq_true] at hs
      simp only [List.cons_append, PTree.of, planOK, Bool.and_eq_true]
      exact ⟨⟨⟨⟨hs.1.1.1.1, hs.1.1.1.2⟩, hs.1.1.2⟩, hs.1.2⟩, ih⟩
    | e i =>
      simp only [stepOK, Bool.and_eq_true] at hs
      simp only [List.cons_append, PTree.of, planOK, Bool.and_eq_true]
      exact ⟨⟨hs.1.1, hs.1.2⟩, ih⟩
    | q i => simp [stepOK] at hs
    | f i => simp [stepOK] at hs
    | t i => simp [stepOK] at hs
/-- The same with operations that read (q), and one that turns what stayed (f). -/
def stepOKL (ops : Array Oper) (W L : List Nat) (late : Bool) : Tk → Array Bool → Bool
  | .p i, listed => (Region.ready .any ops listed).contains i && Region.free .any ops listed i && !kW W i &&
      reachP ops L late i listed (if late || L.isEmpty then Array.replicate ops.size true else reach ops i ops.size listed)
  | .q i, listed => (Region.ready .any ops listed).contains i && Region.free .any ops listed i && !kW W i && reachOK ops W i listed (reach ops i ops.size listed)
  | .e i, listed => (match Region.ready .any ops listed with
      | [j] => Nat.beq j i
      | _ => false) && kW W i
  | .f i, listed => (match Region.ready .any ops listed with
      | [j] => Nat.beq j i
      | _ => false) && kW W i && L.contains i
  | .t _, _ => false
def lateBy : Bool → List Tk → Bool
  | late, [] => late
  | _, .f _ :: r => lateBy true r
  | late, .p _ :: r => lateBy late r
  | late, .q _ :: r => lateBy late r
  | late, .e _ :: r => lateBy late r
  | late, .t _ :: r => lateBy late r
def stepsOKL (ops : Array Oper) (W L : List Nat) : Bool → List Tk → Array Bool → Bool
  | _, [], _ => true
  | late, t :: r, listed => stepOKL ops W L late t listed && stepsOKL ops W L (lateBy late [t]) r (listed.setIfInBounds (tkI t) true)
theorem plan_cutL {ops : Array Oper} {W L : List Nat} : ∀ (a b : List Tk) (late : Bool) (listed : Array Bool), stepsOKL ops W L late a listed = true → planOK ops W L (lateBy late a) (PTree.of b) (listedBy a listed) = true → planOK ops W L late (PTree.of (a ++ b)) listed = true
  | [], b, late, listed, _, h => h
  | t :: r, b, late, listed, hs, h => by
    simp only [stepsOKL, Bool.and_eq_true] at hs
    cases t with
    | p i =>
      have ih := plan_cutL r b _ _ hs.2 h
      have h1 := hs.1
      simp only [stepOKL, Bool.and_eq_true] at h1
      simp only [List.cons_append, PTree.of, planOK, Bool.and_eq_true]
      exact ⟨⟨⟨⟨h1.1.1.1, h1.1.1.2⟩, h1.1.2⟩, h1.2⟩, ih⟩
    | q i =>
      have ih := plan_cutL r b _ _ hs.2 h
      have h1 := hs.1
      simp only [stepOKL, Bool.and_eq_true] at h1
      simp only [List.cons_append, PTree.of, planOK, Bool.and_eq_true]
      exact ⟨⟨⟨⟨h1.1.1.1, h1.1.1.2⟩, h1.1.2⟩, h1.2⟩, ih⟩
    | e i =>
      have ih := plan_cutL r b _ _ hs.2 h
      have h1 := hs.1
      simp only [stepOKL, Bool.and_eq_true] at h1
      simp only [List.cons_append, PTree.of, planOK, Bool.and_eq_true]
      exact ⟨⟨h1.1, h1.2⟩, ih⟩
    | f i =>
      have ih := plan_cutL r b _ _ hs.2 h
      have h1 := hs.1
      simp only [stepOKL, Bool.and_eq_true] at h1
      simp only [List.cons_append, PTree.of, planOK, Bool.and_eq_true]
      exact ⟨⟨⟨h1.1.1, h1.1.2⟩, h1.2⟩, ih⟩
    | t i => simp [stepOKL] at hs
end Go.Vx
set_option maxRecDepth 1000000
namespace Go.Vx
open Go Go.Proofs

abbrev madeA : List Tk := [.p 0, .p 2, .p 4, .p 9, .p 11, .p 1, .q 3, .p 5, .q 6, .p 7, .q 8, .q 10, .p 12, .q 13, .p 14, .q 15, .p 16, .e 17, .e 18, .p 19, .f 20]
noncomputable def madeA_ops : Array Oper := match opsOf Tryd.f11 5 with
  | some o => o
  | none => #[]
def madeA_w : List Nat := [17, 18, 20]
def madeA_f : List Nat := [20]
def madeA_l0 : Array Bool := #[false, false, false, false, false, false, false, false, false, false, false, false, false, false, false, false, false, false, false, false, false]
theorem madeA_s0 : stepsOKL madeA_ops madeA_w madeA_f false [.p 0, .p 2, .p 4, .p 9] madeA_l0 = true := by kernel_rfl
def madeA_l1 : Array Bool := #[true, false, true, false, true, false, false, false, false, true, false, false, false, false, false, false, false, false, false, false, false]
theorem madeA_a0 : listedBy [.p 0, .p 2, .p 4, .p 9] madeA_l0 = madeA_l1 := by kernel_rfl
theorem madeA_s1 : stepsOKL madeA_ops madeA_w madeA_f false [.p 11, .p 1, .q 3, .p 5] madeA_l1 = true := by kernel_rfl
def madeA_l2 : Array Bool := #[true, true, true, true, true, true, false, false, false, true, false, true, false, false, false, false, false, false, false, false, false]
theorem madeA_a1 : listedBy [.p 11, .p 1, .q 3, .p 5] madeA_l1 = madeA_l2 := by kernel_rfl
theorem madeA_s2 : stepsOKL madeA_ops madeA_w madeA_f false [.q 6, .p 7, .q 8, .q 10] madeA_l2 = true := by kernel_rfl
def madeA_l3 : Array Bool := #[true, true, true, true, true, true, true, true, true, true, true, true, false, false, false, false, false, false, false, false, false]
theorem madeA_a2 : listedBy [.q 6, .p 7, .q 8, .q 10] madeA_l2 = madeA_l3 := by kernel_rfl
theorem madeA_s3 : stepsOKL madeA_ops madeA_w madeA_f false [.p 12, .q 13, .p 14, .q 15] madeA_l3 = true := by kernel_rfl
def madeA_l4 : Array Bool := #[true, true, true, true, true, true, true, true, true, true, true, true, true, true, true, true, false, false, false, false, false]
theorem madeA_a3 : listedBy [.p 12, .q 13, .p 14, .q 15] madeA_l3 = madeA_l4 := by kernel_rfl
theorem madeA_s4 : stepsOKL madeA_ops madeA_w madeA_f false [.p 16, .e 17, .e 18, .p 19] madeA_l4 = true := by kernel_rfl
def madeA_l5 : Array Bool := #[true, true, true, true, true, true, true, true, true, true, true, true, true, true, true, true, true, true, true, true, false]
theorem madeA_a4 : listedBy [.p 16, .e 17, .e 18, .p 19] madeA_l4 = madeA_l5 := by kernel_rfl
theorem madeA_s5 : stepsOKL madeA_ops madeA_w madeA_f false [.f 20] madeA_l5 = true := by kernel_rfl
def madeA_l6 : Array Bool := #[true, true, true, true, true, true, true, true, true, true, true, true, true, true, true, true, true, true, true, true, true]
theorem madeA_a5 : listedBy [.f 20] madeA_l5 = madeA_l6 := by kernel_rfl
theorem madeA_k6 : planOK madeA_ops madeA_w madeA_f true (PTree.of []) madeA_l6 = true := by kernel_rfl
theorem madeA_k5 : planOK madeA_ops madeA_w madeA_f false (PTree.of [.f 20]) madeA_l5 = true := plan_cutL [.f 20] _ _ _ madeA_s5 (by rw [madeA_a5]; exact madeA_k6)
theorem madeA_k4 : planOK madeA_ops madeA_w madeA_f false (PTree.of [.p 16, .e 17, .e 18, .p 19, .f 20]) madeA_l4 = true := plan_cutL [.p 16, .e 17, .e 18, .p 19] _ _ _ madeA_s4 (by rw [madeA_a4]; exact madeA_k5)
theorem madeA_k3 : planOK madeA_ops madeA_w madeA_f false (PTree.of [.p 12, .q 13, .p 14, .q 15, .p 16, .e 17, .e 18, .p 19, .f 20]) madeA_l3 = true := plan_cutL [.p 12, .q 13, .p 14, .q 15] _ _ _ madeA_s3 (by rw [madeA_a3]; exact madeA_k4)
theorem madeA_k2 : planOK madeA_ops madeA_w madeA_f false (PTree.of [.q 6, .p 7, .q 8, .q 10, .p 12, .q 13, .p 14, .q 15, .p 16, .e 17, .e 18, .p 19, .f 20]) madeA_l2 = true := plan_cutL [.q 6, .p 7, .q 8, .q 10] _ _ _ madeA_s2 (by rw [madeA_a2]; exact madeA_k3)
theorem madeA_k1 : planOK madeA_ops madeA_w madeA_f false (PTree.of [.p 11, .p 1, .q 3, .p 5, .q 6, .p 7, .q 8, .q 10, .p 12, .q 13, .p 14, .q 15, .p 16, .e 17, .e 18, .p 19, .f 20]) madeA_l1 = true := plan_cutL [.p 11, .p 1, .q 3, .p 5] _ _ _ madeA_s1 (by rw [madeA_a1]; exact madeA_k2)
theorem madeA_k0 : planOK madeA_ops madeA_w madeA_f false (PTree.of [.p 0, .p 2, .p 4, .p 9, .p 11, .p 1, .q 3, .p 5, .q 6, .p 7, .q 8, .q 10, .p 12, .q 13, .p 14, .q 15, .p 16, .e 17, .e 18, .p 19, .f 20]) madeA_l0 = true := plan_cutL [.p 0, .p 2, .p 4, .p 9] _ _ _ madeA_s0 (by rw [madeA_a0]; exact madeA_k1)
theorem madeA_ok (ops : Array Oper) (h : opsOf Tryd.f11 5 = some ops) : planned ops (PTree.of madeA) = true := by
  have e : ops = madeA_ops := by unfold madeA_ops; rw [h]
  subst e
  unfold planned
  rw [show effs (PTree.of madeA) = madeA_w from rfl, show lates (PTree.of madeA) = madeA_f from rfl, show Array.replicate madeA_ops.size false = madeA_l0 by kernel_rfl, madeA_k0, show Region.noSelect madeA_ops = true by kernel_rfl, show Nat.beq (PTree.of madeA).len madeA_ops.size = true by kernel_rfl]
  rfl
abbrev madeB : List Tk := [.p 0, .p 2, .p 4, .p 8, .p 10, .p 14, .p 16, .p 1, .q 3, .p 5, .p 6, .q 7, .q 9, .p 11, .p 12, .q 13, .q 15, .p 17, .p 18, .q 19, .p 20, .e 21, .e 22, .p 23, .f 24]
noncomputable def madeB_ops : Array Oper := match opsOf Tryd.f11 9 with
  | some o => o
  | none => #[]
def madeB_w : List Nat := [21, 22, 24]
def madeB_f : List Nat := [24]
def madeB_l0 : Array Bool := #[false, false, false, false, false, false, false, false, false, false, false, false, false, false, false, false, false, false, false, false, false, false, false, false, false]
theorem madeB_s0 : stepsOKL madeB_ops madeB_w madeB_f false [.p 0, .p 2, .p 4, .p 8] madeB_l0 = true := by kernel_rfl
def madeB_l1 : Array Bool := #[true, false, true, false, true, false, false, false, true, false, false, false, false, false, false, false, false, false, false, false, false, false, false, false, false]
theorem madeB_a0 : listedBy [.p 0, .p 2, .p 4, .p 8] madeB_l0 = madeB_l1 := by kernel_rfl
theorem madeB_s1 : stepsOKL madeB_ops madeB_w madeB_f false [.p 10, .p 14, .p 16, .p 1] madeB_l1 = true := by kernel_rfl
def madeB_l2 : Array Bool := #[true, true, true, false, true, false, false, false, true, false, true, false, false, false, true, false, true, false, false, false, false, false, false, false, false]
theorem madeB_a1 : listedBy [.p 10, .p 14, .p 16, .p 1] madeB_l1 = madeB_l2 := by kernel_rfl
theorem madeB_s2 : stepsOKL madeB_ops madeB_w madeB_f false [.q 3, .p 5, .p 6, .q 7] madeB_l2 = true := by kernel_rfl
def madeB_l3 : Array Bool := #[true, true, true, true, true, true, true, true, true, false, true, false, false, false, true, false, true, false, false, false, false, false, false, false, false]
theorem madeB_a2 : listedBy [.q 3, .p 5, .p 6, .q 7] madeB_l2 = madeB_l3 := by kernel_rfl
theorem madeB_s3 : stepsOKL madeB_ops madeB_w madeB_f false [.q 9, .p 11, .p 12, .q 13] madeB_l3 = true := by kernel_rfl
def madeB_l4 : Array Bool := #[true, true, true, true, true, true, true, true, true, true, true, true, true, true, true, false, true, false, false, false, false, false, false, false, false]
theorem madeB_a3 : listedBy [.q 9, .p 11, .p 12, .q 13] madeB_l3 = madeB_l4 := by kernel_rfl
theorem madeB_s4 : stepsOKL madeB_ops madeB_w madeB_f false [.q 15, .p 17, .p 18, .q 19] madeB_l4 = true := by kernel_rfl
def madeB_l5 : Array Bool := #[true, true, true, true, true, true, true, true, true, true, true, true, true, true, true, true, true, true, true, true, false, false, false, false, false]
theorem madeB_a4 : listedBy [.q 15, .p 17, .p 18, .q 19] madeB_l4 = madeB_l5 := by kernel_rfl
theorem madeB_s5 : stepsOKL madeB_ops madeB_w madeB_f false [.p 20, .e 21, .e 22, .p 23] madeB_l5 = true := by kernel_rfl
def madeB_l6 : Array Bool := #[true, true, true, true, true, true, true, true, true, true, true, true, true, true, true, true, true, true, true, true, true, true, true, true, false]
theorem madeB_a5 : listedBy [.p 20, .e 21, .e 22, .p 23] madeB_l5 = madeB_l6 := by kernel_rfl
theorem madeB_s6 : stepsOKL madeB_ops madeB_w madeB_f false [.f 24] madeB_l6 = true := by kernel_rfl
def madeB_l7 : Array Bool := #[true, true, true, true, true, true, true, true, true, true, true, true, true, true, true, true, true, true, true, true, true, true, true, true, true]
theorem madeB_a6 : listedBy [.f 24] madeB_l6 = madeB_l7 := by kernel_rfl
theorem madeB_k7 : planOK madeB_ops madeB_w madeB_f true (PTree.of []) madeB_l7 = true := by kernel_rfl
theorem madeB_k6 : planOK madeB_ops madeB_w madeB_f false (PTree.of [.f 24]) madeB_l6 = true := plan_cutL [.f 24] _ _ _ madeB_s6 (by rw [madeB_a6]; exact madeB_k7)
theorem madeB_k5 : planOK madeB_ops madeB_w madeB_f false (PTree.of [.p 20, .e 21, .e 22, .p 23, .f 24]) madeB_l5 = true := plan_cutL [.p 20, .e 21, .e 22, .p 23] _ _ _ madeB_s5 (by rw [madeB_a5]; exact madeB_k6)
theorem madeB_k4 : planOK madeB_ops madeB_w madeB_f false (PTree.of [.q 15, .p 17, .p 18, .q 19, .p 20, .e 21, .e 22, .p 23, .f 24]) madeB_l4 = true := plan_cutL [.q 15, .p 17, .p 18, .q 19] _ _ _ madeB_s4 (by rw [madeB_a4]; exact madeB_k5)
theorem madeB_k3 : planOK madeB_ops madeB_w madeB_f false (PTree.of [.q 9, .p 11, .p 12, .q 13, .q 15, .p 17, .p 18, .q 19, .p 20, .e 21, .e 22, .p 23, .f 24]) madeB_l3 = true := plan_cutL [.q 9, .p 11, .p 12, .q 13] _ _ _ madeB_s3 (by rw [madeB_a3]; exact madeB_k4)
theorem madeB_k2 : planOK madeB_ops madeB_w madeB_f false (PTree.of [.q 3, .p 5, .p 6, .q 7, .q 9, .p 11, .p 12, .q 13, .q 15, .p 17, .p 18, .q 19, .p 20, .e 21, .e 22, .p 23, .f 24]) madeB_l2 = true := plan_cutL [.q 3, .p 5, .p 6, .q 7] _ _ _ madeB_s2 (by rw [madeB_a2]; exact madeB_k3)
theorem madeB_k1 : planOK madeB_ops madeB_w madeB_f false (PTree.of [.p 10, .p 14, .p 16, .p 1, .q 3, .p 5, .p 6, .q 7, .q 9, .p 11, .p 12, .q 13, .q 15, .p 17, .p 18, .q 19, .p 20, .e 21, .e 22, .p 23, .f 24]) madeB_l1 = true := plan_cutL [.p 10, .p 14, .p 16, .p 1] _ _ _ madeB_s1 (by rw [madeB_a1]; exact madeB_k2)
theorem madeB_k0 : planOK madeB_ops madeB_w madeB_f false (PTree.of [.p 0, .p 2, .p 4, .p 8, .p 10, .p 14, .p 16, .p 1, .q 3, .p 5, .p 6, .q 7, .q 9, .p 11, .p 12, .q 13, .q 15, .p 17, .p 18, .q 19, .p 20, .e 21, .e 22, .p 23, .f 24]) madeB_l0 = true := plan_cutL [.p 0, .p 2, .p 4, .p 8] _ _ _ madeB_s0 (by rw [madeB_a0]; exact madeB_k1)
theorem madeB_ok (ops : Array Oper) (h : opsOf Tryd.f11 9 = some ops) : planned ops (PTree.of madeB) = true := by
  have e : ops = madeB_ops := by unfold madeB_ops; rw [h]
  subst e
  unfold planned
  rw [show effs (PTree.of madeB) = madeB_w from rfl, show lates (PTree.of madeB) = madeB_f from rfl, show Array.replicate madeB_ops.size false = madeB_l0 by kernel_rfl, madeB_k0, show Region.noSelect madeB_ops = true by kernel_rfl, show Nat.beq (PTree.of madeB).len madeB_ops.size = true by kernel_rfl]
  rfl
end Go.Vx
set_option linter.unusedSectionVars false
set_option maxRecDepth 100000
set_option linter.unusedVariables false
set_option linter.unusedSimpArgs false
namespace Go.Vx
open Go Go.Proofs
variable [Gl]

/-- A block az the program has it. -/
@[irreducible] def blkOf (r : Rw Int) : Pl := (r.l.getD 0 0, r.l.getD 1 0)
abbrev hdE (h : Hd) (a b : SV) : List SV := [.int .i64 h.1, .int .i64 h.2.1, .int .i64 h.2.2.1, .int .i64 h.2.2.2, a, b]
/-- The rows of a grown list: the first i of L. -/
def Grw {α : Type} (L l : List α) (o : Bool) (i c : Nat) : Prop := i = L.length ∧ l.take i = L ∧ i ≤ c ∧ c ≤ l.length ∧ (o = false → i = 0 ∧ c = 0)
theorem Grw.app {α : Type} {L l sp : List α} {o : Bool} {x : α} {i c c' : Nat} (h : Grw L l o i c) (h1 : i + 1 ≤ c') (h2 : c' ≤ i + 1 + sp.length) : Grw (L ++ [x]) (l.take i ++ [x] ++ sp) true (i + 1) c' := by
  obtain ⟨e1, e2, e3, e4, e5⟩ := h
  have hl : (l.take i).length = i := by rw [List.length_take]; omega
  refine ⟨by rw [List.length_append, ← e1]; rfl, ?_, h1, by rw [List.length_append, List.length_append, hl]; exact h2, fun h => Bool.noConfusion h⟩
  rw [List.take_append_of_le_length (by rw [List.length_append, hl]; exact Nat.le_refl _), List.take_of_length_le (by rw [List.length_append, hl]; exact Nat.le_refl _), e2]
theorem by87 : Tryd.prog.types[87].bytes = 16 := by kernel_rfl
theorem by88 : Tryd.prog.types[88].bytes = 72 := by kernel_rfl
abbrev Gx (α : Type) := Nat × Bool × Nat × Nat × List α × Nat
def Md3 (h : Hd) (A : List (Rw Int)) : Inv' C0 := ⟨3, Gx Pl, fun x => [(4, .int .i64 (x.1 : Int))], fun x m => match m with
  | [a0, a1, bx, rs, y] => [a0, a1, bx, rs, ⟨y.block, y.base, 6, true, none, .one (hdE h (.sl 5 0 x.1 x.2.2.2.2.2) .nils)⟩, ⟨x.2.2.1, x.2.2.2.1, 2, true, some x.2.1, .rows 87 x.2.2.2.2.1⟩]
  | m => m, fun x => x.1 ≤ A.length ∧ Grw ((A.take x.1).map blkOf) x.2.2.2.2.1 x.2.1 x.1 x.2.2.2.2.2, fun x => A.length - x.1⟩
def Md7 (h : Hd) (B : List Slot) : Inv' C0 := ⟨7, Gx Slot, fun x => [(5, .int .i64 (x.1 : Int))], fun x m => match m with
  | [a0, a1, bx, rs, y, bl] => match y.cells with
    | .one [_, _, _, _, sb, _] => [a0, a1, bx, rs, ⟨y.block, y.base, 6, true, none, .one (hdE h sb (.sl 6 0 x.1 x.2.2.2.2.2))⟩, bl, ⟨x.2.2.1, x.2.2.2.1, 9, true, some x.2.1, .rows 88 x.2.2.2.2.1⟩]
    | _ => m
  | m => m, fun x => x.1 ≤ B.length ∧ Grw (B.take x.1) x.2.2.2.2.1 x.2.1 x.1 x.2.2.2.2.2, fun x => B.length - x.1⟩
set_option maxHeartbeats 8000000 in
theorem made_ok (h : Hd) (o : Bool) (b q : Nat) (l : List (Rw Int)) (n c : Nat) (o2 : Bool) (b2 q2 : Nat) (l2 : List Slot) (n2 c2 : Nat)
    (h1 : Sq.ok (o, b, q, l, n, c)) (h2 : Sq.ok (o2, b2, q2, l2, n2, c2)) (hr : ∀ r ∈ l.take n, Rok r ∧ r.l.length = 2) (hn : n ≤ 70) (hn2 : n2 ≤ 100) :
    Does (C := C0) Tryd.prog (.fn 11) [⟨b, q, 1, false, some o, .rows 71 l⟩, ⟨b2, q2, 9, false, some o2, .rows 74 l2⟩] [ptv h (.sl 0 0 n c) (.sl 1 0 n2 c2)]
    [⟨Gx Pl × Gx Slot, fun y => Grw ((l.take n).map blkOf) y.1.2.2.2.2.1 y.1.2.1 n y.1.2.2.2.2.2 ∧ Grw (l2.take n2) y.2.2.2.2.2.1 y.2.2.1 n2 y.2.2.2.2.2.2, fun y => ptv h (.sl 2 0 n y.1.2.2.2.2.2) (.sl 3 0 n2 y.2.2.2.2.2.2),
      fun y => [⟨b, q, 1, false, some o, .rows 71 l⟩, ⟨b2, q2, 9, false, some o2, .rows 74 l2⟩, ⟨y.1.2.2.1, y.1.2.2.2.1, 2, true, some y.1.2.1, .rows 87 y.1.2.2.2.2.1⟩, ⟨y.2.2.2.1, y.2.2.2.2.1, 9, true, some y.2.2.1, .rows 88 y.2.2.2.2.2.1⟩]⟩] := by
  have hnl : n ≤ l.length := h1.2.1
  have hnl2 : n2 ≤ l2.length := h2.2.1
  refine loc_fn (P := Tryd.prog) (E := ⟨[], [], 74, [(5, [4], madeA),
    (9, [4], madeB)], [fI], []⟩) (L := [Md3 h (l.take n), Md7 h (l2.take n2)]) mix Tryd.func11 rfl (by kernel_rfl) (by kernel_rfl) rfl rfl ?_
  ((conv => (arg 1; reduce)); with_reducible repeat' (first | exact Tr.yes_h | refine Tr.and_h ?_ ?_ | refine Tr.imp_h fun _ => ?_ | refine Tr.all_h fun _ => ?_ | refine Tr.lf_h ?_))
  all_goals try exact madeA_ok _ (by kernel_rfl)
  all_goals try exact madeB_ok _ (by kernel_rfl)
  all_goals try (first | first | (show Region.lexB _ _ = true; kernel_rfl) | (show planned _ _ = true; kernel_rfl) | exact rfl | exact True.intro | ((try dsimp only [imp, C0, cG, cInt, cPl, cSlot, cPg, rwCodec, cRaw] at *); (try refine inR64 ?_ ?_) <;> (try simp only [List.length_set, List.length_append, List.length_take, List.length_drop]) <;> omega))
  · rename_i b0 b1 b2
    refine Stands.one (0, false, 0, 0, [], 0) ⟨⟨Nat.zero_le _, rfl, rfl, Nat.le_refl _, Nat.le_refl _, fun _ => ⟨rfl, rfl⟩⟩, ?_⟩
    ((conv => (arg 1; reduce)); with_reducible repeat' (first | exact Tr.yes_h | refine Tr.and_h ?_ ?_ | refine Tr.imp_h fun _ => ?_ | refine Tr.all_h fun _ => ?_ | refine Tr.lf_h ?_))
    all_goals (first | first | (show Region.lexB _ _ = true; kernel_rfl) | (show planned _ _ = true; kernel_rfl) | exact rfl | exact True.intro | ((try dsimp only [imp, C0, cG, cInt, cPl, cSlot, cPg, rwCodec, cRaw] at *); (try refine inR64 ?_ ?_) <;> (try simp only [List.length_set, List.length_append, List.length_take, List.length_drop]) <;> omega))
  · rename_i b0 b1 b2 v hv h3
    obtain ⟨v, on, vb, vq, vl, vc⟩ := v
    obtain ⟨e1, e2⟩ : v ≤ (l.take n).length ∧ Grw (((l.take n).take v).map blkOf) vl on v vc := hv
    have h3 : v < n := Int.ofNat_lt.1 (of_decide_eq_true h3)
    exact on_of h1.2.2 (Nat.lt_of_le_of_lt (Nat.zero_le _) h3)
  · rename_i b0 b1 b2 v hv h3
    obtain ⟨v, on, vb, vq, vl, vc⟩ := v
    obtain ⟨e1, e2⟩ : v ≤ (l.take n).length ∧ Grw (((l.take n).take v).map blkOf) vl on v vc := hv
    have h3 : v < n := Int.ofNat_lt.1 (of_decide_eq_true h3)
    exact Int.ofNat_lt.2 h3
  · rename_i b0 b1 b2 v hv h3
    obtain ⟨v, on, vb, vq, vl, vc⟩ := v
    obtain ⟨e1, e2⟩ : v ≤ (l.take n).length ∧ Grw (((l.take n).take v).map blkOf) vl on v vc := hv
    have h3 : v < n := Int.ofNat_lt.1 (of_decide_eq_true h3)
    exact on_of h1.2.2 (Nat.lt_of_le_of_lt (Nat.zero_le _) h3)
  · rename_i b0 b1 b2 v hv h3
    obtain ⟨v, on, vb, vq, vl, vc⟩ := v
    obtain ⟨e1, e2⟩ : v ≤ (l.take n).length ∧ Grw (((l.take n).take v).map blkOf) vl on v vc := hv
    have h3 : v < n := Int.ofNat_lt.1 (of_decide_eq_true h3)
    show (v : Int).toNat + 0 < l.length
    omega
  · rename_i b0 b1 b2 v hv h3 r hr1
    obtain ⟨v, on, vb, vq, vl, vc⟩ := v
    obtain ⟨e1, e2⟩ : v ≤ (l.take n).length ∧ Grw (((l.take n).take v).map blkOf) vl on v vc := hv
    have h3 : v < n := Int.ofNat_lt.1 (of_decide_eq_true h3)
    change Rw Int at r
    have hr1 : l.getD v Rw.nil = r := hr1
    obtain ⟨⟨g1, g2, g3⟩, g4⟩ := hr r (row_mem h3 hnl hr1)
    exact on_of g1 (by omega)
  · rename_i b0 b1 b2 v hv h3 r hr1
    obtain ⟨v, on, vb, vq, vl, vc⟩ := v
    obtain ⟨e1, e2⟩ : v ≤ (l.take n).length ∧ Grw (((l.take n).take v).map blkOf) vl on v vc := hv
    have h3 : v < n := Int.ofNat_lt.1 (of_decide_eq_true h3)
    change Rw Int at r
    have hr1 : l.getD v Rw.nil = r := hr1
    obtain ⟨⟨g1, g2, g3⟩, g4⟩ := hr r (row_mem h3 hnl hr1)
    show (0 : Int) < ((r.l.length : Nat) : Int)
    rw [g4]; decide
  · rename_i b0 b1 b2 v hv h3 r hr1
    obtain ⟨v, on, vb, vq, vl, vc⟩ := v
    obtain ⟨e1, e2⟩ : v ≤ (l.take n).length ∧ Grw (((l.take n).take v).map blkOf) vl on v vc := hv
    have h3 : v < n := Int.ofNat_lt.1 (of_decide_eq_true h3)
    change Rw Int at r
    have hr1 : l.getD v Rw.nil = r := hr1
    obtain ⟨⟨g1, g2, g3⟩, g4⟩ := hr r (row_mem h3 hnl hr1)
    exact on_of g1 (by omega)
  · rename_i b0 b1 b2 v hv h3 r hr1
    obtain ⟨v, on, vb, vq, vl, vc⟩ := v
    obtain ⟨e1, e2⟩ : v ≤ (l.take n).length ∧ Grw (((l.take n).take v).map blkOf) vl on v vc := hv
    have h3 : v < n := Int.ofNat_lt.1 (of_decide_eq_true h3)
    change Rw Int at r
    have hr1 : l.getD v Rw.nil = r := hr1
    obtain ⟨⟨g1, g2, g3⟩, g4⟩ := hr r (row_mem h3 hnl hr1)
    show (0 : Int).toNat + 0 < r.l.length
    rw [g4]; decide
  · rename_i b0 b1 b2 v hv h3 r hr1
    obtain ⟨v, on, vb, vq, vl, vc⟩ := v
    obtain ⟨e1, e2⟩ : v ≤ (l.take n).length ∧ Grw (((l.take n).take v).map blkOf) vl on v vc := hv
    have h3 : v < n := Int.ofNat_lt.1 (of_decide_eq_true h3)
    exact on_of h1.2.2 (Nat.lt_of_le_of_lt (Nat.zero_le _) h3)
  · rename_i b0 b1 b2 v hv h3 r hr1
    obtain ⟨v, on, vb, vq, vl, vc⟩ := v
    obtain ⟨e1, e2⟩ : v ≤ (l.take n).length ∧ Grw (((l.take n).take v).map blkOf) vl on v vc := hv
    have h3 : v < n := Int.ofNat_lt.1 (of_decide_eq_true h3)
    exact Int.ofNat_lt.2 h3
  · rename_i b0 b1 b2 v hv h3 r hr1
    obtain ⟨v, on, vb, vq, vl, vc⟩ := v
    obtain ⟨e1, e2⟩ : v ≤ (l.take n).length ∧ Grw (((l.take n).take v).map blkOf) vl on v vc := hv
    have h3 : v < n := Int.ofNat_lt.1 (of_decide_eq_true h3)
    exact on_of h1.2.2 (Nat.lt_of_le_of_lt (Nat.zero_le _) h3)
  · rename_i b0 b1 b2 v hv h3 r hr1
    obtain ⟨v, on, vb, vq, vl, vc⟩ := v
    obtain ⟨e1, e2⟩ : v ≤ (l.take n).length ∧ Grw (((l.take n).take v).map blkOf) vl on v vc := hv
    have h3 : v < n := Int.ofNat_lt.1 (of_decide_eq_true h3)
    show (v : Int).toNat + 0 < l.length
    omega
  · rename_i b0 b1 b2 v hv h3 r hr1 r2 hr2
    obtain ⟨v, on, vb, vq, vl, vc⟩ := v
    obtain ⟨e1, e2⟩ : v ≤ (l.take n).length ∧ Grw (((l.take n).take v).map blkOf) vl on v vc := hv
    have h3 : v < n := Int.ofNat_lt.1 (of_decide_eq_true h3)
    change Rw Int at r2
    have hr2 : l.getD v Rw.nil = r2 := hr2
    obtain ⟨⟨g1, g2, g3⟩, g4⟩ := hr r2 (row_mem h3 hnl hr2)
    exact on_of g1 (by omega)
  · rename_i b0 b1 b2 v hv h3 r hr1 r2 hr2
    obtain ⟨v, on, vb, vq, vl, vc⟩ := v
    obtain ⟨e1, e2⟩ : v ≤ (l.take n).length ∧ Grw (((l.take n).take v).map blkOf) vl on v vc := hv
    have h3 : v < n := Int.ofNat_lt.1 (of_decide_eq_true h3)
    change Rw Int at r2
    have hr2 : l.getD v Rw.nil = r2 := hr2
    obtain ⟨⟨g1, g2, g3⟩, g4⟩ := hr r2 (row_mem h3 hnl hr2)
    show (1 : Int) < ((r2.l.length : Nat) : Int)
    rw [g4]; decide
  · rename_i b0 b1 b2 v hv h3 r hr1 r2 hr2
    obtain ⟨v, on, vb, vq, vl, vc⟩ := v
    obtain ⟨e1, e2⟩ : v ≤ (l.take n).length ∧ Grw (((l.take n).take v).map blkOf) vl on v vc := hv
    have h3 : v < n := Int.ofNat_lt.1 (of_decide_eq_true h3)
    change Rw Int at r2
    have hr2 : l.getD v Rw.nil = r2 := hr2
    obtain ⟨⟨g1, g2, g3⟩, g4⟩ := hr r2 (row_mem h3 hnl hr2)
    exact on_of g1 (by omega)
  · rename_i b0 b1 b2 v hv h3 r hr1 r2 hr2
    obtain ⟨v, on, vb, vq, vl, vc⟩ := v
    obtain ⟨e1, e2⟩ : v ≤ (l.take n).length ∧ Grw (((l.take n).take v).map blkOf) vl on v vc := hv
    have h3 : v < n := Int.ofNat_lt.1 (of_decide_eq_true h3)
    change Rw Int at r2
    have hr2 : l.getD v Rw.nil = r2 := hr2
    obtain ⟨⟨g1, g2, g3⟩, g4⟩ := hr r2 (row_mem h3 hnl hr2)
    show (1 : Int).toNat + 0 < r2.l.length
    rw [g4]; decide
  · rename_i b0 b1 b2 v hv h3 r hr1 r2 hr2 bk
    obtain ⟨v, on, vb, vq, vl, vc⟩ := v
    obtain ⟨e1, e2⟩ : v ≤ (l.take n).length ∧ Grw (((l.take n).take v).map blkOf) vl on v vc := hv
    have h3 : v < n := Int.ofNat_lt.1 (of_decide_eq_true h3)
    obtain ⟨k1, k2, k3, k4, k5⟩ := e2
    rw [by87]
    exact ⟨k3, by show 0 + vc ≤ vl.length; omega, Nat.le_refl 1, by show (v + 1) * 16 ≤ _; omega⟩
  · rename_i b0 b1 b2 v hv h3 r hr1 r2 hr2 bk
    obtain ⟨v, on, vb, vq, vl, vc⟩ := v
    obtain ⟨e1, e2⟩ : v ≤ (l.take n).length ∧ Grw (((l.take n).take v).map blkOf) vl on v vc := hv
    have h3 : v < n := Int.ofNat_lt.1 (of_decide_eq_true h3)
    exact e2.2.2.2.2
  · rename_i b0 b1 b2 v hv h3 r hr1 r2 hr2 bk b9 q9 sp cap m1 m2
    obtain ⟨v, on, vb, vq, vl, vc⟩ := v
    obtain ⟨e1, e2⟩ : v ≤ (l.take n).length ∧ Grw (((l.take n).take v).map blkOf) vl on v vc := hv
    have h3 : v < n := Int.ofNat_lt.1 (of_decide_eq_true h3)
    exact inR64 (by show _ ≤ (v : Int) + 1; omega) (by show (v : Int) + 1 ≤ _; omega)
  · rename_i b0 b1 b2 v hv h3 r hr1 r2 hr2 bk b9 q9 sp cap m1 m2
    obtain ⟨v, on, vb, vq, vl, vc⟩ := v
    obtain ⟨e1, e2⟩ : v ≤ (l.take n).length ∧ Grw (((l.take n).take v).map blkOf) vl on v vc := hv
    have h3 : v < n := Int.ofNat_lt.1 (of_decide_eq_true h3)
    change Rw Int at r
    have hr1 : l.getD v Rw.nil = r := hr1
    obtain ⟨⟨g1, g2, g3⟩, g4⟩ := hr r (row_mem h3 hnl hr1)
    change Rw Int at r2
    have hr2 : l.getD v Rw.nil = r2 := hr2
    have hr12 : r2 = r := hr2.symm.trans hr1
    subst hr12
    have e3 := e2.app (x := blkOf r2) (sp := sp) m1 m2
    refine Stands.one (v + 1, true, b9, q9, vl.take v ++ [blkOf r2] ++ sp, cap) ⟨⟨by show v + 1 ≤ (l.take n).length; rw [tk_len hnl]; omega, ?_⟩, ?_, ?_⟩
    · show Grw (((l.take n).take (v + 1)).map blkOf) _ _ _ _
      rw [take_snoc (d := Rw.nil) (by rw [tk_len hnl]; exact h3), tk_at h3, hr1, List.map_append]
      exact e3
    · show (l.take n).length - (v + 1) < (l.take n).length - v
      rw [tk_len hnl]; omega
    ((conv => (arg 1; reduce)); with_reducible repeat' (first | exact Tr.yes_h | refine Tr.and_h ?_ ?_ | refine Tr.imp_h fun _ => ?_ | refine Tr.all_h fun _ => ?_ | refine Tr.lf_h ?_))
    all_goals try (first | first | (show Region.lexB _ _ = true; kernel_rfl) | (show planned _ _ = true; kernel_rfl) | exact rfl | exact True.intro | ((try dsimp only [imp, C0, cG, cInt, cPl, cSlot, cPg, rwCodec, cRaw] at *); (try refine inR64 ?_ ?_) <;> (try simp only [List.length_set, List.length_append, List.length_take, List.length_drop]) <;> omega))
    unfold blkOf
    rfl
  · rename_i b0 b1 b2 v hv h3
    obtain ⟨v, on, vb, vq, vl, vc⟩ := v
    obtain ⟨e1, e2⟩ : v ≤ (l.take n).length ∧ Grw (((l.take n).take v).map blkOf) vl on v vc := hv
    have h3 : ¬ v < n := fun h => of_decide_eq_false h3 (Int.ofNat_lt.2 h)
    obtain rfl : v = n := by rw [tk_len hnl] at e1; omega
    rw [List.take_of_length_le (l := l.take v) (by rw [tk_len hnl]; exact Nat.le_refl _)] at e2
    refine Stands.one (0, false, 0, 0, [], 0) ⟨⟨Nat.zero_le _, rfl, rfl, Nat.le_refl _, Nat.le_refl _, fun _ => ⟨rfl, rfl⟩⟩, ?_⟩
    ((conv => (arg 1; reduce)); with_reducible repeat' (first | exact Tr.yes_h | refine Tr.and_h ?_ ?_ | refine Tr.imp_h fun _ => ?_ | refine Tr.all_h fun _ => ?_ | refine Tr.lf_h ?_))
    all_goals (first | first | (show Region.lexB _ _ = true; kernel_rfl) | (show planned _ _ = true; kernel_rfl) | exact rfl | exact True.intro | ((try dsimp only [imp, C0, cG, cInt, cPl, cSlot, cPg, rwCodec, cRaw] at *); (try refine inR64 ?_ ?_) <;> (try simp only [List.length_set, List.length_append, List.length_take, List.length_drop]) <;> omega))
  · rename_i b0 b1 b2 v hv h3 w hw h4
    obtain ⟨w, on, wb, wq, wl, wc⟩ := w
    obtain ⟨e3, e4⟩ : w ≤ (l2.take n2).length ∧ Grw ((l2.take n2).take w) wl on w wc := hw
    have h4 : w < n2 := Int.ofNat_lt.1 (of_decide_eq_true h4)
    exact on_of h2.2.2 (Nat.lt_of_le_of_lt (Nat.zero_le _) h4)
  · rename_i b0 b1 b2 v hv h3 w hw h4
    obtain ⟨w, on, wb, wq, wl, wc⟩ := w
    obtain ⟨e3, e4⟩ : w ≤ (l2.take n2).length ∧ Grw ((l2.take n2).take w) wl on w wc := hw
    have h4 : w < n2 := Int.ofNat_lt.1 (of_decide_eq_true h4)
    exact Int.ofNat_lt.2 h4
  · rename_i b0 b1 b2 v hv h3 w hw h4
    obtain ⟨w, on, wb, wq, wl, wc⟩ := w
    obtain ⟨e3, e4⟩ : w ≤ (l2.take n2).length ∧ Grw ((l2.take n2).take w) wl on w wc := hw
    have h4 : w < n2 := Int.ofNat_lt.1 (of_decide_eq_true h4)
    exact on_of h2.2.2 (Nat.lt_of_le_of_lt (Nat.zero_le _) h4)
  · rename_i b0 b1 b2 v hv h3 w hw h4
    obtain ⟨w, on, wb, wq, wl, wc⟩ := w
    obtain ⟨e3, e4⟩ : w ≤ (l2.take n2).length ∧ Grw ((l2.take n2).take w) wl on w wc := hw
    have h4 : w < n2 := Int.ofNat_lt.1 (of_decide_eq_true h4)
    show (w : Int).toNat + 0 < l2.length
    omega
  · rename_i b0 b1 b2 v hv h3 w hw h4
    obtain ⟨w, on, wb, wq, wl, wc⟩ := w
    obtain ⟨e3, e4⟩ : w ≤ (l2.take n2).length ∧ Grw ((l2.take n2).take w) wl on w wc := hw
    have h4 : w < n2 := Int.ofNat_lt.1 (of_decide_eq_true h4)
    exact on_of h2.2.2 (Nat.lt_of_le_of_lt (Nat.zero_le _) h4)
  · rename_i b0 b1 b2 v hv h3 w hw h4
    obtain ⟨w, on, wb, wq, wl, wc⟩ := w
    obtain ⟨e3, e4⟩ : w ≤ (l2.take n2).length ∧ Grw ((l2.take n2).take w) wl on w wc := hw
    have h4 : w < n2 := Int.ofNat_lt.1 (of_decide_eq_true h4)
    exact Int.ofNat_lt.2 h4
  · rename_i b0 b1 b2 v hv h3 w hw h4
    obtain ⟨w, on, wb, wq, wl, wc⟩ := w
    obtain ⟨e3, e4⟩ : w ≤ (l2.take n2).length ∧ Grw ((l2.take n2).take w) wl on w wc := hw
    have h4 : w < n2 := Int.ofNat_lt.1 (of_decide_eq_true h4)
    exact on_of h2.2.2 (Nat.lt_of_le_of_lt (Nat.zero_le _) h4)
  · rename_i b0 b1 b2 v hv h3 w hw h4
    obtain ⟨w, on, wb, wq, wl, wc⟩ := w
    obtain ⟨e3, e4⟩ : w ≤ (l2.take n2).length ∧ Grw ((l2.take n2).take w) wl on w wc := hw
    have h4 : w < n2 := Int.ofNat_lt.1 (of_decide_eq_true h4)
    show (w : Int).toNat + 0 < l2.length
    omega
  · rename_i b0 b1 b2 v hv h3 w hw h4
    obtain ⟨w, on, wb, wq, wl, wc⟩ := w
    obtain ⟨e3, e4⟩ : w ≤ (l2.take n2).length ∧ Grw ((l2.take n2).take w) wl on w wc := hw
    have h4 : w < n2 := Int.ofNat_lt.1 (of_decide_eq_true h4)
    exact on_of h2.2.2 (Nat.lt_of_le_of_lt (Nat.zero_le _) h4)
  · rename_i b0 b1 b2 v hv h3 w hw h4
    obtain ⟨w, on, wb, wq, wl, wc⟩ := w
    obtain ⟨e3, e4⟩ : w ≤ (l2.take n2).length ∧ Grw ((l2.take n2).take w) wl on w wc := hw
    have h4 : w < n2 := Int.ofNat_lt.1 (of_decide_eq_true h4)
    exact Int.ofNat_lt.2 h4
  · rename_i b0 b1 b2 v hv h3 w hw h4
    obtain ⟨w, on, wb, wq, wl, wc⟩ := w
    obtain ⟨e3, e4⟩ : w ≤ (l2.take n2).length ∧ Grw ((l2.take n2).take w) wl on w wc := hw
    have h4 : w < n2 := Int.ofNat_lt.1 (of_decide_eq_true h4)
    exact on_of h2.2.2 (Nat.lt_of_le_of_lt (Nat.zero_le _) h4)
  · rename_i b0 b1 b2 v hv h3 w hw h4
    obtain ⟨w, on, wb, wq, wl, wc⟩ := w
    obtain ⟨e3, e4⟩ : w ≤ (l2.take n2).length ∧ Grw ((l2.take n2).take w) wl on w wc := hw
    have h4 : w < n2 := Int.ofNat_lt.1 (of_decide_eq_true h4)
    show (w : Int).toNat + 0 < l2.length
    omega
  · rename_i b0 b1 b2 v hv h3 w hw h4 bk
    obtain ⟨w, on, wb, wq, wl, wc⟩ := w
    obtain ⟨e3, e4⟩ : w ≤ (l2.take n2).length ∧ Grw ((l2.take n2).take w) wl on w wc := hw
    have h4 : w < n2 := Int.ofNat_lt.1 (of_decide_eq_true h4)
    obtain ⟨k1, k2, k3, k4, k5⟩ := e4
    rw [by88]
    exact ⟨k3, by show 0 + wc ≤ wl.length; omega, Nat.le_refl 1, by show (w + 1) * 72 ≤ _; omega⟩
  · rename_i b0 b1 b2 v hv h3 w hw h4 bk
    obtain ⟨w, on, wb, wq, wl, wc⟩ := w
    obtain ⟨e3, e4⟩ : w ≤ (l2.take n2).length ∧ Grw ((l2.take n2).take w) wl on w wc := hw
    have h4 : w < n2 := Int.ofNat_lt.1 (of_decide_eq_true h4)
    exact e4.2.2.2.2
  · rename_i b0 b1 b2 v hv h3 w hw h4 bk b9 q9 sp cap m1 m2
    obtain ⟨w, on, wb, wq, wl, wc⟩ := w
    obtain ⟨e3, e4⟩ : w ≤ (l2.take n2).length ∧ Grw ((l2.take n2).take w) wl on w wc := hw
    have h4 : w < n2 := Int.ofNat_lt.1 (of_decide_eq_true h4)
    exact inR64 (by show _ ≤ (w : Int) + 1; omega) (by show (w : Int) + 1 ≤ _; omega)
  · rename_i b0 b1 b2 v hv h3 w hw h4 bk b9 q9 sp cap m1 m2
    obtain ⟨w, on, wb, wq, wl, wc⟩ := w
    obtain ⟨e3, e4⟩ : w ≤ (l2.take n2).length ∧ Grw ((l2.take n2).take w) wl on w wc := hw
    have h4 : w < n2 := Int.ofNat_lt.1 (of_decide_eq_true h4)
    have e5 := e4.app (x := l2.getD w slot0) (sp := sp) m1 m2
    refine Stands.one (w + 1, true, b9, q9, wl.take w ++ [l2.getD w slot0] ++ sp, cap) ⟨⟨by show w + 1 ≤ (l2.take n2).length; rw [tk_len hnl2]; omega, ?_⟩, ?_, ?_⟩
    · show Grw ((l2.take n2).take (w + 1)) _ _ _ _
      rw [take_snoc (d := slot0) (by rw [tk_len hnl2]; exact h4), tk_at h4]
      exact e5
    · show (l2.take n2).length - (w + 1) < (l2.take n2).length - w
      rw [tk_len hnl2]; omega
    ((conv => (arg 1; reduce)); with_reducible repeat' (first | exact Tr.yes_h | refine Tr.and_h ?_ ?_ | refine Tr.imp_h fun _ => ?_ | refine Tr.all_h fun _ => ?_ | refine Tr.lf_h ?_))
    all_goals (first | first | (show Region.lexB _ _ = true; kernel_rfl) | (show planned _ _ = true; kernel_rfl) | exact rfl | exact True.intro | ((try dsimp only [imp, C0, cG, cInt, cPl, cSlot, cPg, rwCodec, cRaw] at *); (try refine inR64 ?_ ?_) <;> (try simp only [List.length_set, List.length_append, List.length_take, List.length_drop]) <;> omega))
  · rename_i b0 b1 b2 v hv h3 w hw h4
    obtain ⟨v, on, vb, vq, vl, vc⟩ := v
    obtain ⟨e1, e2⟩ : v ≤ (l.take n).length ∧ Grw (((l.take n).take v).map blkOf) vl on v vc := hv
    have h3 : ¬ v < n := fun h => of_decide_eq_false h3 (Int.ofNat_lt.2 h)
    obtain ⟨w, won, wb, wq, wl, wc⟩ := w
    obtain ⟨e3, e4⟩ : w ≤ (l2.take n2).length ∧ Grw ((l2.take n2).take w) wl won w wc := hw
    have h4 : ¬ w < n2 := fun h => of_decide_eq_false h4 (Int.ofNat_lt.2 h)
    obtain rfl : w = n2 := by rw [tk_len hnl2] at e3; omega
    rw [List.take_of_length_le (l := l2.take w) (by rw [tk_len hnl2]; exact Nat.le_refl _)] at e4
    obtain rfl : v = n := by rw [tk_len hnl] at e1; omega
    rw [List.take_of_length_le (l := l.take v) (by rw [tk_len hnl]; exact Nat.le_refl _)] at e2
    refine Ends.one ((v, on, vb, vq, vl, vc), (w, won, wb, wq, wl, wc)) ⟨e2, e4⟩ ?_
    ((conv => (arg 1; reduce)); with_reducible repeat' (first | exact Tr.yes_h | refine Tr.and_h ?_ ?_ | refine Tr.imp_h fun _ => ?_ | refine Tr.all_h fun _ => ?_ | refine Tr.lf_h ?_))
    all_goals (first | first | (show Region.lexB _ _ = true; kernel_rfl) | (show planned _ _ = true; kernel_rfl) | exact rfl | exact True.intro | ((try dsimp only [imp, C0, cG, cInt, cPl, cSlot, cPg, rwCodec, cRaw] at *); (try refine inR64 ?_ ?_) <;> (try simp only [List.length_set, List.length_append, List.length_take, List.length_drop]) <;> omega))
def fcMade : Fc Tryd.prog C0 where
  tg := .fn 11
  X := Hd × Sq (Rw Int) × Sq Slot
  args := fun (h, (o, b, q, l, n, c), (o2, b2, q2, l2, n2, c2)) => [ptv h (.sl 0 0 n c) (.sl 1 0 n2 c2)]
  mem := fun (h, (o, b, q, l, n, c), (o2, b2, q2, l2, n2, c2)) => [⟨b, q, 1, false, some o, .rows 71 l⟩, ⟨b2, q2, 9, false, some o2, .rows 74 l2⟩]
  pre := fun (h, (o, b, q, l, n, c), (o2, b2, q2, l2, n2, c2)) => Sq.ok (o, b, q, l, n, c) ∧ Sq.ok (o2, b2, q2, l2, n2, c2) ∧ (∀ r ∈ l.take n, Rok r ∧ r.l.length = 2) ∧ n ≤ 70 ∧ n2 ≤ 100
  alts := fun (h, (o, b, q, l, n, c), (o2, b2, q2, l2, n2, c2)) => [⟨Gx Pl × Gx Slot, fun y => Grw ((l.take n).map blkOf) y.1.2.2.2.2.1 y.1.2.1 n y.1.2.2.2.2.2 ∧ Grw (l2.take n2) y.2.2.2.2.2.1 y.2.2.1 n2 y.2.2.2.2.2.2, fun y => ptv h (.sl 2 0 n y.1.2.2.2.2.2) (.sl 3 0 n2 y.2.2.2.2.2.2),
      fun y => [⟨b, q, 1, false, some o, .rows 71 l⟩, ⟨b2, q2, 9, false, some o2, .rows 74 l2⟩, ⟨y.1.2.2.1, y.1.2.2.2.1, 2, true, some y.1.2.1, .rows 87 y.1.2.2.2.2.1⟩, ⟨y.2.2.2.1, y.2.2.2.2.1, 9, true, some y.2.2.1, .rows 88 y.2.2.2.2.2.1⟩]⟩]
  mat vs m := match vs with
    | [.agg [.int _ h1, .int _ h2, .int _ h3, .int _ h4, .sl a 0 n c, .sl a' 0 n' c']] => match nth m a, nth m a' with
      | ⟨b, q, _, _, g, .rows 71 l⟩, ⟨b', q', _, _, g', .rows 74 l'⟩ => some (((h1, h2, h3, h4), (onOf g, b, q, l, n, c), (onOf g', b', q', l', n', c')), [a, a'])
      | _, _ => none
    | _ => none
  ok := fun (h, (o, b, q, l, n, c), (o2, b2, q2, l2, n2, c2)) x => made_ok h o b q l n c o2 b2 q2 l2 n2 c2 x.1 x.2.1 x.2.2.1 x.2.2.2.1 x.2.2.2.2
end Go.Vx
set_option maxRecDepth 1000000
namespace Go.Vx
open Go Go.Proofs

abbrev backA : List Tk := [.p 0, .p 2, .p 4, .p 8, .p 10, .p 1, .q 3, .p 5, .p 6, .q 7, .q 9, .p 11, .p 12, .q 13, .e 14, .e 15, .e 16, .p 17, .f 18]
noncomputable def backA_ops : Array Oper := match opsOf Tryd.f19 5 with
  | some o => o
  | none => #[]
def backA_w : List Nat := [14, 15, 16, 18]
def backA_f : List Nat := [18]
def backA_l0 : Array Bool := #[false, false, false, false, false, false, false, false, false, false, false, false, false, false, false, false, false, false, false]
theorem backA_s0 : stepsOKL backA_ops backA_w backA_f false [.p 0, .p 2, .p 4, .p 8] backA_l0 = true := by kernel_rfl
def backA_l1 : Array Bool := #[true, false, true, false, true, false, false, false, true, false, false, false, false, false, false, false, false, false, false]
theorem backA_a0 : listedBy [.p 0, .p 2, .p 4, .p 8] backA_l0 = backA_l1 := by kernel_rfl
theorem backA_s1 : stepsOKL backA_ops backA_w backA_f false [.p 10, .p 1, .q 3, .p 5] backA_l1 = true := by kernel_rfl
def backA_l2 : Array Bool := #[true, true, true, true, true, true, false, false, true, false, true, false, false, false, false, false, false, false, false]
theorem backA_a1 : listedBy [.p 10, .p 1, .q 3, .p 5] backA_l1 = backA_l2 := by kernel_rfl
theorem backA_s2 : stepsOKL backA_ops backA_w backA_f false [.p 6, .q 7, .q 9, .p 11] backA_l2 = true := by kernel_rfl
def backA_l3 : Array Bool := #[true, true, true, true, true, true, true, true, true, true, true, true, false, false, false, false, false, false, false]
theorem backA_a2 : listedBy [.p 6, .q 7, .q 9, .p 11] backA_l2 = backA_l3 := by kernel_rfl
theorem backA_s3 : stepsOKL backA_ops backA_w backA_f false [.p 12, .q 13, .e 14, .e 15] backA_l3 = true := by kernel_rfl
def backA_l4 : Array Bool := #[true, true, true, true, true, true, true, true, true, true, true, true, true, true, true, true, false, false, false]
theorem backA_a3 : listedBy [.p 12, .q 13, .e 14, .e 15] backA_l3 = backA_l4 := by kernel_rfl
theorem backA_s4 : stepsOKL backA_ops backA_w backA_f false [.e 16, .p 17, .f 18] backA_l4 = true := by kernel_rfl
def backA_l5 : Array Bool := #[true, true, true, true, true, true, true, true, true, true, true, true, true, true, true, true, true, true, true]
theorem backA_a4 : listedBy [.e 16, .p 17, .f 18] backA_l4 = backA_l5 := by kernel_rfl
theorem backA_k5 : planOK backA_ops backA_w backA_f true (PTree.of []) backA_l5 = true := by kernel_rfl
theorem backA_k4 : planOK backA_ops backA_w backA_f false (PTree.of [.e 16, .p 17, .f 18]) backA_l4 = true := plan_cutL [.e 16, .p 17, .f 18] _ _ _ backA_s4 (by rw [backA_a4]; exact backA_k5)
theorem backA_k3 : planOK backA_ops backA_w backA_f false (PTree.of [.p 12, .q 13, .e 14, .e 15, .e 16, .p 17, .f 18]) backA_l3 = true := plan_cutL [.p 12, .q 13, .e 14, .e 15] _ _ _ backA_s3 (by rw [backA_a3]; exact backA_k4)
theorem backA_k2 : planOK backA_ops backA_w backA_f false (PTree.of [.p 6, .q 7, .q 9, .p 11, .p 12, .q 13, .e 14, .e 15, .e 16, .p 17, .f 18]) backA_l2 = true := plan_cutL [.p 6, .q 7, .q 9, .p 11] _ _ _ backA_s2 (by rw [backA_a2]; exact backA_k3)
theorem backA_k1 : planOK backA_ops backA_w backA_f false (PTree.of [.p 10, .p 1, .q 3, .p 5, .p 6, .q 7, .q 9, .p 11, .p 12, .q 13, .e 14, .e 15, .e 16, .p 17, .f 18]) backA_l1 = true := plan_cutL [.p 10, .p 1, .q 3, .p 5] _ _ _ backA_s1 (by rw [backA_a1]; exact backA_k2)
theorem backA_k0 : planOK backA_ops backA_w backA_f false (PTree.of [.p 0, .p 2, .p 4, .p 8, .p 10, .p 1, .q 3, .p 5, .p 6, .q 7, .q 9, .p 11, .p 12, .q 13, .e 14, .e 15, .e 16, .p 17, .f 18]) backA_l0 = true := plan_cutL [.p 0, .p 2, .p 4, .p 8] _ _ _ backA_s0 (by rw [backA_a0]; exact backA_k1)
theorem backA_ok (ops : Array Oper) (h : opsOf Tryd.f19 5 = some ops) : planned ops (PTree.of backA) = true := by
  have e : ops = backA_ops := by unfold backA_ops; rw [h]
  subst e
  unfold planned
  rw [show effs (PTree.of backA) = backA_w from rfl, show lates (PTree.of backA) = backA_f from rfl, show Array.replicate backA_ops.size false = backA_l0 by kernel_rfl, backA_k0, show Region.noSelect backA_ops = true by kernel_rfl, show Nat.beq (PTree.of backA).len backA_ops.size = true by kernel_rfl]
  rfl
abbrev backB : List Tk := [.p 0, .p 2, .p 4, .p 8, .p 10, .p 14, .p 16, .p 1, .q 3, .p 5, .p 6, .q 7, .q 9, .p 11, .p 12, .q 13, .q 15, .p 17, .p 18, .q 19, .p 20, .e 21, .e 22, .p 23, .f 24]
noncomputable def backB_ops : Array Oper := match opsOf Tryd.f19 9 with
  | some o => o
  | none => #[]
def backB_w : List Nat := [21, 22, 24]
def backB_f : List Nat := [24]
def backB_l0 : Array Bool := #[false, false, false, false, false, false, false, false, false, false, false, false, false, false, false, false, false, false, false, false, false, false, false, false, false]
theorem backB_s0 : stepsOKL backB_ops backB_w backB_f false [.p 0, .p 2, .p 4, .p 8] backB_l0 = true := by kernel_rfl
def backB_l1 : Array Bool := #[true, false, true, false, true, false, false, false, true, false, false, false, false, false, false, false, false, false, false, false, false, false, false, false, false]
theorem backB_a0 : listedBy [.p 0, .p 2, .p 4, .p 8] backB_l0 = backB_l1 := by kernel_rfl
theorem backB_s1 : stepsOKL backB_ops backB_w backB_f false [.p 10, .p 14, .p 16, .p 1] backB_l1 = true := by kernel_rfl
def backB_l2 : Array Bool := #[true, true, true, false, true, false, false, false, true, false, true, false, false, false, true, false, true, false, false, false, false, false, false, false, false]
theorem backB_a1 : listedBy [.p 10, .p 14, .p 16, .p 1] backB_l1 = backB_l2 := by kernel_rfl
theorem backB_s2 : stepsOKL backB_ops backB_w backB_f false [.q 3, .p 5, .p 6, .q 7] backB_l2 = true := by kernel_rfl
def backB_l3 : Array Bool := #[true, true, true, true, true, true, true, true, true, false, true, false, false, false, true, false, true, false, false, false, false, false, false, false, false]
theorem backB_a2 : listedBy [.q 3, .p 5, .p 6, .q 7] backB_l2 = backB_l3 := by kernel_rfl
theorem backB_s3 : stepsOKL backB_ops backB_w backB_f false [.q 9, .p 11, .p 12, .q 13] backB_l3 = true := by kernel_rfl
def backB_l4 : Array Bool := #[true, true, true, true, true, true, true, true, true, true, true, true, true, true, true, false, true, false, false, false, false, false, false, false, false]
theorem backB_a3 : listedBy [.q 9, .p 11, .p 12, .q 13] backB_l3 = backB_l4 := by kernel_rfl
theorem backB_s4 : stepsOKL backB_ops backB_w backB_f false [.q 15, .p 17, .p 18, .q 19] backB_l4 = true := by kernel_rfl
def backB_l5 : Array Bool := #[true, true, true, true, true, true, true, true, true, true, true, true, true, true, true, true, true, true, true, true, false, false, false, false, false]
theorem backB_a4 : listedBy [.q 15, .p 17, .p 18, .q 19] backB_l4 = backB_l5 := by kernel_rfl
theorem backB_s5 : stepsOKL backB_ops backB_w backB_f false [.p 20, .e 21, .e 22, .p 23] backB_l5 = true := by kernel_rfl
def backB_l6 : Array Bool := #[true, true, true, true, true, true, true, true, true, true, true, true, true, true, true, true, true, true, true, true, true, true, true, true, false]
theorem backB_a5 : listedBy [.p 20, .e 21, .e 22, .p 23] backB_l5 = backB_l6 := by kernel_rfl
theorem backB_s6 : stepsOKL backB_ops backB_w backB_f false [.f 24] backB_l6 = true := by kernel_rfl
def backB_l7 : Array Bool := #[true, true, true, true, true, true, true, true, true, true, true, true, true, true, true, true, true, true, true, true, true, true, true, true, true]
theorem backB_a6 : listedBy [.f 24] backB_l6 = backB_l7 := by kernel_rfl
theorem backB_k7 : planOK backB_ops backB_w backB_f true (PTree.of []) backB_l7 = true := by kernel_rfl
theorem backB_k6 : planOK backB_ops backB_w backB_f false (PTree.of [.f 24]) backB_l6 = true := plan_cutL [.f 24] _ _ _ backB_s6 (by rw [backB_a6]; exact backB_k7)
theorem backB_k5 : planOK backB_ops backB_w backB_f false (PTree.of [.p 20, .e 21, .e 22, .p 23, .f 24]) backB_l5 = true := plan_cutL [.p 20, .e 21, .e 22, .p 23] _ _ _ backB_s5 (by rw [backB_a5]; exact backB_k6)
theorem backB_k4 : planOK backB_ops backB_w backB_f false (PTree.of [.q 15, .p 17, .p 18, .q 19, .p 20, .e 21, .e 22, .p 23, .f 24]) backB_l4 = true := plan_cutL [.q 15, .p 17, .p 18, .q 19] _ _ _ backB_s4 (by rw [backB_a4]; exact backB_k5)
theorem backB_k3 : planOK backB_ops backB_w backB_f false (PTree.of [.q 9, .p 11, .p 12, .q 13, .q 15, .p 17, .p 18, .q 19, .p 20, .e 21, .e 22, .p 23, .f 24]) backB_l3 = true := plan_cutL [.q 9, .p 11, .p 12, .q 13] _ _ _ backB_s3 (by rw [backB_a3]; exact backB_k4)
theorem backB_k2 : planOK backB_ops backB_w backB_f false (PTree.of [.q 3, .p 5, .p 6, .q 7, .q 9, .p 11, .p 12, .q 13, .q 15, .p 17, .p 18, .q 19, .p 20, .e 21, .e 22, .p 23, .f 24]) backB_l2 = true := plan_cutL [.q 3, .p 5, .p 6, .q 7] _ _ _ backB_s2 (by rw [backB_a2]; exact backB_k3)
theorem backB_k1 : planOK backB_ops backB_w backB_f false (PTree.of [.p 10, .p 14, .p 16, .p 1, .q 3, .p 5, .p 6, .q 7, .q 9, .p 11, .p 12, .q 13, .q 15, .p 17, .p 18, .q 19, .p 20, .e 21, .e 22, .p 23, .f 24]) backB_l1 = true := plan_cutL [.p 10, .p 14, .p 16, .p 1] _ _ _ backB_s1 (by rw [backB_a1]; exact backB_k2)
theorem backB_k0 : planOK backB_ops backB_w backB_f false (PTree.of [.p 0, .p 2, .p 4, .p 8, .p 10, .p 14, .p 16, .p 1, .q 3, .p 5, .p 6, .q 7, .q 9, .p 11, .p 12, .q 13, .q 15, .p 17, .p 18, .q 19, .p 20, .e 21, .e 22, .p 23, .f 24]) backB_l0 = true := plan_cutL [.p 0, .p 2, .p 4, .p 8] _ _ _ backB_s0 (by rw [backB_a0]; exact backB_k1)
theorem backB_ok (ops : Array Oper) (h : opsOf Tryd.f19 9 = some ops) : planned ops (PTree.of backB) = true := by
  have e : ops = backB_ops := by unfold backB_ops; rw [h]
  subst e
  unfold planned
  rw [show effs (PTree.of backB) = backB_w from rfl, show lates (PTree.of backB) = backB_f from rfl, show Array.replicate backB_ops.size false = backB_l0 by kernel_rfl, backB_k0, show Region.noSelect backB_ops = true by kernel_rfl, show Nat.beq (PTree.of backB).len backB_ops.size = true by kernel_rfl]
  rfl
end Go.Vx
set_option linter.unusedSectionVars false
set_option maxRecDepth 100000
set_option linter.unusedVariables false
set_option linter.unusedSimpArgs false
namespace Go.Vx
open Go Go.Proofs
variable [Gl]

theorem by71 : Tryd.prog.types[71].bytes = 24 := by kernel_rfl
theorem by74 : Tryd.prog.types[74].bytes = 72 := by kernel_rfl
/-- A block az the document has it. -/
def lst (x : Pl) : List Int := [x.1, x.2]
def Bk3 (h : Hd) (A : List Pl) : Inv' C0 := ⟨3, Gx (Rw Int), fun x => [(4, .int .i64 (x.1 : Int))], fun x m => match m with
  | [a0, a1, bx, rs, y] => [a0, a1, bx, rs, ⟨y.block, y.base, 6, true, none, .one (hdE h (.sl 5 0 x.1 x.2.2.2.2.2) .nils)⟩, ⟨x.2.2.1, x.2.2.2.1, 1, true, some x.2.1, .rows 71 x.2.2.2.2.1⟩]
  | m => m, fun x => x.1 ≤ A.length ∧ Grw (x.2.2.2.2.1.take x.1) x.2.2.2.2.1 x.2.1 x.1 x.2.2.2.2.2 ∧ (x.2.2.2.2.1.take x.1).map (·.l) = (A.take x.1).map lst ∧ ∀ r ∈ x.2.2.2.2.1.take x.1, Rok r, fun x => A.length - x.1⟩
def Bk7 (h : Hd) (B : List Slot) : Inv' C0 := ⟨7, Gx Slot, fun x => [(5, .int .i64 (x.1 : Int))], fun x m => match m with
  | [a0, a1, bx, rs, y, bl] => match y.cells with
    | .one [_, _, _, _, sb, _] => [a0, a1, bx, rs, ⟨y.block, y.base, 6, true, none, .one (hdE h sb (.sl 6 0 x.1 x.2.2.2.2.2))⟩, bl, ⟨x.2.2.1, x.2.2.2.1, 9, true, some x.2.1, .rows 74 x.2.2.2.2.1⟩]
    | _ => m
  | m => m, fun x => x.1 ≤ B.length ∧ Grw (B.take x.1) x.2.2.2.2.1 x.2.1 x.1 x.2.2.2.2.2, fun x => B.length - x.1⟩
set_option maxHeartbeats 8000000 in
theorem back_ok (h : Hd) (o : Bool) (b q : Nat) (l : List Pl) (n c : Nat) (o2 : Bool) (b2 q2 : Nat) (l2 : List Slot) (n2 c2 : Nat)
    (h1 : Sq.ok (o, b, q, l, n, c)) (h2 : Sq.ok (o2, b2, q2, l2, n2, c2)) (hn : n ≤ 1000000) (hn2 : n2 ≤ 1000000) :
    Does (C := C0) Tryd.prog (.fn 19) [⟨b, q, 2, false, some o, .rows 87 l⟩, ⟨b2, q2, 9, false, some o2, .rows 88 l2⟩] [ptv h (.sl 0 0 n c) (.sl 1 0 n2 c2)]
    [⟨Gx (Rw Int) × Gx Slot, fun y => (Grw (y.1.2.2.2.2.1.take n) y.1.2.2.2.2.1 y.1.2.1 n y.1.2.2.2.2.2 ∧ (y.1.2.2.2.2.1.take n).map (·.l) = (l.take n).map lst ∧ ∀ r ∈ y.1.2.2.2.2.1.take n, Rok r) ∧ Grw (l2.take n2) y.2.2.2.2.2.1 y.2.2.1 n2 y.2.2.2.2.2.2, fun y => ptv h (.sl 2 0 n y.1.2.2.2.2.2) (.sl 3 0 n2 y.2.2.2.2.2.2),
      fun y => [⟨b, q, 2, false, some o, .rows 87 l⟩, ⟨b2, q2, 9, false, some o2, .rows 88 l2⟩, ⟨y.1.2.2.1, y.1.2.2.2.1, 1, true, some y.1.2.1, .rows 71 y.1.2.2.2.2.1⟩, ⟨y.2.2.2.1, y.2.2.2.2.1, 9, true, some y.2.2.1, .rows 74 y.2.2.2.2.2.1⟩]⟩] := by
  have hnl : n ≤ l.length := h1.2.1
  have hnl2 : n2 ≤ l2.length := h2.2.1
  refine loc_fn (P := Tryd.prog) (E := ⟨[], [], 72, [(5, [4], backA), (9, [4], backB)], [], [wI]⟩) (L := [Bk3 h (l.take n), Bk7 h (l2.take n2)]) mix Tryd.func19 rfl (by kernel_rfl) (by kernel_rfl) rfl rfl ?_
  ((conv => (arg 1; reduce)); with_reducible repeat' (first | exact Tr.yes_h | refine Tr.and_h ?_ ?_ | refine Tr.imp_h fun _ => ?_ | refine Tr.all_h fun _ => ?_ | refine Tr.lf_h ?_))
  all_goals try exact backA_ok _ (by kernel_rfl)
  all_goals try exact backB_ok _ (by kernel_rfl)
  all_goals try (first | first | (show Region.lexB _ _ = true; kernel_rfl) | (show planned _ _ = true; kernel_rfl) | exact rfl | exact True.intro | ((try dsimp only [imp, C0, cG, cInt, cPl, cSlot, cPg, rwCodec, cRaw] at *); (try refine inR64 ?_ ?_) <;> (try simp only [List.length_set, List.length_append, List.length_take, List.length_drop]) <;> omega))
  · rename_i b0 b1 b2
    refine Stands.one (0, false, 0, 0, [], 0) ⟨⟨Nat.zero_le _, ⟨rfl, rfl, Nat.le_refl _, Nat.le_refl _, fun _ => ⟨rfl, rfl⟩⟩, rfl, by intro r hr; cases hr⟩, ?_⟩
    ((conv => (arg 1; reduce)); with_reducible repeat' (first | exact Tr.yes_h | refine Tr.and_h ?_ ?_ | refine Tr.imp_h fun _ => ?_ | refine Tr.all_h fun _ => ?_ | refine Tr.lf_h ?_))
    all_goals (first | first | (show Region.lexB _ _ = true; kernel_rfl) | (show planned _ _ = true; kernel_rfl) | exact rfl | exact True.intro | ((try dsimp only [imp, C0, cG, cInt, cPl, cSlot, cPg, rwCodec, cRaw] at *); (try refine inR64 ?_ ?_) <;> (try simp only [List.length_set, List.length_append, List.length_take, List.length_drop]) <;> omega))
  · rename_i b0 b1 b2 v hv h3
    obtain ⟨v, on, vb, vq, vl, vc⟩ := v
    obtain ⟨e1, e2, e3, e4⟩ : v ≤ (l.take n).length ∧ Grw (vl.take v) vl on v vc ∧ (vl.take v).map (·.l) = ((l.take n).take v).map lst ∧ ∀ r ∈ vl.take v, Rok r := hv
    have h3 : v < n := Int.ofNat_lt.1 (of_decide_eq_true h3)
    exact on_of h1.2.2 (Nat.lt_of_le_of_lt (Nat.zero_le _) h3)
  · rename_i b0 b1 b2 v hv h3
    obtain ⟨v, on, vb, vq, vl, vc⟩ := v
    obtain ⟨e1, e2, e3, e4⟩ : v ≤ (l.take n).length ∧ Grw (vl.take v) vl on v vc ∧ (vl.take v).map (·.l) = ((l.take n).take v).map lst ∧ ∀ r ∈ vl.take v, Rok r := hv
    have h3 : v < n := Int.ofNat_lt.1 (of_decide_eq_true h3)
    exact Int.ofNat_lt.2 h3
  · rename_i b0 b1 b2 v hv h3
    obtain ⟨v, on, vb, vq, vl, vc⟩ := v
    obtain ⟨e1, e2, e3, e4⟩ : v ≤ (l.take n).length ∧ Grw (vl.take v) vl on v vc ∧ (vl.take v).map (·.l) = ((l.take n).take v).map lst ∧ ∀ r ∈ vl.take v, Rok r := hv
    have h3 : v < n := Int.ofNat_lt.1 (of_decide_eq_true h3)
    exact on_of h1.2.2 (Nat.lt_of_le_of_lt (Nat.zero_le _) h3)
  · rename_i b0 b1 b2 v hv h3
    obtain ⟨v, on, vb, vq, vl, vc⟩ := v
    obtain ⟨e1, e2, e3, e4⟩ : v ≤ (l.take n).length ∧ Grw (vl.take v) vl on v vc ∧ (vl.take v).map (·.l) = ((l.take n).take v).map lst ∧ ∀ r ∈ vl.take v, Rok r := hv
    have h3 : v < n := Int.ofNat_lt.1 (of_decide_eq_true h3)
    show (v : Int).toNat + 0 < l.length
    omega
  · rename_i b0 b1 b2 v hv h3
    obtain ⟨v, on, vb, vq, vl, vc⟩ := v
    obtain ⟨e1, e2, e3, e4⟩ : v ≤ (l.take n).length ∧ Grw (vl.take v) vl on v vc ∧ (vl.take v).map (·.l) = ((l.take n).take v).map lst ∧ ∀ r ∈ vl.take v, Rok r := hv
    have h3 : v < n := Int.ofNat_lt.1 (of_decide_eq_true h3)
    exact on_of h1.2.2 (Nat.lt_of_le_of_lt (Nat.zero_le _) h3)
  · rename_i b0 b1 b2 v hv h3
    obtain ⟨v, on, vb, vq, vl, vc⟩ := v
    obtain ⟨e1, e2, e3, e4⟩ : v ≤ (l.take n).length ∧ Grw (vl.take v) vl on v vc ∧ (vl.take v).map (·.l) = ((l.take n).take v).map lst ∧ ∀ r ∈ vl.take v, Rok r := hv
    have h3 : v < n := Int.ofNat_lt.1 (of_decide_eq_true h3)
    exact Int.ofNat_lt.2 h3
  · rename_i b0 b1 b2 v hv h3
    obtain ⟨v, on, vb, vq, vl, vc⟩ := v
    obtain ⟨e1, e2, e3, e4⟩ : v ≤ (l.take n).length ∧ Grw (vl.take v) vl on v vc ∧ (vl.take v).map (·.l) = ((l.take n).take v).map lst ∧ ∀ r ∈ vl.take v, Rok r := hv
    have h3 : v < n := Int.ofNat_lt.1 (of_decide_eq_true h3)
    exact on_of h1.2.2 (Nat.lt_of_le_of_lt (Nat.zero_le _) h3)
  · rename_i b0 b1 b2 v hv h3
    obtain ⟨v, on, vb, vq, vl, vc⟩ := v
    obtain ⟨e1, e2, e3, e4⟩ : v ≤ (l.take n).length ∧ Grw (vl.take v) vl on v vc ∧ (vl.take v).map (·.l) = ((l.take n).take v).map lst ∧ ∀ r ∈ vl.take v, Rok r := hv
    have h3 : v < n := Int.ofNat_lt.1 (of_decide_eq_true h3)
    show (v : Int).toNat + 0 < l.length
    omega
  · exact Nat.le_refl 2
  · rename_i b0 b1 b2 v hv h3 bk bk2
    obtain ⟨v, on, vb, vq, vl, vc⟩ := v
    obtain ⟨e1, e2, e3, e4⟩ : v ≤ (l.take n).length ∧ Grw (vl.take v) vl on v vc ∧ (vl.take v).map (·.l) = ((l.take n).take v).map lst ∧ ∀ r ∈ vl.take v, Rok r := hv
    have h3 : v < n := Int.ofNat_lt.1 (of_decide_eq_true h3)
    obtain ⟨k1, k2, k3, k4, k5⟩ := e2
    rw [by71]
    exact ⟨k3, by show 0 + vc ≤ vl.length; omega, Nat.le_refl 1, by show (v + 1) * 24 ≤ _; omega⟩
  · rename_i b0 b1 b2 v hv h3 bk bk2
    obtain ⟨v, on, vb, vq, vl, vc⟩ := v
    obtain ⟨e1, e2, e3, e4⟩ : v ≤ (l.take n).length ∧ Grw (vl.take v) vl on v vc ∧ (vl.take v).map (·.l) = ((l.take n).take v).map lst ∧ ∀ r ∈ vl.take v, Rok r := hv
    have h3 : v < n := Int.ofNat_lt.1 (of_decide_eq_true h3)
    exact e2.2.2.2.2
  · rename_i b0 b1 b2 v hv h3 bk bk b9 q9 sp cap m1 m2
    obtain ⟨v, on, vb, vq, vl, vc⟩ := v
    obtain ⟨e1, e2, e3, e4⟩ : v ≤ (l.take n).length ∧ Grw (vl.take v) vl on v vc ∧ (vl.take v).map (·.l) = ((l.take n).take v).map lst ∧ ∀ r ∈ vl.take v, Rok r := hv
    have h3 : v < n := Int.ofNat_lt.1 (of_decide_eq_true h3)
    exact inR64 (by show _ ≤ (v : Int) + 1; omega) (by show (v : Int) + 1 ≤ _; omega)
  · rename_i b0 b1 b2 v hv h3 bk2 bk b9 q9 sp cap m1 m2
    obtain ⟨v, on, vb, vq, vl, vc⟩ := v
    obtain ⟨e1, e2, e3, e4⟩ : v ≤ (l.take n).length ∧ Grw (vl.take v) vl on v vc ∧ (vl.take v).map (·.l) = ((l.take n).take v).map lst ∧ ∀ r ∈ vl.take v, Rok r := hv
    have h3 : v < n := Int.ofNat_lt.1 (of_decide_eq_true h3)
    have e5 := e2.app (x := (⟨true, bk2, 0, 2, lst (l.getD v (0, 0))⟩ : Rw Int)) (sp := sp) m1 m2
    have e6 := e5.2.1
    refine Stands.one (v + 1, true, b9, q9, vl.take v ++ [⟨true, bk2, 0, 2, lst (l.getD v (0, 0))⟩] ++ sp, cap) ⟨⟨by show v + 1 ≤ (l.take n).length; rw [tk_len hnl]; omega, ?_, ?_, ?_⟩, ?_, ?_⟩
    · show Grw (List.take (v + 1) _) _ _ _ _
      rw [e6]
      exact e5
    · show (List.take (v + 1) _).map _ = ((l.take n).take (v + 1)).map lst
      rw [e6, take_snoc (d := (0, 0)) (by rw [tk_len hnl]; exact h3), tk_at h3, List.map_append, List.map_append, e3]
      rfl
    · show ∀ r ∈ List.take (v + 1) _, Rok r
      rw [e6]
      intro r hr
      rcases List.mem_append.1 hr with hr | hr
      · exact e4 r hr
      · rw [List.mem_singleton.1 hr]
        exact ⟨fun h => Bool.noConfusion h, Nat.le_refl 2, (by decide : 2 < 140737488355000)⟩
    · show (l.take n).length - (v + 1) < (l.take n).length - v
      rw [tk_len hnl]; omega
    ((conv => (arg 1; reduce)); with_reducible repeat' (first | exact Tr.yes_h | refine Tr.and_h ?_ ?_ | refine Tr.imp_h fun _ => ?_ | refine Tr.all_h fun _ => ?_ | refine Tr.lf_h ?_))
    all_goals (first | first | (show Region.lexB _ _ = true; kernel_rfl) | (show planned _ _ = true; kernel_rfl) | exact rfl | exact True.intro | ((try dsimp only [imp, C0, cG, cInt, cPl, cSlot, cPg, rwCodec, cRaw] at *); (try refine inR64 ?_ ?_) <;> (try simp only [List.length_set, List.length_append, List.length_take, List.length_drop]) <;> omega))
  · rename_i b0 b1 b2 v hv h3
    obtain ⟨v, on, vb, vq, vl, vc⟩ := v
    obtain ⟨e1, e2, e7, e8⟩ : v ≤ (l.take n).length ∧ Grw (vl.take v) vl on v vc ∧ (vl.take v).map (·.l) = ((l.take n).take v).map lst ∧ ∀ r ∈ vl.take v, Rok r := hv
    have h3 : ¬ v < n := fun h => of_decide_eq_false h3 (Int.ofNat_lt.2 h)
    obtain rfl : v = n := by rw [tk_len hnl] at e1; omega
    rw [List.take_of_length_le (l := l.take v) (by rw [tk_len hnl]; exact Nat.le_refl _)] at e7
    refine Stands.one (0, false, 0, 0, [], 0) ⟨⟨Nat.zero_le _, rfl, rfl, Nat.le_refl _, Nat.le_refl _, fun _ => ⟨rfl, rfl⟩⟩, ?_⟩
    ((conv => (arg 1; reduce)); with_reducible repeat' (first | exact Tr.yes_h | refine Tr.and_h ?_ ?_ | refine Tr.imp_h fun _ => ?_ | refine Tr.all_h fun _ => ?_ | refine Tr.lf_h ?_))
    all_goals (first | first | (show Region.lexB _ _ = true; kernel_rfl) | (show planned _ _ = true; kernel_rfl) | exact rfl | exact True.intro | ((try dsimp only [imp, C0, cG, cInt, cPl, cSlot, cPg, rwCodec, cRaw] at *); (try refine inR64 ?_ ?_) <;> (try simp only [List.length_set, List.length_append, List.length_take, List.length_drop]) <;> omega))
  · rename_i b0 b1 b2 v hv h3 w hw h4
    obtain ⟨w, on, wb, wq, wl, wc⟩ := w
    obtain ⟨e3, e4⟩ : w ≤ (l2.take n2).length ∧ Grw ((l2.take n2).take w) wl on w wc := hw
    have h4 : w < n2 := Int.ofNat_lt.1 (of_decide_eq_true h4)
    exact on_of h2.2.2 (Nat.lt_of_le_of_lt (Nat.zero_le _) h4)
  · rename_i b0 b1 b2 v hv h3 w hw h4
    obtain ⟨w, on, wb, wq, wl, wc⟩ := w
    obtain ⟨e3, e4⟩ : w ≤ (l2.take n2).length ∧ Grw ((l2.take n2).take w) wl on w wc := hw
    have h4 : w < n2 := Int.ofNat_lt.1 (of_decide_eq_true h4)
    exact Int.ofNat_lt.2 h4
  · rename_i b0 b1 b2 v hv h3 w hw h4
    obtain ⟨w, on, wb, wq, wl, wc⟩ := w
    obtain ⟨e3, e4⟩ : w ≤ (l2.take n2).length ∧ Grw ((l2.take n2).take w) wl on w wc := hw
    have h4 : w < n2 := Int.ofNat_lt.1 (of_decide_eq_true h4)
    exact on_of h2.2.2 (Nat.lt_of_le_of_lt (Nat.zero_le _) h4)
  · rename_i b0 b1 b2 v hv h3 w hw h4
    obtain ⟨w, on, wb, wq, wl, wc⟩ := w
    obtain ⟨e3, e4⟩ : w ≤ (l2.take n2).length ∧ Grw ((l2.take n2).take w) wl on w wc := hw
    have h4 : w < n2 := Int.ofNat_lt.1 (of_decide_eq_true h4)
    show (w : Int).toNat + 0 < l2.length
    omega
  · rename_i b0 b1 b2 v hv h3 w hw h4
    obtain ⟨w, on, wb, wq, wl, wc⟩ := w
    obtain ⟨e3, e4⟩ : w ≤ (l2.take n2).length ∧ Grw ((l2.take n2).take w) wl on w wc := hw
    have h4 : w < n2 := Int.ofNat_lt.1 (of_decide_eq_true h4)
    exact on_of h2.2.2 (Nat.lt_of_le_of_lt (Nat.zero_le _) h4)
  · rename_i b0 b1 b2 v hv h3 w hw h4
    obtain ⟨w, on, wb, wq, wl, wc⟩ := w
    obtain ⟨e3, e4⟩ : w ≤ (l2.take n2).length ∧ Grw ((l2.take n2).take w) wl on w wc := hw
    have h4 : w < n2 := Int.ofNat_lt.1 (of_decide_eq_true h4)
    exact Int.ofNat_lt.2 h4
  · rename_i b0 b1 b2 v hv h3 w hw h4
    obtain ⟨w, on, wb, wq, wl, wc⟩ := w
    obtain ⟨e3, e4⟩ : w ≤ (l2.take n2).length ∧ Grw ((l2.take n2).take w) wl on w wc := hw
    have h4 : w < n2 := Int.ofNat_lt.1 (of_decide_eq_true h4)
    exact on_of h2.2.2 (Nat.lt_of_le_of_lt (Nat.zero_le _) h4)
  · rename_i b0 b1 b2 v hv h3 w hw h4
    obtain ⟨w, on, wb, wq, wl, wc⟩ := w
    obtain ⟨e3, e4⟩ : w ≤ (l2.take n2).length ∧ Grw ((l2.take n2).take w) wl on w wc := hw
    have h4 : w < n2 := Int.ofNat_lt.1 (of_decide_eq_true h4)
    show (w : Int).toNat + 0 < l2.length
    omega
  · rename_i b0 b1 b2 v hv h3 w hw h4
    obtain ⟨w, on, wb, wq, wl, wc⟩ := w
    obtain ⟨e3, e4⟩ : w ≤ (l2.take n2).length ∧ Grw ((l2.take n2).take w) wl on w wc := hw
    have h4 : w < n2 := Int.ofNat_lt.1 (of_decide_eq_true h4)
    exact on_of h2.2.2 (Nat.lt_of_le_of_lt (Nat.zero_le _) h4)
  · rename_i b0 b1 b2 v hv h3 w hw h4
    obtain ⟨w, on, wb, wq, wl, wc⟩ := w
    obtain ⟨e3, e4⟩ : w ≤ (l2.take n2).length ∧ Grw ((l2.take n2).take w) wl on w wc := hw
    have h4 : w < n2 := Int.ofNat_lt.1 (of_decide_eq_true h4)
    exact Int.ofNat_lt.2 h4
  · rename_i b0 b1 b2 v hv h3 w hw h4
    obtain ⟨w, on, wb, wq, wl, wc⟩ := w
    obtain ⟨e3, e4⟩ : w ≤ (l2.take n2).length ∧ Grw ((l2.take n2).take w) wl on w wc := hw
    have h4 : w < n2 := Int.ofNat_lt.1 (of_decide_eq_true h4)
    exact on_of h2.2.2 (Nat.lt_of_le_of_lt (Nat.zero_le _) h4)
  · rename_i b0 b1 b2 v hv h3 w hw h4
    obtain ⟨w, on, wb, wq, wl, wc⟩ := w
    obtain ⟨e3, e4⟩ : w ≤ (l2.take n2).length ∧ Grw ((l2.take n2).take w) wl on w wc := hw
    have h4 : w < n2 := Int.ofNat_lt.1 (of_decide_eq_true h4)
    show (w : Int).toNat + 0 < l2.length
    omega
  · rename_i b0 b1 b2 v hv h3 w hw h4 bk
    obtain ⟨w, on, wb, wq, wl, wc⟩ := w
    obtain ⟨e3, e4⟩ : w ≤ (l2.take n2).length ∧ Grw ((l2.take n2).take w) wl on w wc := hw
    have h4 : w < n2 := Int.ofNat_lt.1 (of_decide_eq_true h4)
    obtain ⟨k1, k2, k3, k4, k5⟩ := e4
    rw [by74]
    exact ⟨k3, by show 0 + wc ≤ wl.length; omega, Nat.le_refl 1, by show (w + 1) * 72 ≤ _; omega⟩
  · rename_i b0 b1 b2 v hv h3 w hw h4 bk
    obtain ⟨w, on, wb, wq, wl, wc⟩ := w
    obtain ⟨e3, e4⟩ : w ≤ (l2.take n2).length ∧ Grw ((l2.take n2).take w) wl on w wc := hw
    have h4 : w < n2 := Int.ofNat_lt.1 (of_decide_eq_true h4)
    exact e4.2.2.2.2
  · rename_i b0 b1 b2 v hv h3 w hw h4 bk b9 q9 sp cap m1 m2
    obtain ⟨w, on, wb, wq, wl, wc⟩ := w
    obtain ⟨e3, e4⟩ : w ≤ (l2.take n2).length ∧ Grw ((l2.take n2).take w) wl on w wc := hw
    have h4 : w < n2 := Int.ofNat_lt.1 (of_decide_eq_true h4)
    exact inR64 (by show _ ≤ (w : Int) + 1; omega) (by show (w : Int) + 1 ≤ _; omega)
  · rename_i b0 b1 b2 v hv h3 w hw h4 bk b9 q9 sp cap m1 m2
    obtain ⟨w, on, wb, wq, wl, wc⟩ := w
    obtain ⟨e3, e4⟩ : w ≤ (l2.take n2).length ∧ Grw ((l2.take n2).take w) wl on w wc := hw
    have h4 : w < n2 := Int.ofNat_lt.1 (of_decide_eq_true h4)
    have e5 := e4.app (x := l2.getD w slot0) (sp := sp) m1 m2
    refine Stands.one (w + 1, true, b9, q9, wl.take w ++ [l2.getD w slot0] ++ sp, cap) ⟨⟨by show w + 1 ≤ (l2.take n2).length; rw [tk_len hnl2]; omega, ?_⟩, ?_, ?_⟩
    · show Grw ((l2.take n2).take (w + 1)) _ _ _ _
      rw [take_snoc (d := slot0) (by rw [tk_len hnl2]; exact h4), tk_at h4]
      exact e5
    · show (l2.take n2).length - (w + 1) < (l2.take n2).length - w
      rw [tk_len hnl2]; omega
    ((conv => (arg 1; reduce)); with_reducible repeat' (first | exact Tr.yes_h | refine Tr.and_h ?_ ?_ | refine Tr.imp_h fun _ => ?_ | refine Tr.all_h fun _ => ?_ | refine Tr.lf_h ?_))
    all_goals (first | first | (show Region.lexB _ _ = true; kernel_rfl) | (show planned _ _ = true; kernel_rfl) | exact rfl | exact True.intro | ((try dsimp only [imp, C0, cG, cInt, cPl, cSlot, cPg, rwCodec, cRaw] at *); (try refine inR64 ?_ ?_) <;> (try simp only [List.length_set, List.length_append, List.length_take, List.length_drop]) <;> omega))
  · rename_i b0 b1 b2 v hv h3 w hw h4
    obtain ⟨v, on, vb, vq, vl, vc⟩ := v
    obtain ⟨e1, e2, e7, e8⟩ : v ≤ (l.take n).length ∧ Grw (vl.take v) vl on v vc ∧ (vl.take v).map (·.l) = ((l.take n).take v).map lst ∧ ∀ r ∈ vl.take v, Rok r := hv
    have h3 : ¬ v < n := fun h => of_decide_eq_false h3 (Int.ofNat_lt.2 h)
    obtain ⟨w, won, wb, wq, wl, wc⟩ := w
    obtain ⟨e3, e4⟩ : w ≤ (l2.take n2).length ∧ Grw ((l2.take n2).take w) wl won w wc := hw
    have h4 : ¬ w < n2 := fun h => of_decide_eq_false h4 (Int.ofNat_lt.2 h)
    obtain rfl : w = n2 := by rw [tk_len hnl2] at e3; omega
    rw [List.take_of_length_le (l := l2.take w) (by rw [tk_len hnl2]; exact Nat.le_refl _)] at e4
    obtain rfl : v = n := by rw [tk_len hnl] at e1; omega
    rw [List.take_of_length_le (l := l.take v) (by rw [tk_len hnl]; exact Nat.le_refl _)] at e7
    refine Ends.one ((v, on, vb, vq, vl, vc), (w, won, wb, wq, wl, wc)) ⟨⟨e2, e7, e8⟩, e4⟩ ?_
    ((conv => (arg 1; reduce)); with_reducible repeat' (first | exact Tr.yes_h | refine Tr.and_h ?_ ?_ | refine Tr.imp_h fun _ => ?_ | refine Tr.all_h fun _ => ?_ | refine Tr.lf_h ?_))
    all_goals (first | first | (show Region.lexB _ _ = true; kernel_rfl) | (show planned _ _ = true; kernel_rfl) | exact rfl | exact True.intro | ((try dsimp only [imp, C0, cG, cInt, cPl, cSlot, cPg, rwCodec, cRaw] at *); (try refine inR64 ?_ ?_) <;> (try simp only [List.length_set, List.length_append, List.length_take, List.length_drop]) <;> omega))
def fcBack : Fc Tryd.prog C0 where
  tg := .fn 19
  X := Hd × Sq Pl × Sq Slot
  args := fun (h, (o, b, q, l, n, c), (o2, b2, q2, l2, n2, c2)) => [ptv h (.sl 0 0 n c) (.sl 1 0 n2 c2)]
  mem := fun (h, (o, b, q, l, n, c), (o2, b2, q2, l2, n2, c2)) => [⟨b, q, 2, false, some o, .rows 87 l⟩, ⟨b2, q2, 9, false, some o2, .rows 88 l2⟩]
  pre := fun (h, (o, b, q, l, n, c), (o2, b2, q2, l2, n2, c2)) => Sq.ok (o, b, q, l, n, c) ∧ Sq.ok (o2, b2, q2, l2, n2, c2) ∧ n ≤ 1000000 ∧ n2 ≤ 1000000
  alts := fun (h, (o, b, q, l, n, c), (o2, b2, q2, l2, n2, c2)) => [⟨Gx (Rw Int) × Gx Slot, fun y => (Grw (y.1.2.2.2.2.1.take n) y.1.2.2.2.2.1 y.1.2.1 n y.1.2.2.2.2.2 ∧ (y.1.2.2.2.2.1.take n).map (·.l) = (l.take n).map lst ∧ ∀ r ∈ y.1.2.2.2.2.1.take n, Rok r) ∧ Grw (l2.take n2) y.2.2.2.2.2.1 y.2.2.1 n2 y.2.2.2.2.2.2, fun y => ptv h (.sl 2 0 n y.1.2.2.2.2.2) (.sl 3 0 n2 y.2.2.2.2.2.2),
      fun y => [⟨b, q, 2, false, some o, .rows 87 l⟩, ⟨b2, q2, 9, false, some o2, .rows 88 l2⟩, ⟨y.1.2.2.1, y.1.2.2.2.1, 1, true, some y.1.2.1, .rows 71 y.1.2.2.2.2.1⟩, ⟨y.2.2.2.1, y.2.2.2.2.1, 9, true, some y.2.2.1, .rows 74 y.2.2.2.2.2.1⟩]⟩]
  mat vs m := match vs with
    | [.agg [.int _ h1, .int _ h2, .int _ h3, .int _ h4, sa, sb]] => match sa, sb with
      | .sl a 0 n c, .sl a' 0 n' c' => match nth m a, nth m a' with
        | ⟨b, q, _, _, g, .rows 87 l⟩, ⟨b', q', _, _, g', .rows 88 l'⟩ => some (((h1, h2, h3, h4), (onOf g, b, q, l, n, c), (onOf g', b', q', l', n', c')), [a, a'])
        | _, _ => none
      | .nils, .nils => some (((h1, h2, h3, h4), (false, 0, 0, [], 0, 0), (false, 0, 0, [], 0, 0)), [m.length, m.length + 1])
      | _, _ => none
    | _ => none
  ok := fun (h, (o, b, q, l, n, c), (o2, b2, q2, l2, n2, c2)) x => back_ok h o b q l n c o2 b2 q2 l2 n2 c2 x.1 x.2.1 x.2.2.1 x.2.2.2
end Go.Vx
set_option maxRecDepth 1000000
namespace Go.Vx
open Go Go.Proofs

abbrev pmayA : List Tk := [.p 0, .p 1, .p 2, .p 4, .q 3, .q 5, .e 6, .e 7, .p 8, .p 9, .p 10, .q 11, .p 12, .p 13, .p 14, .p 15, .p 16, .p 17, .p 18, .p 20, .p 21, .p 25, .q 19, .p 22, .p 23, .q 24, .q 26, .p 27, .p 28, .p 29, .p 30]
noncomputable def pmayA_ops : Array Oper := match opsOf Tryd.f13 5 with
  | some o => o
  | none => #[]
def pmayA_w : List Nat := [6, 7]
def pmayA_f : List Nat := []
def pmayA_l0 : Array Bool := #[false, false, false, false, false, false, false, false, false, false, false, false, false, false, false, false, false, false, false, false, false, false, false, false, false, false, false, false, false, false, false]
theorem pmayA_s0 : stepsOKL pmayA_ops pmayA_w pmayA_f false [.p 0, .p 1, .p 2, .p 4] pmayA_l0 = true := by kernel_rfl
def pmayA_l1 : Array Bool := #[true, true, true, false, true, false, false, false, false, false, false, false, false, false, false, false, false, false, false, false, false, false, false, false, false, false, false, false, false, false, false]
theorem pmayA_a0 : listedBy [.p 0, .p 1, .p 2, .p 4] pmayA_l0 = pmayA_l1 := by kernel_rfl
theorem pmayA_s1 : stepsOKL pmayA_ops pmayA_w pmayA_f false [.q 3, .q 5, .e 6, .e 7] pmayA_l1 = true := by kernel_rfl
def pmayA_l2 : Array Bool := #[true, true, true, true, true, true, true, true, false, false, false, false, false, false, false, false, false, false, false, false, false, false, false, false, false, false, false, false, false, false, false]
theorem pmayA_a1 : listedBy [.q 3, .q 5, .e 6, .e 7] pmayA_l1 = pmayA_l2 := by kernel_rfl
theorem pmayA_s2 : stepsOKL pmayA_ops pmayA_w pmayA_f false [.p 8, .p 9, .p 10, .q 11] pmayA_l2 = true := by kernel_rfl
def pmayA_l3 : Array Bool := #[true, true, true, true, true, true, true, true, true, true, true, true, false, false, false, false, false, false, false, false, false, false, false, false, false, false, false, false, false, false, false]
theorem pmayA_a2 : listedBy [.p 8, .p 9, .p 10, .q 11] pmayA_l2 = pmayA_l3 := by kernel_rfl
theorem pmayA_s3 : stepsOKL pmayA_ops pmayA_w pmayA_f false [.p 12, .p 13, .p 14, .p 15] pmayA_l3 = true := by kernel_rfl
def pmayA_l4 : Array Bool := #[true, true, true, true, true, true, true, true, true, true, true, true, true, true, true, true, false, false, false, false, false, false, false, false, false, false, false, false, false, false, false]
theorem pmayA_a3 : listedBy [.p 12, .p 13, .p 14, .p 15] pmayA_l3 = pmayA_l4 := by kernel_rfl
theorem pmayA_s4 : stepsOKL pmayA_ops pmayA_w pmayA_f false [.p 16, .p 17, .p 18, .p 20] pmayA_l4 = true := by kernel_rfl
def pmayA_l5 : Array Bool := #[true, true, true, true, true, true, true, true, true, true, true, true, true, true, true, true, true, true, true, false, true, false, false, false, false, false, false, false, false, false, false]
theorem pmayA_a4 : listedBy [.p 16, .p 17, .p 18, .p 20] pmayA_l4 = pmayA_l5 := by kernel_rfl
theorem pmayA_s5 : stepsOKL pmayA_ops pmayA_w pmayA_f false [.p 21, .p 25, .q 19, .p 22] pmayA_l5 = true := by kernel_rfl
def pmayA_l6 : Array Bool := #[true, true, true, true, true, true, true, true, true, true, true, true, true, true, true, true, true, true, true, true, true, true, true, false, false, true, false, false, false, false, false]
theorem pmayA_a5 : listedBy [.p 21, .p 25, .q 19, .p 22] pmayA_l5 = pmayA_l6 := by kernel_rfl
theorem pmayA_s6 : stepsOKL pmayA_ops pmayA_w pmayA_f false [.p 23, .q 24, .q 26, .p 27] pmayA_l6 = true := by kernel_rfl
def pmayA_l7 : Array Bool := #[true, true, true, true, true, true, true, true, true, true, true, true, true, true, true, true, true, true, true, true, true, true, true, true, true, true, true, true, false, false, false]
theorem pmayA_a6 : listedBy [.p 23, .q 24, .q 26, .p 27] pmayA_l6 = pmayA_l7 := by kernel_rfl
theorem pmayA_s7 : stepsOKL pmayA_ops pmayA_w pmayA_f false [.p 28, .p 29, .p 30] pmayA_l7 = true := by kernel_rfl
def pmayA_l8 : Array Bool := #[true, true, true, true, true, true, true, true, true, true, true, true, true, true, true, true, true, true, true, true, true, true, true, true, true, true, true, true, true, true, true]
theorem pmayA_a7 : listedBy [.p 28, .p 29, .p 30] pmayA_l7 = pmayA_l8 := by kernel_rfl
theorem pmayA_k8 : planOK pmayA_ops pmayA_w pmayA_f false (PTree.of []) pmayA_l8 = true := by kernel_rfl
theorem pmayA_k7 : planOK pmayA_ops pmayA_w pmayA_f false (PTree.of [.p 28, .p 29, .p 30]) pmayA_l7 = true := plan_cutL [.p 28, .p 29, .p 30] _ _ _ pmayA_s7 (by rw [pmayA_a7]; exact pmayA_k8)
theorem pmayA_k6 : planOK pmayA_ops pmayA_w pmayA_f false (PTree.of [.p 23, .q 24, .q 26, .p 27, .p 28, .p 29, .p 30]) pmayA_l6 = true := plan_cutL [.p 23, .q 24, .q 26, .p 27] _ _ _ pmayA_s6 (by rw [pmayA_a6]; exact pmayA_k7)
theorem pmayA_k5 : planOK pmayA_ops pmayA_w pmayA_f false (PTree.of [.p 21, .p 25, .q 19, .p 22, .p 23, .q 24, .q 26, .p 27, .p 28, .p 29, .p 30]) pmayA_l5 = true := plan_cutL [.p 21, .p 25, .q 19, .p 22] _ _ _ pmayA_s5 (by rw [pmayA_a5]; exact pmayA_k6)
theorem pmayA_k4 : planOK pmayA_ops pmayA_w pmayA_f false (PTree.of [.p 16, .p 17, .p 18, .p 20, .p 21, .p 25, .q 19, .p 22, .p 23, .q 24, .q 26, .p 27, .p 28, .p 29, .p 30]) pmayA_l4 = true := plan_cutL [.p 16, .p 17, .p 18, .p 20] _ _ _ pmayA_s4 (by rw [pmayA_a4]; exact pmayA_k5)
theorem pmayA_k3 : planOK pmayA_ops pmayA_w pmayA_f false (PTree.of [.p 12, .p 13, .p 14, .p 15, .p 16, .p 17, .p 18, .p 20, .p 21, .p 25, .q 19, .p 22, .p 23, .q 24, .q 26, .p 27, .p 28, .p 29, .p 30]) pmayA_l3 = true := plan_cutL [.p 12, .p 13, .p 14, .p 15] _ _ _ pmayA_s3 (by rw [pmayA_a3]; exact pmayA_k4)
theorem pmayA_k2 : planOK pmayA_ops pmayA_w pmayA_f false (PTree.of [.p 8, .p 9, .p 10, .q 11, .p 12, .p 13, .p 14, .p 15, .p 16, .p 17, .p 18, .p 20, .p 21, .p 25, .q 19, .p 22, .p 23, .q 24, .q 26, .p 27, .p 28, .p 29, .p 30]) pmayA_l2 = true := plan_cutL [.p 8, .p 9, .p 10, .q 11] _ _ _ pmayA_s2 (by rw [pmayA_a2]; exact pmayA_k3)
theorem pmayA_k1 : planOK pmayA_ops pmayA_w pmayA_f false (PTree.of [.q 3, .q 5, .e 6, .e 7, .p 8, .p 9, .p 10, .q 11, .p 12, .p 13, .p 14, .p 15, .p 16, .p 17, .p 18, .p 20, .p 21, .p 25, .q 19, .p 22, .p 23, .q 24, .q 26, .p 27, .p 28, .p 29, .p 30]) pmayA_l1 = true := plan_cutL [.q 3, .q 5, .e 6, .e 7] _ _ _ pmayA_s1 (by rw [pmayA_a1]; exact pmayA_k2)
theorem pmayA_k0 : planOK pmayA_ops pmayA_w pmayA_f false (PTree.of [.p 0, .p 1, .p 2, .p 4, .q 3, .q 5, .e 6, .e 7, .p 8, .p 9, .p 10, .q 11, .p 12, .p 13, .p 14, .p 15, .p 16, .p 17, .p 18, .p 20, .p 21, .p 25, .q 19, .p 22, .p 23, .q 24, .q 26, .p 27, .p 28, .p 29, .p 30]) pmayA_l0 = true := plan_cutL [.p 0, .p 1, .p 2, .p 4] _ _ _ pmayA_s0 (by rw [pmayA_a0]; exact pmayA_k1)
theorem pmayA_ok (ops : Array Oper) (h : opsOf Tryd.f13 5 = some ops) : planned ops (PTree.of pmayA) = true := by
  have e : ops = pmayA_ops := by unfold pmayA_ops; rw [h]
  subst e
  unfold planned
  rw [show effs (PTree.of pmayA) = pmayA_w from rfl, show lates (PTree.of pmayA) = pmayA_f from rfl, show Array.replicate pmayA_ops.size false = pmayA_l0 by kernel_rfl, pmayA_k0, show Region.noSelect pmayA_ops = true by kernel_rfl, show Nat.beq (PTree.of pmayA).len pmayA_ops.size = true by kernel_rfl]
  rfl
end Go.Vx
set_option maxRecDepth 1000000
namespace Go.Vx
open Go Go.Proofs

abbrev pmayB : List Tk := [.p 0, .p 1, .p 2, .p 3, .p 4, .p 5, .p 7, .p 8, .q 6, .q 9, .e 10, .e 11, .p 12, .p 13, .p 14, .p 15, .q 16, .p 17, .p 18, .p 19, .p 20, .q 21, .e 22, .p 23, .p 24, .p 25, .p 26, .p 27, .p 28, .p 30, .p 31, .p 35, .q 29, .p 32, .p 33, .q 34, .q 36, .e 37, .p 38, .p 39, .p 40]
noncomputable def pmayB_ops : Array Oper := match opsOf Tryd.f13 11 with
  | some o => o
  | none => #[]
def pmayB_w : List Nat := [10, 11, 22, 37]
def pmayB_f : List Nat := []
def pmayB_l0 : Array Bool := #[false, false, false, false, false, false, false, false, false, false, false, false, false, false, false, false, false, false, false, false, false, false, false, false, false, false, false, false, false, false, false, false, false, false, false, false, false, false, false, false, false]
theorem pmayB_s0 : stepsOKL pmayB_ops pmayB_w pmayB_f false [.p 0, .p 1, .p 2, .p 3] pmayB_l0 = true := by kernel_rfl
def pmayB_l1 : Array Bool := #[true, true, true, true, false, false, false, false, false, false, false, false, false, false, false, false, false, false, false, false, false, false, false, false, false, false, false, false, false, false, false, false, false, false, false, false, false, false, false, false, false]
theorem pmayB_a0 : listedBy [.p 0, .p 1, .p 2, .p 3] pmayB_l0 = pmayB_l1 := by kernel_rfl
theorem pmayB_s1 : stepsOKL pmayB_ops pmayB_w pmayB_f false [.p 4, .p 5, .p 7, .p 8] pmayB_l1 = true := by kernel_rfl
def pmayB_l2 : Array Bool := #[true, true, true, true, true, true, false, true, true, false, false, false, false, false, false, false, false, false, false, false, false, false, false, false, false, false, false, false, false, false, false, false, false, false, false, false, false, false, false, false, false]
theorem pmayB_a1 : listedBy [.p 4, .p 5, .p 7, .p 8] pmayB_l1 = pmayB_l2 := by kernel_rfl
theorem pmayB_s2 : stepsOKL pmayB_ops pmayB_w pmayB_f false [.q 6, .q 9, .e 10, .e 11] pmayB_l2 = true := by kernel_rfl
def pmayB_l3 : Array Bool := #[true, true, true, true, true, true, true, true, true, true, true, true, false, false, false, false, false, false, false, false, false, false, false, false, false, false, false, false, false, false, false, false, false, false, false, false, false, false, false, false, false]
theorem pmayB_a2 : listedBy [.q 6, .q 9, .e 10, .e 11] pmayB_l2 = pmayB_l3 := by kernel_rfl
theorem pmayB_s3 : stepsOKL pmayB_ops pmayB_w pmayB_f false [.p 12, .p 13, .p 14, .p 15] pmayB_l3 = true := by kernel_rfl
def pmayB_l4 : Array Bool := #[true, true, true, true, true, true, true, true, true, true, true, true, true, true, true, true, false, false, false, false, false, false, false, false, false, false, false, false, false, false, false, false, false, false, false, false, false, false, false, false, false]
theorem pmayB_a3 : listedBy [.p 12, .p 13, .p 14, .p 15] pmayB_l3 = pmayB_l4 := by kernel_rfl
theorem pmayB_s4 : stepsOKL pmayB_ops pmayB_w pmayB_f false [.q 16, .p 17, .p 18, .p 19] pmayB_l4 = true := by kernel_rfl
def pmayB_l5 : Array Bool := #[true, true, true, true, true, true, true, true, true, true, true, true, true, true, true, true, true, true, true, true, false, false, false, false, false, false, false, false, false, false, false, false, false, false, false, false, false, false, false, false, false]
theorem pmayB_a4 : listedBy [.q 16, .p 17, .p 18, .p 19] pmayB_l4 = pmayB_l5 := by kernel_rfl
theorem pmayB_s5 : stepsOKL pmayB_ops pmayB_w pmayB_f false [.p 20, .q 21, .e 22, .p 23] pmayB_l5 = true := by kernel_rfl
def pmayB_l6 : Array Bool := #[true, true, true, true, true, true, true, true, true, true, true, true, true, true, true, true, true, true, true, true, true, true, true, true, false, false, false, false, false, false, false, false, false, false, false, false, false, false, false, false, false]
theorem pmayB_a5 : listedBy [.p 20, .q 21, .e 22, .p 23] pmayB_l5 = pmayB_l6 := by kernel_rfl
theorem pmayB_s6 : stepsOKL pmayB_ops pmayB_w pmayB_f false [.p 24, .p 25, .p 26, .p 27] pmayB_l6 = true := by kernel_rfl
def pmayB_l7 : Array Bool := #[true, true, true, true, true, true, true, true, true, true, true, true, true, true, true, true, true, true, true, true, true, true, true, true, true, true, true, true, false, false, false, false, false, false, false, false, false, false, false, false, false]
theorem pmayB_a6 : listedBy [.p 24, .p 25, .p 26, .p 27] pmayB_l6 = pmayB_l7 := by kernel_rfl
theorem pmayB_s7 : stepsOKL pmayB_ops pmayB_w pmayB_f false [.p 28, .p 30, .p 31, .p 35] pmayB_l7 = true := by kernel_rfl
def pmayB_l8 : Array Bool := #[true, true, true, true, true, true, true, true, true, true, true, true, true, true, true, true, true, true, true, true, true, true, true, true, true, true, true, true, true, false, true, true, false, false, false, true, false, false, false, false, false]
theorem pmayB_a7 : listedBy [.p 28, .p 30, .p 31, .p 35] pmayB_l7 = pmayB_l8 := by kernel_rfl
theorem pmayB_s8 : stepsOKL pmayB_ops pmayB_w pmayB_f false [.q 29, .p 32, .p 33, .q 34] pmayB_l8 = true := by kernel_rfl
def pmayB_l9 : Array Bool := #[true, true, true, true, true, true, true, true, true, true, true, true, true, true, true, true, true, true, true, true, true, true, true, true, true, true, true, true, true, true, true, true, true, true, true, true, false, false, false, false, false]
theorem pmayB_a8 : listedBy [.q 29, .p 32, .p 33, .q 34] pmayB_l8 = pmayB_l9 := by kernel_rfl
theorem pmayB_s9 : stepsOKL pmayB_ops pmayB_w pmayB_f false [.q 36, .e 37, .p 38, .p 39] pmayB_l9 = true := by kernel_rfl
def pmayB_l10 : Array Bool := #[true, true, true, true, true, true, true, true, true, true, true, true, true, true, true, true, true, true, true, true, true, true, true, true, true, true, true, true, true, true, true, true, true, true, true, true, true, true, true, true, false]
theorem pmayB_a9 : listedBy [.q 36, .e 37, .p 38, .p 39] pmayB_l9 = pmayB_l10 := by kernel_rfl
theorem pmayB_s10 : stepsOKL pmayB_ops pmayB_w pmayB_f false [.p 40] pmayB_l10 = true := by kernel_rfl
def pmayB_l11 : Array Bool := #[true, true, true, true, true, true, true, true, true, true, true, true, true, true, true, true, true, true, true, true, true, true, true, true, true, true, true, true, true, true, true, true, true, true, true, true, true, true, true, true, true]
theorem pmayB_a10 : listedBy [.p 40] pmayB_l10 = pmayB_l11 := by kernel_rfl
theorem pmayB_k11 : planOK pmayB_ops pmayB_w pmayB_f false (PTree.of []) pmayB_l11 = true := by kernel_rfl
theorem pmayB_k10 : planOK pmayB_ops pmayB_w pmayB_f false (PTree.of [.p 40]) pmayB_l10 = true := plan_cutL [.p 40] _ _ _ pmayB_s10 (by rw [pmayB_a10]; exact pmayB_k11)
theorem pmayB_k9 : planOK pmayB_ops pmayB_w pmayB_f false (PTree.of [.q 36, .e 37, .p 38, .p 39, .p 40]) pmayB_l9 = true := plan_cutL [.q 36, .e 37, .p 38, .p 39] _ _ _ pmayB_s9 (by rw [pmayB_a9]; exact pmayB_k10)
theorem pmayB_k8 : planOK pmayB_ops pmayB_w pmayB_f false (PTree.of [.q 29, .p 32, .p 33, .q 34, .q 36, .e 37, .p 38, .p 39, .p 40]) pmayB_l8 = true := plan_cutL [.q 29, .p 32, .p 33, .q 34] _ _ _ pmayB_s8 (by rw [pmayB_a8]; exact pmayB_k9)
theorem pmayB_k7 : planOK pmayB_ops pmayB_w pmayB_f false (PTree.of [.p 28, .p 30, .p 31, .p 35, .q 29, .p 32, .p 33, .q 34, .q 36, .e 37, .p 38, .p 39, .p 40]) pmayB_l7 = true := plan_cutL [.p 28, .p 30, .p 31, .p 35] _ _ _ pmayB_s7 (by rw [pmayB_a7]; exact pmayB_k8)
theorem pmayB_k6 : planOK pmayB_ops pmayB_w pmayB_f false (PTree.of [.p 24, .p 25, .p 26, .p 27, .p 28, .p 30, .p 31, .p 35, .q 29, .p 32, .p 33, .q 34, .q 36, .e 37, .p 38, .p 39, .p 40]) pmayB_l6 = true := plan_cutL [.p 24, .p 25, .p 26, .p 27] _ _ _ pmayB_s6 (by rw [pmayB_a6]; exact pmayB_k7)
theorem pmayB_k5 : planOK pmayB_ops pmayB_w pmayB_f false (PTree.of [.p 20, .q 21, .e 22, .p 23, .p 24, .p 25, .p 26, .p 27, .p 28, .p 30, .p 31, .p 35, .q 29, .p 32, .p 33, .q 34, .q 36, .e 37, .p 38, .p 39, .p 40]) pmayB_l5 = true := plan_cutL [.p 20, .q 21, .e 22, .p 23] _ _ _ pmayB_s5 (by rw [pmayB_a5]; exact pmayB_k6)
theorem pmayB_k4 : planOK pmayB_ops pmayB_w pmayB_f false (PTree.of [.q 16, .p 17, .p 18, .p 19, .p 20, .q 21, .e 22, .p 23, .p 24, .p 25, .p 26, .p 27, .p 28, .p 30, .p 31, .p 35, .q 29, .p 32, .p 33, .q 34, .q 36, .e 37, .p 38, .p 39, .p 40]) pmayB_l4 = true := plan_cutL [.q 16, .p 17, .p 18, .p 19] _ _ _ pmayB_s4 (by rw [pmayB_a4]; exact pmayB_k5)
theorem pmayB_k3 : planOK pmayB_ops pmayB_w pmayB_f false (PTree.of [.p 12, .p 13, .p 14, .p 15, .q 16, .p 17, .p 18, .p 19, .p 20, .q 21, .e 22, .p 23, .p 24, .p 25, .p 26, .p 27, .p 28, .p 30, .p 31, .p 35, .q 29, .p 32, .p 33, .q 34, .q 36, .e 37, .p 38, .p 39, .p 40]) pmayB_l3 = true := plan_cutL [.p 12, .p 13, .p 14, .p 15] _ _ _ pmayB_s3 (by rw [pmayB_a3]; exact pmayB_k4)
theorem pmayB_k2 : planOK pmayB_ops pmayB_w pmayB_f false (PTree.of [.q 6, .q 9, .e 10, .e 11, .p 12, .p 13, .p 14, .p 15, .q 16, .p 17, .p 18, .p 19, .p 20, .q 21, .e 22, .p 23, .p 24, .p 25, .p 26, .p 27, .p 28, .p 30, .p 31, .p 35, .q 29, .p 32, .p 33, .q 34, .q 36, .e 37, .p 38, .p 39, .p 40]) pmayB_l2 = true := plan_cutL [.q 6, .q 9, .e 10, .e 11] _ _ _ pmayB_s2 (by rw [pmayB_a2]; exact pmayB_k3)
theorem pmayB_k1 : planOK pmayB_ops pmayB_w pmayB_f false (PTree.of [.p 4, .p 5, .p 7, .p 8, .q 6, .q 9, .e 10, .e 11, .p 12, .p 13, .p 14, .p 15, .q 16, .p 17, .p 18, .p 19, .p 20, .q 21, .e 22, .p 23, .p 24, .p 25, .p 26, .p 27, .p 28, .p 30, .p 31, .p 35, .q 29, .p 32, .p 33, .q 34, .q 36, .e 37, .p 38, .p 39, .p 40]) pmayB_l1 = true := plan_cutL [.p 4, .p 5, .p 7, .p 8] _ _ _ pmayB_s1 (by rw [pmayB_a1]; exact pmayB_k2)
theorem pmayB_k0 : planOK pmayB_ops pmayB_w pmayB_f false (PTree.of [.p 0, .p 1, .p 2, .p 3, .p 4, .p 5, .p 7, .p 8, .q 6, .q 9, .e 10, .e 11, .p 12, .p 13, .p 14, .p 15, .q 16, .p 17, .p 18, .p 19, .p 20, .q 21, .e 22, .p 23, .p 24, .p 25, .p 26, .p 27, .p 28, .p 30, .p 31, .p 35, .q 29, .p 32, .p 33, .q 34, .q 36, .e 37, .p 38, .p 39, .p 40]) pmayB_l0 = true := plan_cutL [.p 0, .p 1, .p 2, .p 3] _ _ _ pmayB_s0 (by rw [pmayB_a0]; exact pmayB_k1)
theorem pmayB_ok (ops : Array Oper) (h : opsOf Tryd.f13 11 = some ops) : planned ops (PTree.of pmayB) = true := by
  have e : ops = pmayB_ops := by unfold pmayB_ops; rw [h]
  subst e
  unfold planned
  rw [show effs (PTree.of pmayB) = pmayB_w from rfl, show lates (PTree.of pmayB) = pmayB_f from rfl, show Array.replicate pmayB_ops.size false = pmayB_l0 by kernel_rfl, pmayB_k0, show Region.noSelect pmayB_ops = true by kernel_rfl, show Nat.beq (PTree.of pmayB).len pmayB_ops.size = true by kernel_rfl]
  rfl
end Go.Vx
