/-
  Round 23: lists that are the same.
  Round 23: a fair point; points that are the same.
  The symbolic evaluator: the plan of a great region, looked at in pieces.
  Round 23: the order of the regions of made (the print of tools/bigplan.py).
  Round 23: a point for the program, and back.
  Round 23: the order of the regions of back (the print of tools/bigplan.py).
  Round 23: a point back, az the document has it.
  Round 23: the order of a region of checkpoint.May (the print of tools/bigplan.py).
  Round 23: the order of a region of checkpoint.May (the print of tools/bigplan.py).
  Round 23: a point that may be.
  Round 23: a point's bytes.
  Conditions: none.
-/
import Derived.Test.YtmdnpfocihfkdaaDoorM3
import Derived.Test.YtmdnpfocihfkdaaDoorM4
set_option linter.unusedSectionVars false
set_option maxRecDepth 100000
set_option linter.unusedVariables false
set_option linter.unusedSimpArgs false
namespace Go.Vx
open Go Go.Proofs
variable [Gl]

theorem tk_at {α : Type} {l : List α} {n v : Nat} {d : α} (hv : v < n) : (l.take n).getD v d = l.getD v d := by
  simp only [List.getD_eq_getElem?_getD, List.getElem?_take, if_pos hv]
theorem tk_len {α : Type} {l : List α} {n : Nat} (h : n ≤ l.length) : (l.take n).length = n := by
  rw [List.length_take]; omega
/-- The first i are the same. -/
def Sm {α : Type} (A B : List α) (n : Nat) : Inv' C0 := ⟨4, Nat, fun i => [(5, .int .i64 (i : Int))], fun _ m => m, fun i => i ≤ n ∧ A.take i = B.take i, fun i => n - i⟩
set_option maxHeartbeats 8000000 in
theorem SameInts_ok (o : Bool) (b q : Nat) (l : List Int) (n c : Nat) (o' : Bool) (b' q' : Nat) (l' : List Int) (n' c' : Nat) (h : n ≤ l.length) (h' : n' ≤ l'.length) (hs : n < 140737488355000) (ho : o = false → n = 0 ∧ c = 0) (ho' : o' = false → n' = 0 ∧ c' = 0) :
    Tells (C := C0) Tryd.prog (.fn 45) [⟨b, q, 1, false, some o, .rows 3 l⟩, ⟨b', q', 1, false, some o', .rows 3 l'⟩] [.sl 0 0 n c, .sl 1 0 n' c'] (.bool (.tm (ieq (l.take n) (l'.take n')))) := by
  refine loc_pc (P := Tryd.prog) (E := ⟨[], [], 29, [], [], []⟩) (L := [Sm (l.take n) (l'.take n') n]) mix Tryd.func45 rfl (by kernel_rfl) (by kernel_rfl) rfl rfl ?_
  ((conv => (arg 1; reduce)); with_reducible repeat' (first | exact Tr.yes_h | refine Tr.and_h ?_ ?_ | refine Tr.imp_h fun _ => ?_ | refine Tr.all_h fun _ => ?_ | refine Tr.lf_h ?_))
  all_goals try (first | first | (show Region.lexB _ _ = true; kernel_rfl) | (show planned _ _ = true; kernel_rfl) | exact rfl | exact True.intro | ((try dsimp only [imp, C0, cG, cInt, cPl, cSlot, cPg, rwCodec, cRaw] at *); (try refine inR64 ?_ ?_) <;> (try simp only [List.length_set, List.length_append, List.length_take, List.length_drop]) <;> omega))
  · rename_i h0
    have h0 := of_decide_eq_true h0
    refine (ieq_no fun he => h0 ?_).symm
    have := congrArg List.length he
    rw [tk_len h, tk_len h'] at this
    omega
  · rename_i h0
    refine Stands.one (0 : Nat) ⟨⟨Nat.zero_le _, rfl⟩, ?_⟩
    ((conv => (arg 1; reduce)); with_reducible repeat' (first | exact Tr.yes_h | refine Tr.and_h ?_ ?_ | refine Tr.imp_h fun _ => ?_ | refine Tr.all_h fun _ => ?_ | refine Tr.lf_h ?_))
    all_goals (first | first | (show Region.lexB _ _ = true; kernel_rfl) | (show planned _ _ = true; kernel_rfl) | exact rfl | exact True.intro | ((try dsimp only [imp, C0, cG, cInt, cPl, cSlot, cPg, rwCodec, cRaw] at *); (try refine inR64 ?_ ?_) <;> (try simp only [List.length_set, List.length_append, List.length_take, List.length_drop]) <;> omega))
  all_goals try (
    rename_i h0 v hv h1
    change Nat at v
    have h0 := of_decide_eq_false h0
    have h1 := of_decide_eq_true h1
    first
      | (exact on_of ho (by omega))
      | (exact on_of ho' (by omega))
      | (show (v : Int) < (n : Int); omega)
      | (show (v : Int) < (n' : Int); omega)
      | (show (v : Int).toNat < l.length; omega)
      | (show (v : Int).toNat < l'.length; omega)
      | (show (v : Int).toNat + 0 < l.length; omega)
      | (show (v : Int).toNat + 0 < l'.length; omega))
  · rename_i h0 v hv h1 h2
    change Nat at v
    have h1' := of_decide_eq_true h1
    have h0' := of_decide_eq_false h0
    refine (ieq_no fun he => ?_).symm
    have hc := congrArg (fun L : List Int => L.getD v 0) he
    simp only [tk_at (l := l) (n := n) (v := v) (by omega), tk_at (l := l') (n := n') (v := v) (by omega)] at hc
    have h2 : (!decide (l.getD v 0 = l'.getD v 0)) = true := h2
    rw [decide_eq_true hc] at h2
    cases h2
  · rename_i h0 v hv h1 h2
    change Nat at v
    have h1' := of_decide_eq_true h1
    have h0' := of_decide_eq_false h0
    exact inR64 (by show _ ≤ (v : Int) + 1; omega) (by show (v : Int) + 1 ≤ _; omega)
  · rename_i h0 v hv h1 h2
    change Nat at v
    have h1' := of_decide_eq_true h1
    have h0' := of_decide_eq_false h0
    have h2 : (!decide (l.getD v 0 = l'.getD v 0)) = false := h2
    have h2 := of_decide_eq_true (by simpa using h2 : decide (l.getD v 0 = l'.getD v 0) = true)
    refine Stands.one (Nat.succ v) ⟨⟨by show v + 1 ≤ n; omega, ?_⟩, ?_, ?_⟩
    · show (l.take n).take (v + 1) = (l'.take n').take (v + 1)
      rw [take_snoc (d := 0) (by rw [tk_len h]; omega), take_snoc (d := 0) (by rw [tk_len h']; omega), tk_at (by omega), tk_at (by omega), h2, hv.2]
    · show n - (v + 1) < n - v
      omega
    ((conv => (arg 1; reduce)); with_reducible repeat' (first | exact Tr.yes_h | refine Tr.and_h ?_ ?_ | refine Tr.imp_h fun _ => ?_ | refine Tr.all_h fun _ => ?_ | refine Tr.lf_h ?_))
    all_goals (first | first | (show Region.lexB _ _ = true; kernel_rfl) | (show planned _ _ = true; kernel_rfl) | exact rfl | exact True.intro | ((try dsimp only [imp, C0, cG, cInt, cPl, cSlot, cPg, rwCodec, cRaw] at *); (try refine inR64 ?_ ?_) <;> (try simp only [List.length_set, List.length_append, List.length_take, List.length_drop]) <;> omega))
  · rename_i h0 v hv h1
    change Nat at v
    have h1' := of_decide_eq_false h1
    have h0' := of_decide_eq_false h0
    have hn : n = n' := by omega
    subst hn
    have he := hv.2
    have e1 : (l.take n).take v = l.take n := List.take_of_length_le (by rw [tk_len h]; omega)
    have e2 : (l'.take n).take v = l'.take n := List.take_of_length_le (by rw [tk_len h']; omega)
    exact (ieq_yes (e1.symm.trans (he.trans e2))).symm
def pcSameInts : Pc Tryd.prog C0 where
  tg := .fn 45
  X := (Bool × Nat × Nat × List Int × Nat × Nat) × (Bool × Nat × Nat × List Int × Nat × Nat)
  args := fun ((o, b, q, l, n, c), (o', b', q', l', n', c')) => [.sl 0 0 n c, .sl 1 0 n' c']
  mem := fun ((o, b, q, l, n, c), (o', b', q', l', n', c')) => [⟨b, q, 1, false, some o, .rows 3 l⟩, ⟨b', q', 1, false, some o', .rows 3 l'⟩]
  pre := fun ((o, b, q, l, n, c), (o', b', q', l', n', c')) => n ≤ l.length ∧ n' ≤ l'.length ∧ n < 140737488355000 ∧ (o = false → n = 0 ∧ c = 0) ∧ (o' = false → n' = 0 ∧ c' = 0)
  res := fun ((o, b, q, l, n, c), (o', b', q', l', n', c')) => .bool (.tm (ieq (l.take n) (l'.take n')))
  mat vs m := match vs with
    | [.sl a 0 n c, .sl a' 0 n' c'] => match nth m a, nth m a' with
      | ⟨b, q, _, _, g, .rows 3 l⟩, ⟨b', q', _, _, g', .rows 3 l'⟩ => some (((onOf g, b, q, l, n, c), (onOf g', b', q', l', n', c')), [a, a'])
      | _, _ => none
    | [.nils, .sl a' 0 n' c'] => match nth m a' with
      | ⟨b', q', _, _, g', .rows 3 l'⟩ => some (((false, 0, 0, [], 0, 0), (onOf g', b', q', l', n', c')), [m.length, a'])
      | _ => none
    | [.sl a 0 n c, .nils] => match nth m a with
      | ⟨b, q, _, _, g, .rows 3 l⟩ => some (((onOf g, b, q, l, n, c), (false, 0, 0, [], 0, 0)), [a, m.length])
      | _ => none
    | _ => none
  ok := fun ((o, b, q, l, n, c), (o', b', q', l', n', c')) h => SameInts_ok o b q l n c o' b' q' l' n' c' h.1 h.2.1 h.2.2.1 h.2.2.2.1 h.2.2.2.2
def eqSlot (a b : Slot) : Bool := decide (a.key = b.key) && (decide (a.pl.1 = b.pl.1) && decide (a.pl.2 = b.pl.2)) && eqMe a.me b.me
theorem eqMe_iff {a b : Me} : eqMe a b = true ↔ a = b := by
  obtain ⟨a1, a2, a3, a4, a5, a6⟩ := a
  obtain ⟨b1, b2, b3, b4, b5, b6⟩ := b
  simp [eqMe, and_assoc]
theorem eqSlot_iff {a b : Slot} : eqSlot a b = true ↔ a = b := by
  obtain ⟨a1, ⟨a2, a3⟩, a4⟩ := a
  obtain ⟨b1, ⟨b2, b3⟩, b4⟩ := b
  simp [eqSlot, eqMe_iff, and_assoc]
/-- Are they one list. -/
def lEqB : List Slot → List Slot → Bool
  | [], [] => true
  | a :: r, b :: s => eqSlot a b && lEqB r s
  | _, _ => false
theorem lEqB_iff : ∀ {a b : List Slot}, lEqB a b = true ↔ a = b
  | [], [] => by simp [lEqB]
  | [], _ :: _ => by simp [lEqB]
  | _ :: _, [] => by simp [lEqB]
  | a :: r, b :: s => by
    rw [lEqB, Bool.and_eq_true, eqSlot_iff, lEqB_iff, List.cons.injEq]
@[irreducible] def lEq (a b : List Slot) : Bool := lEqB a b
theorem lEq_iff {a b : List Slot} : lEq a b = true ↔ a = b := by unfold lEq; exact lEqB_iff
theorem lEq_no {a b : List Slot} (h : a ≠ b) : lEq a b = false := by
  cases hh : lEq a b with
  | false => rfl
  | true => exact (h (lEq_iff.1 hh)).elim
theorem lEq_yes {a b : List Slot} (h : a = b) : lEq a b = true := lEq_iff.2 h
/-- The test of one round. -/
theorem ne_slot {a b : Slot} : (decide (a.key ≠ b.key) || (!(decide (a.pl.1 = b.pl.1) && decide (a.pl.2 = b.pl.2))) || (!eqMe a.me b.me)) = !eqSlot a b := by
  unfold eqSlot
  by_cases h : a.key = b.key <;> simp [h, Bool.not_and]
set_option maxHeartbeats 8000000 in
theorem SameSlots_ok (o : Bool) (b q : Nat) (l : List Slot) (n c : Nat) (o' : Bool) (b' q' : Nat) (l' : List Slot) (n' c' : Nat) (h : n ≤ l.length) (h' : n' ≤ l'.length) (hs : n < 140737488355000) (ho : o = false → n = 0 ∧ c = 0) (ho' : o' = false → n' = 0 ∧ c' = 0) :
    Tells (C := C0) Tryd.prog (.fn 46) [⟨b, q, 9, false, some o, .rows 74 l⟩, ⟨b', q', 9, false, some o', .rows 74 l'⟩] [.sl 0 0 n c, .sl 1 0 n' c'] (.bool (.tm (lEq (l.take n) (l'.take n')))) := by
  refine loc_pc (P := Tryd.prog) (E := ⟨[], [pcSamePlace, pcSameMeta], 60, [(6, [0, 1], [.p 0, .p 1, .p 2, .p 3, .p 4, .p 5, .p 6, .p 7, .p 8, .p 9, .e 10, .p 11]), (7, [0, 1], [.p 0, .p 1, .p 2, .p 3, .p 4, .p 5, .p 6, .p 7, .p 8, .p 9, .e 10, .p 11])], [], []⟩) (L := [Sm (l.take n) (l'.take n') n]) mix Tryd.func46 rfl (by kernel_rfl) (by kernel_rfl) rfl rfl ?_
  ((conv => (arg 1; reduce)); with_reducible repeat' (first | exact Tr.yes_h | refine Tr.and_h ?_ ?_ | refine Tr.imp_h fun _ => ?_ | refine Tr.all_h fun _ => ?_ | refine Tr.lf_h ?_))
  all_goals try (first | first | (show Region.lexB _ _ = true; kernel_rfl) | (show planned _ _ = true; kernel_rfl) | exact rfl | exact True.intro | ((try dsimp only [imp, C0, cG, cInt, cPl, cSlot, cPg, rwCodec, cRaw] at *); (try refine inR64 ?_ ?_) <;> (try simp only [List.length_set, List.length_append, List.length_take, List.length_drop]) <;> omega))
  · rename_i h0
    have h0 := of_decide_eq_true h0
    refine (lEq_no fun he => h0 ?_).symm
    have := congrArg List.length he
    rw [tk_len h, tk_len h'] at this
    omega
  · rename_i h0
    refine Stands.one (0 : Nat) ⟨⟨Nat.zero_le _, rfl⟩, ?_⟩
    ((conv => (arg 1; reduce)); with_reducible repeat' (first | exact Tr.yes_h | refine Tr.and_h ?_ ?_ | refine Tr.imp_h fun _ => ?_ | refine Tr.all_h fun _ => ?_ | refine Tr.lf_h ?_))
    all_goals (first | first | (show Region.lexB _ _ = true; kernel_rfl) | (show planned _ _ = true; kernel_rfl) | exact rfl | exact True.intro | ((try dsimp only [imp, C0, cG, cInt, cPl, cSlot, cPg, rwCodec, cRaw] at *); (try refine inR64 ?_ ?_) <;> (try simp only [List.length_set, List.length_append, List.length_take, List.length_drop]) <;> omega))
  all_goals try (
    rename_i h0 v hv h1
    change Nat at v
    have h0 := of_decide_eq_false h0
    have h1 := of_decide_eq_true h1
    first
      | (exact on_of ho (by omega))
      | (exact on_of ho' (by omega))
      | (show (v : Int) < (n : Int); omega)
      | (show (v : Int) < (n' : Int); omega)
      | (show (v : Int).toNat < l.length; omega)
      | (show (v : Int).toNat < l'.length; omega)
      | (show (v : Int).toNat + 0 < l.length; omega)
      | (show (v : Int).toNat + 0 < l'.length; omega))
  · rename_i h0 v hv h1 h2
    change Nat at v
    have h1' := of_decide_eq_true h1
    have h0' := of_decide_eq_false h0
    refine (lEq_no fun he => ?_).symm
    have hc := congrArg (fun L : List Slot => L.getD v slot0) he
    simp only [tk_at (l := l) (n := n) (v := v) (by omega), tk_at (l := l') (n := n') (v := v) (by omega)] at hc
    have h2 := ne_slot.symm.trans h2
    have h2 : (!eqSlot (l.getD v slot0) (l'.getD v slot0)) = true := h2
    rw [eqSlot_iff.2 hc] at h2
    cases h2
  · rename_i h0 v hv h1 h2
    change Nat at v
    have h1' := of_decide_eq_true h1
    have h0' := of_decide_eq_false h0
    exact inR64 (by show _ ≤ (v : Int) + 1; omega) (by show (v : Int) + 1 ≤ _; omega)
  · rename_i h0 v hv h1 h2
    change Nat at v
    have h1' := of_decide_eq_true h1
    have h0' := of_decide_eq_false h0
    have h2 := ne_slot.symm.trans h2
    have h2 : (!eqSlot (l.getD v slot0) (l'.getD v slot0)) = false := h2
    have h2 := eqSlot_iff.1 (by simpa using h2 : eqSlot (l.getD v slot0) (l'.getD v slot0) = true)
    refine Stands.one (Nat.succ v) ⟨⟨by show v + 1 ≤ n; omega, ?_⟩, ?_, ?_⟩
    · show (l.take n).take (v + 1) = (l'.take n').take (v + 1)
      rw [take_snoc (d := slot0) (by rw [tk_len h]; omega), take_snoc (d := slot0) (by rw [tk_len h']; omega), tk_at (by omega), tk_at (by omega), h2, hv.2]
    · show n - (v + 1) < n - v
      omega
    ((conv => (arg 1; reduce)); with_reducible repeat' (first | exact Tr.yes_h | refine Tr.and_h ?_ ?_ | refine Tr.imp_h fun _ => ?_ | refine Tr.all_h fun _ => ?_ | refine Tr.lf_h ?_))
    all_goals (first | first | (show Region.lexB _ _ = true; kernel_rfl) | (show planned _ _ = true; kernel_rfl) | exact rfl | exact True.intro | ((try dsimp only [imp, C0, cG, cInt, cPl, cSlot, cPg, rwCodec, cRaw] at *); (try refine inR64 ?_ ?_) <;> (try simp only [List.length_set, List.length_append, List.length_take, List.length_drop]) <;> omega))
  · rename_i h0 v hv h1
    change Nat at v
    have h1' := of_decide_eq_false h1
    have h0' := of_decide_eq_false h0
    have hn : n = n' := by omega
    subst hn
    have he := hv.2
    have e1 : (l.take n).take v = l.take n := List.take_of_length_le (by rw [tk_len h]; omega)
    have e2 : (l'.take n).take v = l'.take n := List.take_of_length_le (by rw [tk_len h']; omega)
    exact (lEq_yes (e1.symm.trans (he.trans e2))).symm
def pcSameSlots : Pc Tryd.prog C0 where
  tg := .fn 46
  X := (Bool × Nat × Nat × List Slot × Nat × Nat) × (Bool × Nat × Nat × List Slot × Nat × Nat)
  args := fun ((o, b, q, l, n, c), (o', b', q', l', n', c')) => [.sl 0 0 n c, .sl 1 0 n' c']
  mem := fun ((o, b, q, l, n, c), (o', b', q', l', n', c')) => [⟨b, q, 9, false, some o, .rows 74 l⟩, ⟨b', q', 9, false, some o', .rows 74 l'⟩]
  pre := fun ((o, b, q, l, n, c), (o', b', q', l', n', c')) => n ≤ l.length ∧ n' ≤ l'.length ∧ n < 140737488355000 ∧ (o = false → n = 0 ∧ c = 0) ∧ (o' = false → n' = 0 ∧ c' = 0)
  res := fun ((o, b, q, l, n, c), (o', b', q', l', n', c')) => .bool (.tm (lEq (l.take n) (l'.take n')))
  mat vs m := match vs with
    | [.sl a 0 n c, .sl a' 0 n' c'] => match nth m a, nth m a' with
      | ⟨b, q, _, _, g, .rows 74 l⟩, ⟨b', q', _, _, g', .rows 74 l'⟩ => some (((onOf g, b, q, l, n, c), (onOf g', b', q', l', n', c')), [a, a'])
      | _, _ => none
    | [.nils, .sl a' 0 n' c'] => match nth m a' with
      | ⟨b', q', _, _, g', .rows 74 l'⟩ => some (((false, 0, 0, [], 0, 0), (onOf g', b', q', l', n', c')), [m.length, a'])
      | _ => none
    | [.sl a 0 n c, .nils] => match nth m a with
      | ⟨b, q, _, _, g, .rows 74 l⟩ => some (((onOf g, b, q, l, n, c), (false, 0, 0, [], 0, 0)), [a, m.length])
      | _ => none
    | _ => none
  ok := fun ((o, b, q, l, n, c), (o', b', q', l', n', c')) h => SameSlots_ok o b q l n c o' b' q' l' n' c' h.1 h.2.1 h.2.2.1 h.2.2.2.1 h.2.2.2.2
end Go.Vx
set_option linter.unusedSectionVars false
set_option maxRecDepth 100000
set_option linter.unusedVariables false
set_option linter.unusedSimpArgs false
namespace Go.Vx
open Go Go.Proofs
variable [Gl]

/-- Numbers of a point. -/
abbrev Hd := Int × Int × Int × Int
/-- A slice: is it there, where, what lies there, how many, how many can be. -/
abbrev Sq (α : Type) := Bool × Nat × Nat × List α × Nat × Nat
def Sq.ok {α : Type} (s : Sq α) : Prop := s.2.2.2.2.1 ≤ s.2.2.2.2.2 ∧ s.2.2.2.2.1 ≤ s.2.2.2.1.length ∧ (s.1 = false → s.2.2.2.2.1 = 0 ∧ s.2.2.2.2.2 = 0)
def Sq.li {α : Type} (s : Sq α) : List α := s.2.2.2.1.take s.2.2.2.2.1
/-- A row that is a slice, az it can be. -/
def Rok {α : Type} (r : Rw α) : Prop := (r.on = false → r.l.length = 0 ∧ r.m = 0) ∧ r.l.length ≤ r.m ∧ r.l.length < 140737488355000
abbrev ptv (h : Hd) (a b : SV) : SV := .agg [.int .i64 h.1, .int .i64 h.2.1, .int .i64 h.2.2.1, .int .i64 h.2.2.2, a, b]
/-- Is a point fair. -/
@[irreducible] def fr (A : List (Rw Int)) (k : Nat) : Bool := decide (A.length ≤ 70) && decide (k ≤ 100) && A.all fun r => decide (r.l.length = 2)
theorem fr_big {A : List (Rw Int)} {k : Nat} (h : 70 < A.length ∨ 100 < k) : fr A k = false := by
  cases hf : fr A k with
  | false => rfl
  | true =>
    unfold fr at hf
    simp only [Bool.and_eq_true, decide_eq_true_iff] at hf
    omega
theorem fr_row {A : List (Rw Int)} {k : Nat} {r : Rw Int} (h : r ∈ A) (hl : r.l.length ≠ 2) : fr A k = false := by
  cases hf : fr A k with
  | false => rfl
  | true =>
    unfold fr at hf
    simp only [Bool.and_eq_true, List.all_eq_true, decide_eq_true_iff] at hf
    exact (hl (hf.2 r h)).elim
theorem fr_iff {A : List (Rw Int)} {k : Nat} : fr A k = true ↔ A.length ≤ 70 ∧ k ≤ 100 ∧ ∀ r ∈ A, r.l.length = 2 := by
  unfold fr
  simp only [Bool.and_eq_true, List.all_eq_true, decide_eq_true_iff, and_assoc]
theorem fr_yes {A : List (Rw Int)} {k : Nat} (h : A.length ≤ 70) (h2 : k ≤ 100) (h3 : ∀ r ∈ A, r.l.length = 2) : fr A k = true := fr_iff.2 ⟨h, h2, h3⟩
def Fr (A : List (Rw Int)) : Inv' C0 := ⟨4, Nat, fun i => [(3, .int .i64 (i : Int))], fun _ m => m, fun i => i ≤ A.length ∧ ∀ r ∈ A.take i, r.l.length = 2, fun i => A.length - i⟩
theorem fair_ok (h : Hd) (o : Bool) (b q : Nat) (l : List (Rw Int)) (n c : Nat) (o' : Bool) (b' q' : Nat) (l' : List Slot) (n' c' : Nat) (h1 : n ≤ l.length) (ho : o = false → n = 0 ∧ c = 0) :
    Tells (C := C0) Tryd.prog (.fn 9) [⟨b, q, 1, false, some o, .rows 71 l⟩, ⟨b', q', 9, false, some o', .rows 74 l'⟩] [ptv h (.sl 0 0 n c) (.sl 1 0 n' c')] (.bool (.tm (fr (l.take n) n'))) := by
  refine loc_pc (P := Tryd.prog) (E := ⟨[], [], 28, [], [fI], []⟩) (L := [Fr (l.take n)]) mix Tryd.func9 rfl (by kernel_rfl) (by kernel_rfl) rfl rfl ?_
  ((conv => (arg 1; reduce)); with_reducible repeat' (first | exact Tr.yes_h | refine Tr.and_h ?_ ?_ | refine Tr.imp_h fun _ => ?_ | refine Tr.all_h fun _ => ?_ | refine Tr.lf_h ?_))
  all_goals try (first | first | (show Region.lexB _ _ = true; kernel_rfl) | (show planned _ _ = true; kernel_rfl) | exact rfl | exact True.intro | ((try dsimp only [imp, C0, cG, cInt, cPl, cSlot, cPg, rwCodec, cRaw] at *); (try refine inR64 ?_ ?_) <;> (try simp only [List.length_set, List.length_append, List.length_take, List.length_drop]) <;> omega))
  · rename_i b0 h0
    refine (fr_big ?_).symm
    have h0 : (decide (70 < (n : Int)) || decide (100 < (n' : Int))) = true := h0
    simp only [Bool.or_eq_true, decide_eq_true_iff] at h0
    rw [tk_len h1]
    omega
  · rename_i b0 h0
    refine Stands.one (0 : Nat) ⟨⟨Nat.zero_le _, by simp⟩, ?_⟩
    ((conv => (arg 1; reduce)); with_reducible repeat' (first | exact Tr.yes_h | refine Tr.and_h ?_ ?_ | refine Tr.imp_h fun _ => ?_ | refine Tr.all_h fun _ => ?_ | refine Tr.lf_h ?_))
    all_goals (first | first | (show Region.lexB _ _ = true; kernel_rfl) | (show planned _ _ = true; kernel_rfl) | exact rfl | exact True.intro | ((try dsimp only [imp, C0, cG, cInt, cPl, cSlot, cPg, rwCodec, cRaw] at *); (try refine inR64 ?_ ?_) <;> (try simp only [List.length_set, List.length_append, List.length_take, List.length_drop]) <;> omega))
  · rename_i b0 h0 v hv h2
    change Nat at v
    have h2 := of_decide_eq_true h2
    exact on_of ho (by omega)
  · rename_i b0 h0 v hv h2
    exact of_decide_eq_true h2
  · rename_i b0 h0 v hv h2
    change Nat at v
    have h2 := of_decide_eq_true h2
    exact on_of ho (by omega)
  · rename_i b0 h0 v hv h2
    change Nat at v
    have h2 := of_decide_eq_true h2
    show (v : Int).toNat + 0 < l.length
    omega
  · rename_i b0 h0 v hv h2 r hr h3
    change Nat at v
    have h2 := of_decide_eq_true h2
    change Rw Int at r
    have h3 : ((r.l.length : Nat) : Int) ≠ 2 := of_decide_eq_true h3
    refine (fr_row (r := r) ?_ (by omega)).symm
    have hr : l.getD v Rw.nil = r := hr
    rw [List.getD_eq_getElem?_getD, List.getElem?_eq_getElem (by omega), Option.getD_some] at hr
    rw [← hr, List.mem_take_iff_getElem]
    exact ⟨v, by omega, rfl⟩
  · rename_i b0 h0 v hv h2 r hr h3
    change Nat at v
    have h2 := of_decide_eq_true h2
    have h0 : (decide (70 < (n : Int)) || decide (100 < (n' : Int))) = false := h0
    simp only [Bool.or_eq_false_iff, decide_eq_false_iff_not] at h0
    exact inR64 (by show _ ≤ (v : Int) + 1; omega) (by show (v : Int) + 1 ≤ _; omega)
  · rename_i b0 h0 v hv h2 r hr h3
    change Nat at v
    have h2 := of_decide_eq_true h2
    change Rw Int at r
    have h3 : ¬ ((r.l.length : Nat) : Int) ≠ 2 := of_decide_eq_false h3
    obtain ⟨e1, e2⟩ := hv
    have hr : l.getD v Rw.nil = r := hr
    refine Stands.one (v + 1 : Nat) ⟨⟨by rw [tk_len h1]; omega, ?_⟩, ?_, ?_⟩
    · intro r2 hr2
      have hr2 : r2 ∈ (l.take n).take (v + 1) := hr2
      rw [take_snoc (d := Rw.nil) (by rw [tk_len h1]; omega), tk_at (by omega), hr] at hr2
      rcases List.mem_append.1 hr2 with h4 | h4
      · exact e2 r2 h4
      · rw [List.mem_singleton.1 h4]; omega
    · show (l.take n).length - (v + 1) < (l.take n).length - v
      rw [tk_len h1]; omega
    ((conv => (arg 1; reduce)); with_reducible repeat' (first | exact Tr.yes_h | refine Tr.and_h ?_ ?_ | refine Tr.imp_h fun _ => ?_ | refine Tr.all_h fun _ => ?_ | refine Tr.lf_h ?_))
    all_goals (first | first | (show Region.lexB _ _ = true; kernel_rfl) | (show planned _ _ = true; kernel_rfl) | exact rfl | exact True.intro | ((try dsimp only [imp, C0, cG, cInt, cPl, cSlot, cPg, rwCodec, cRaw] at *); (try refine inR64 ?_ ?_) <;> (try simp only [List.length_set, List.length_append, List.length_take, List.length_drop]) <;> omega))
  · rename_i b0 h0 v hv h2
    change Nat at v
    have h2 := of_decide_eq_false h2
    obtain ⟨e1, e2⟩ := hv
    have h0 : (decide (70 < (n : Int)) || decide (100 < (n' : Int))) = false := h0
    simp only [Bool.or_eq_false_iff, decide_eq_false_iff_not] at h0
    rw [List.take_of_length_le (by rw [tk_len h1]; omega)] at e2
    exact (fr_yes (by rw [tk_len h1]; omega) (by omega) e2).symm
def pcFair : Pc Tryd.prog C0 where
  tg := .fn 9
  X := Hd × Sq (Rw Int) × Sq Slot
  args := fun (h, (o, b, q, l, n, c), (o', b', q', l', n', c')) => [ptv h (.sl 0 0 n c) (.sl 1 0 n' c')]
  mem := fun (h, (o, b, q, l, n, c), (o', b', q', l', n', c')) => [⟨b, q, 1, false, some o, .rows 71 l⟩, ⟨b', q', 9, false, some o', .rows 74 l'⟩]
  pre := fun (h, (o, b, q, l, n, c), (o', b', q', l', n', c')) => n ≤ l.length ∧ (o = false → n = 0 ∧ c = 0)
  res := fun (h, (o, b, q, l, n, c), (o', b', q', l', n', c')) => .bool (.tm (fr (l.take n) n'))
  mat vs m := match vs with
    | [.agg [.int _ h1, .int _ h2, .int _ h3, .int _ h4, .sl a 0 n c, .sl a' 0 n' c']] => match nth m a, nth m a' with
      | ⟨b, q, _, _, g, .rows 71 l⟩, ⟨b', q', _, _, g', .rows 74 l'⟩ => some (((h1, h2, h3, h4), (onOf g, b, q, l, n, c), (onOf g', b', q', l', n', c')), [a, a'])
      | _, _ => none
    | _ => none
  ok := fun (h, (o, b, q, l, n, c), (o', b', q', l', n', c')) x => fair_ok h o b q l n c o' b' q' l' n' c' x.1 x.2
/-- Are points the same. -/
@[irreducible] def smP (h h' : Hd) (A A' : List (Rw Int)) (S S' : List Slot) : Bool := decide (h = h') && decide (A.map (·.l) = A'.map (·.l)) && lEq S S'
theorem smP_iff {h h' : Hd} {A A' : List (Rw Int)} {S S' : List Slot} : smP h h' A A' S S' = true ↔ h = h' ∧ A.map (·.l) = A'.map (·.l) ∧ S = S' := by
  unfold smP
  simp only [Bool.and_eq_true, decide_eq_true_iff, lEq_iff, and_assoc]
theorem hd_ne {h h' : Hd} {n n' : Nat} : (decide (h.1 ≠ h'.1) || decide (h.2.1 ≠ h'.2.1) || decide (h.2.2.1 ≠ h'.2.2.1) || decide (h.2.2.2 ≠ h'.2.2.2) || decide ((n : Int) ≠ (n' : Int))) = !decide (h = h' ∧ n = n') := by
  obtain ⟨a1, a2, a3, a4⟩ := h
  obtain ⟨b1, b2, b3, b4⟩ := h'
  simp only [Prod.mk.injEq]
  by_cases g1 : a1 = b1 <;> by_cases g2 : a2 = b2 <;> by_cases g3 : a3 = b3 <;> by_cases g4 : a4 = b4 <;> by_cases g5 : n = n' <;> simp [g1, g2, g3, g4, g5] <;> omega
theorem row_mem {l : List (Rw Int)} {n v : Nat} {r : Rw Int} (hv : v < n) (h : n ≤ l.length) (hr : l.getD v Rw.nil = r) : r ∈ l.take n := by
  rw [List.getD_eq_getElem?_getD, List.getElem?_eq_getElem (by omega), Option.getD_some] at hr
  rw [← hr, List.mem_take_iff_getElem]
  exact ⟨v, by omega, rfl⟩
def Sp (A A' : List (Rw Int)) (n : Nat) : Inv' C0 := ⟨4, Nat, fun i => [(5, .int .i64 (i : Int))], fun _ m => m, fun i => i ≤ n ∧ (A.take i).map (·.l) = (A'.take i).map (·.l), fun i => n - i⟩
set_option maxHeartbeats 8000000 in
theorem same_ok (h : Hd) (o : Bool) (b q : Nat) (l : List (Rw Int)) (n c : Nat) (o2 : Bool) (b2 q2 : Nat) (l2 : List Slot) (n2 c2 : Nat)
    (h' : Hd) (o' : Bool) (b' q' : Nat) (l' : List (Rw Int)) (n' c' : Nat) (o2' : Bool) (b2' q2' : Nat) (l2' : List Slot) (n2' c2' : Nat)
    (h1 : Sq.ok (o, b, q, l, n, c)) (h2 : Sq.ok (o2, b2, q2, l2, n2, c2)) (h1' : Sq.ok (o', b', q', l', n', c')) (h2' : Sq.ok (o2', b2', q2', l2', n2', c2'))
    (hr : ∀ r ∈ l.take n, Rok r) (hr' : ∀ r ∈ l'.take n', Rok r) (hn : n < 140737488355000) (hn2 : n2 < 140737488355000) :
    Tells (C := C0) Tryd.prog (.fn 18) [⟨b, q, 1, false, some o, .rows 71 l⟩, ⟨b2, q2, 9, false, some o2, .rows 74 l2⟩, ⟨b', q', 1, false, some o', .rows 71 l'⟩, ⟨b2', q2', 9, false, some o2', .rows 74 l2'⟩]
      [ptv h (.sl 0 0 n c) (.sl 1 0 n2 c2), ptv h' (.sl 2 0 n' c') (.sl 3 0 n2' c2')] (.bool (.tm (smP h h' (l.take n) (l'.take n') (l2.take n2) (l2'.take n2')))) := by
  refine loc_pc (P := Tryd.prog) (E := ⟨[], [pcSameInts, pcSameSlots], 65, [(6, [], [.p 0, .p 2, .p 5, .p 7, .q 1, .p 3, .q 4, .q 6, .p 8, .q 9, .e 10, .p 11])], [fI], []⟩) (L := [Sp (l.take n) (l'.take n') n]) mix Tryd.func18 rfl (by kernel_rfl) (by kernel_rfl) rfl rfl ?_
  ((conv => (arg 1; reduce)); with_reducible repeat' (first | exact Tr.yes_h | refine Tr.and_h ?_ ?_ | refine Tr.imp_h fun _ => ?_ | refine Tr.all_h fun _ => ?_ | refine Tr.lf_h ?_))
  all_goals try (first | first | (show Region.lexB _ _ = true; kernel_rfl) | (show planned _ _ = true; kernel_rfl) | exact rfl | exact True.intro | ((try dsimp only [imp, C0, cG, cInt, cPl, cSlot, cPg, rwCodec, cRaw] at *); (try refine inR64 ?_ ?_) <;> (try simp only [List.length_set, List.length_append, List.length_take, List.length_drop]) <;> omega))
  all_goals first
    | (rename_i b0 b1 h0 v hv h3; exact on_of h1.2.2 (Nat.lt_of_le_of_lt (Nat.zero_le v) (Int.ofNat_lt.1 (of_decide_eq_true h3))))
    | (rename_i b0 b1 h0 v hv h3; exact of_decide_eq_true h3)
    | skip
  · rename_i b0 b1 h0
    refine (Eq.symm (Bool.eq_false_iff.2 fun hs => ?_))
    obtain ⟨e1, e2, e3⟩ := smP_iff.1 hs
    have e2 := congrArg List.length e2
    rw [List.length_map, List.length_map, tk_len (h1.2.1), tk_len (h1'.2.1)] at e2
    have e2 : n = n' := e2
    have h0 := (hd_ne (h := h) (h' := h') (n := n) (n' := n')).symm.trans h0
    rw [decide_eq_true (show h = h' ∧ n = n' from ⟨e1, e2⟩)] at h0
    cases h0
  · rename_i b0 b1 h0
    refine Stands.one (0 : Nat) ⟨⟨Nat.zero_le _, rfl⟩, ?_⟩
    ((conv => (arg 1; reduce)); with_reducible repeat' (first | exact Tr.yes_h | refine Tr.and_h ?_ ?_ | refine Tr.imp_h fun _ => ?_ | refine Tr.all_h fun _ => ?_ | refine Tr.lf_h ?_))
    all_goals (first | first | (show Region.lexB _ _ = true; kernel_rfl) | (show planned _ _ = true; kernel_rfl) | exact rfl | exact True.intro | ((try dsimp only [imp, C0, cG, cInt, cPl, cSlot, cPg, rwCodec, cRaw] at *); (try refine inR64 ?_ ?_) <;> (try simp only [List.length_set, List.length_append, List.length_take, List.length_drop]) <;> omega))
  · rename_i b0 b1 h0 v hv h3
    change Nat at v
    have h3 := of_decide_eq_true h3
    have := h1.1; have := h1.2.1
    show (v : Int).toNat + 0 < l.length
    simp only at *
    omega
  · rename_i b0 b1 h0 v hv h3 r hr1
    change Nat at v
    have h3 := of_decide_eq_true h3
    have h0 := (hd_ne (h := h) (h' := h') (n := n) (n' := n')).symm.trans h0
    obtain ⟨hh, hnn⟩ : h = h' ∧ n = n' := of_decide_eq_true (by simpa using h0)
    subst hnn
    have a1 := h1.1; have a2 := h1.2.1; have a1' := h1'.1; have a2' := h1'.2.1
    simp only at a1 a2 a1' a2'
    exact on_of h1'.2.2 (by simp only; omega)
  · rename_i b0 b1 h0 v hv h3 r hr1
    change Nat at v
    have h3 := of_decide_eq_true h3
    have h0 := (hd_ne (h := h) (h' := h') (n := n) (n' := n')).symm.trans h0
    obtain ⟨hh, hnn⟩ : h = h' ∧ n = n' := of_decide_eq_true (by simpa using h0)
    subst hnn
    have a1 := h1.1; have a2 := h1.2.1; have a1' := h1'.1; have a2' := h1'.2.1
    simp only at a1 a2 a1' a2'
    exact h3
  · rename_i b0 b1 h0 v hv h3 r hr1
    change Nat at v
    have h3 := of_decide_eq_true h3
    have h0 := (hd_ne (h := h) (h' := h') (n := n) (n' := n')).symm.trans h0
    obtain ⟨hh, hnn⟩ : h = h' ∧ n = n' := of_decide_eq_true (by simpa using h0)
    subst hnn
    have a1 := h1.1; have a2 := h1.2.1; have a1' := h1'.1; have a2' := h1'.2.1
    simp only at a1 a2 a1' a2'
    exact on_of h1'.2.2 (by simp only; omega)
  · rename_i b0 b1 h0 v hv h3 r hr1
    change Nat at v
    have h3 := of_decide_eq_true h3
    have h0 := (hd_ne (h := h) (h' := h') (n := n) (n' := n')).symm.trans h0
    obtain ⟨hh, hnn⟩ : h = h' ∧ n = n' := of_decide_eq_true (by simpa using h0)
    subst hnn
    have a1 := h1.1; have a2 := h1.2.1; have a1' := h1'.1; have a2' := h1'.2.1
    simp only at a1 a2 a1' a2'
    show (v : Int).toNat + 0 < l'.length
    omega
  · rename_i b0 b1 h0 v hv h3 r hr1 r' hr1'
    change Nat at v
    have h3 := of_decide_eq_true h3
    have h0 := (hd_ne (h := h) (h' := h') (n := n) (n' := n')).symm.trans h0
    obtain ⟨hh, hnn⟩ : h = h' ∧ n = n' := of_decide_eq_true (by simpa using h0)
    subst hnn
    have a1 := h1.1; have a2 := h1.2.1; have a1' := h1'.1; have a2' := h1'.2.1
    simp only at a1 a2 a1' a2'
    have g1 := hr r (row_mem (v := v) (by omega) (by omega) hr1)
    have g2 := hr' r' (row_mem (v := v) (by omega) (by omega) hr1')
    exact ⟨Nat.le_refl _, Nat.le_refl _, g1.2.2, g1.1, g2.1⟩
  · rename_i b0 b1 h0 v hv h3 r hr1 r' hr1' h4
    change Nat at v
    have h3 := of_decide_eq_true h3
    have h0 := (hd_ne (h := h) (h' := h') (n := n) (n' := n')).symm.trans h0
    obtain ⟨hh, hnn⟩ : h = h' ∧ n = n' := of_decide_eq_true (by simpa using h0)
    subst hnn
    have a1 := h1.1; have a2 := h1.2.1; have a1' := h1'.1; have a2' := h1'.2.1
    simp only at a1 a2 a1' a2'
    change Rw Int at r
    change Rw Int at r'
    have hr1 : l.getD v Rw.nil = r := hr1
    have hr1' : l'.getD v Rw.nil = r' := hr1'
    refine (Eq.symm (Bool.eq_false_iff.2 fun hs => ?_))
    obtain ⟨e1, e2, e3⟩ := smP_iff.1 hs
    have hc := congrArg (fun L : List (List Int) => L.getD v []) e2
    simp only [List.getD_eq_getElem?_getD, List.getElem?_map, List.getElem?_take_of_lt (show v < n by omega)] at hc hr1 hr1'
    rw [List.getElem?_eq_getElem (show v < l.length by omega), List.getElem?_eq_getElem (show v < l'.length by omega)] at hc
    rw [List.getElem?_eq_getElem (show v < l.length by omega), Option.getD_some] at hr1
    rw [List.getElem?_eq_getElem (show v < l'.length by omega), Option.getD_some] at hr1'
    simp only [Option.map_some, Option.getD_some, hr1, hr1'] at hc
    have h4 : (!ieq (r.l.take r.l.length) (r'.l.take r'.l.length)) = true := h4
    rw [List.take_length, List.take_length, ieq_yes hc] at h4
    cases h4
  · rename_i b0 b1 h0 v hv h3 r hr1 r' hr1' h4
    change Nat at v
    have h3 := of_decide_eq_true h3
    have h0 := (hd_ne (h := h) (h' := h') (n := n) (n' := n')).symm.trans h0
    obtain ⟨hh, hnn⟩ : h = h' ∧ n = n' := of_decide_eq_true (by simpa using h0)
    subst hnn
    have a1 := h1.1; have a2 := h1.2.1; have a1' := h1'.1; have a2' := h1'.2.1
    simp only at a1 a2 a1' a2'
    exact inR64 (by show _ ≤ (v : Int) + 1; omega) (by show (v : Int) + 1 ≤ _; omega)
  · rename_i b0 b1 h0 v hv h3 r hr1 r' hr1' h4
    change Nat at v
    have h3 := of_decide_eq_true h3
    have h0 := (hd_ne (h := h) (h' := h') (n := n) (n' := n')).symm.trans h0
    obtain ⟨hh, hnn⟩ : h = h' ∧ n = n' := of_decide_eq_true (by simpa using h0)
    subst hnn
    have a1 := h1.1; have a2 := h1.2.1; have a1' := h1'.1; have a2' := h1'.2.1
    simp only at a1 a2 a1' a2'
    change Rw Int at r
    change Rw Int at r'
    have hr1 : l.getD v Rw.nil = r := hr1
    have hr1' : l'.getD v Rw.nil = r' := hr1'
    have h4 : (!ieq (r.l.take r.l.length) (r'.l.take r'.l.length)) = false := h4
    rw [List.take_length, List.take_length] at h4
    have h4 := ieq_iff.1 (by simpa using h4 : ieq r.l r'.l = true)
    refine Stands.one (v + 1 : Nat) ⟨⟨by show v + 1 ≤ n; omega, ?_⟩, ?_, ?_⟩
    · show ((l.take n).take (v + 1)).map (·.l) = ((l'.take n).take (v + 1)).map (·.l)
      rw [take_snoc (d := Rw.nil) (by rw [tk_len (by omega)]; omega), take_snoc (d := Rw.nil) (by rw [tk_len (by omega)]; omega), tk_at (by omega), tk_at (by omega), List.map_append, List.map_append, hv.2, hr1, hr1']
      simp only [List.map_cons, List.map_nil, h4]
    · show n - (v + 1) < n - v
      omega
    ((conv => (arg 1; reduce)); with_reducible repeat' (first | exact Tr.yes_h | refine Tr.and_h ?_ ?_ | refine Tr.imp_h fun _ => ?_ | refine Tr.all_h fun _ => ?_ | refine Tr.lf_h ?_))
    all_goals (first | first | (show Region.lexB _ _ = true; kernel_rfl) | (show planned _ _ = true; kernel_rfl) | exact rfl | exact True.intro | ((try dsimp only [imp, C0, cG, cInt, cPl, cSlot, cPg, rwCodec, cRaw] at *); (try refine inR64 ?_ ?_) <;> (try simp only [List.length_set, List.length_append, List.length_take, List.length_drop]) <;> omega))
  · exact ⟨h2.2.1, h2'.2.1, hn2, h2.2.2, h2'.2.2⟩
  · rename_i b0 b1 h0 v hv h3
    change Nat at v
    have h3 := of_decide_eq_false h3
    have h0 := (hd_ne (h := h) (h' := h') (n := n) (n' := n')).symm.trans h0
    obtain ⟨hh, hnn⟩ : h = h' ∧ n = n' := of_decide_eq_true (by simpa using h0)
    subst hnn
    have a1 := h1.1; have a2 := h1.2.1; have a1' := h1'.1; have a2' := h1'.2.1
    simp only at a1 a2 a1' a2'
    have e := hv.2
    have hvn := hv.1
    obtain rfl : v = n := by omega
    rw [List.take_of_length_le (l := l.take v) (by rw [tk_len (by omega)]; omega), List.take_of_length_le (l := l'.take v) (by rw [tk_len (by omega)]; omega)] at e
    show lEq _ _ = smP _ _ _ _ _ _
    unfold smP
    rw [decide_eq_true hh, decide_eq_true e]
    rfl
def pcSame : Pc Tryd.prog C0 where
  tg := .fn 18
  X := (Hd × Sq (Rw Int) × Sq Slot) × (Hd × Sq (Rw Int) × Sq Slot)
  args := fun ((h, (o, b, q, l, n, c), (o2, b2, q2, l2, n2, c2)), (h', (o', b', q', l', n', c'), (o2', b2', q2', l2', n2', c2'))) => [ptv h (.sl 0 0 n c) (.sl 1 0 n2 c2), ptv h' (.sl 2 0 n' c') (.sl 3 0 n2' c2')]
  mem := fun ((h, (o, b, q, l, n, c), (o2, b2, q2, l2, n2, c2)), (h', (o', b', q', l', n', c'), (o2', b2', q2', l2', n2', c2'))) => [⟨b, q, 1, false, some o, .rows 71 l⟩, ⟨b2, q2, 9, false, some o2, .rows 74 l2⟩, ⟨b', q', 1, false, some o', .rows 71 l'⟩, ⟨b2', q2', 9, false, some o2', .rows 74 l2'⟩]
  pre := fun ((h, (o, b, q, l, n, c), (o2, b2, q2, l2, n2, c2)), (h', (o', b', q', l', n', c'), (o2', b2', q2', l2', n2', c2'))) => Sq.ok (o, b, q, l, n, c) ∧ Sq.ok (o2, b2, q2, l2, n2, c2) ∧ Sq.ok (o', b', q', l', n', c') ∧ Sq.ok (o2', b2', q2', l2', n2', c2') ∧
    (∀ r ∈ l.take n, Rok r) ∧ (∀ r ∈ l'.take n', Rok r) ∧ n < 140737488355000 ∧ n2 < 140737488355000
  res := fun ((h, (o, b, q, l, n, c), (o2, b2, q2, l2, n2, c2)), (h', (o', b', q', l', n', c'), (o2', b2', q2', l2', n2', c2'))) => .bool (.tm (smP h h' (l.take n) (l'.take n') (l2.take n2) (l2'.take n2')))
  mat vs m := match vs with
    | [.agg [.int _ h1, .int _ h2, .int _ h3, .int _ h4, .sl a 0 n c, .sl a2 0 n2 c2], .agg [.int _ h1', .int _ h2', .int _ h3', .int _ h4', .sl a' 0 n' c', .sl a2' 0 n2' c2']] => match nth m a, nth m a2, nth m a', nth m a2' with
      | ⟨b, q, _, _, g, .rows 71 l⟩, ⟨b2, q2, _, _, g2, .rows 74 l2⟩, ⟨b', q', _, _, g', .rows 71 l'⟩, ⟨b2', q2', _, _, g2', .rows 74 l2'⟩ => some ((((h1, h2, h3, h4), (onOf g, b, q, l, n, c), (onOf g2, b2, q2, l2, n2, c2)), ((h1', h2', h3', h4'), (onOf g', b', q', l', n', c'), (onOf g2', b2', q2', l2', n2', c2'))), [a, a2, a', a2'])
      | _, _, _, _ => none
    | _ => none
  ok := fun ((h, (o, b, q, l, n, c), (o2, b2, q2, l2, n2, c2)), (h', (o', b', q', l', n', c'), (o2', b2', q2', l2', n2', c2'))) x =>
    same_ok h o b q l n c o2 b2 q2 l2 n2 c2 h' o' b' q' l' n' c' o2' b2' q2' l2' n2' c2' x.1 x.2.1 x.2.2.1 x.2.2.2.1 x.2.2.2.2.1 x.2.2.2.2.2.1 x.2.2.2.2.2.2.1 x.2.2.2.2.2.2.2
end Go.Vx
namespace Go.Vx
open Go
def getOps : Code → Nat → Option (Array Oper)
  | .region id ops _, n => match Nat.beq id n with
    | true => some ops
    | false => none
  | .seq a b, n => match getOps a n with
    | some o => some o
    | none => getOps b n
  | .cond _ a b, n => match getOps a n with
    | some o => some o
    | none => getOps b n
  | .block _ c, n => getOps c n
  | .loop c, n => getOps c n
  | _, _ => none
def opsOf (fn : Func) (n : Nat) : Option (Array Oper) := match fn.body with
  | some c => getOps c n
  | none => none
def stepOK (ops : Array Oper) (W : List Nat) : Tk → Array Bool → Bool
  | .p i, listed => (Region.ready .any ops listed).contains i && Region.free .any ops listed i && !kW W i && reachP ops [] false i listed (Array.replicate ops.size true)
  | .e i, listed => (match Region.ready .any ops listed with
      | [j] => Nat.beq j i
      | _ => false) && kW W i
  | _, _ => false
def tkI : Tk → Nat
  | .p i => i
  | .q i => i
  | .e i => i
  | .f i => i
  | .t _ => 0
def stepsOK (ops : Array Oper) (W : List Nat) : List Tk → Array Bool → Bool
  | [], _ => true
  | t :: r, listed => stepOK ops W t listed && stepsOK ops W r (listed.setIfInBounds (tkI t) true)
def listedBy : List Tk → Array Bool → Array Bool
  | [], l => l
  | t :: r, l => listedBy r (l.setIfInBounds (tkI t) true)
theorem plan_cut {ops : Array Oper} {W : List Nat} : ∀ (a b : List Tk) (listed : Array Bool), stepsOK ops W a listed = true → planOK ops W [] false (PTree.of b) (listedBy a listed) = true → planOK ops W [] false (PTree.of (a ++ b)) listed = true
  | [], b, listed, _, h => h
  | t :: r, b, listed, hs, h => by
    simp only [stepsOK, Bool.and_eq_true] at hs
    have ih := plan_cut r b _ hs.2 h
    cases t with
    | p i =>
      simp only [stepOK, Bool.and_eq_true] at hs
      simp only [List.cons_append, PTree.of, planOK, Bool.and_eq_true]
      exact ⟨⟨⟨⟨hs.1.1.1.1, hs.1.1.1.2⟩, hs.1.1.2⟩, hs.1.2⟩, ih⟩
    | e i =>
      simp only [stepOK, Bool.and_eq_true] at hs
      simp only [List.cons_append, PTree.of, planOK, Bool.and_eq_true]
      exact ⟨⟨hs.1.1, hs.1.2⟩, ih⟩
    | q i => simp [stepOK] at hs
    | f i => simp [stepOK] at hs
    | t i => simp [stepOK] at hs
/-- The same with operations that read (q), and one that turns what stayed (f). -/
def stepOKL (ops : Array Oper) (W L : List Nat) (late : Bool) : Tk → Array Bool → Bool
  | .p i, listed => (Region.ready .any ops listed).contains i && Region.free .any ops listed i && !kW W i &&
      reachP ops L late i listed (if late || L.isEmpty then Array.replicate ops.size true else reach ops i ops.size listed)
  | .q i, listed => (Region.ready .any ops listed).contains i && Region.free .any ops listed i && !kW W i && reachOK ops W i listed (reach ops i ops.size listed)
  | .e i, listed => (match Region.ready .any ops listed with
      | [j] => Nat.beq j i
      | _ => false) && kW W i
  | .f i, listed => (match Region.ready .any ops listed with
      | [j] => Nat.beq j i
      | _ => false) && kW W i && L.contains i
  | .t _, _ => false
def lateBy : Bool → List Tk → Bool
  | late, [] => late
  | _, .f _ :: r => lateBy true r
  | late, .p _ :: r => lateBy late r
  | late, .q _ :: r => lateBy late r
  | late, .e _ :: r => lateBy late r
  | late, .t _ :: r => lateBy late r
def stepsOKL (ops : Array Oper) (W L : List Nat) : Bool → List Tk → Array Bool → Bool
  | _, [], _ => true
  | late, t :: r, listed => stepOKL ops W L late t listed && stepsOKL ops W L (lateBy late [t]) r (listed.setIfInBounds (tkI t) true)
theorem plan_cutL {ops : Array Oper} {W L : List Nat} : ∀ (a b : List Tk) (late : Bool) (listed : Array Bool), stepsOKL ops W L late a listed = true → planOK ops W L (lateBy late a) (PTree.of b) (listedBy a listed) = true → planOK ops W L late (PTree.of (a ++ b)) listed = true
  | [], b, late, listed, _, h => h
  | t :: r, b, late, listed, hs, h => by
    simp only [stepsOKL, Bool.and_eq_true] at hs
    cases t with
    | p i =>
      have ih := plan_cutL r b _ _ hs.2 h
      have h1 := hs.1
      simp only [stepOKL, Bool.and_eq_true] at h1
      simp only [List.cons_append, PTree.of, planOK, Bool.and_eq_true]
      exact ⟨⟨⟨⟨h1.1.1.1, h1.1.1.2⟩, h1.1.2⟩, h1.2⟩, ih⟩
    | q i =>
      have ih := plan_cutL r b _ _ hs.2 h
      have h1 := hs.1
      simp only [stepOKL, Bool.and_eq_true] at h1
      simp only [List.cons_append, PTree.of, planOK, Bool.and_eq_true]
      exact ⟨⟨⟨⟨h1.1.1.1, h1.1.1.2⟩, h1.1.2⟩, h1.2⟩, ih⟩
    | e i =>
      have ih := plan_cutL r b _ _ hs.2 h
      have h1 := hs.1
      simp only [stepOKL, Bool.and_eq_true] at h1
      simp only [List.cons_append, PTree.of, planOK, Bool.and_eq_true]
      exact ⟨⟨h1.1, h1.2⟩, ih⟩
    | f i =>
      have ih := plan_cutL r b _ _ hs.2 h
      have h1 := hs.1
      simp only [stepOKL, Bool.and_eq_true] at h1
      simp only [List.cons_append, PTree.of, planOK, Bool.and_eq_true]
      exact ⟨⟨⟨h1.1.1, h1.1.2⟩, h1.2⟩, ih⟩
    | t i => simp [stepOKL] at hs
end Go.Vx
set_option maxRecDepth 1000000
namespace Go.Vx
open Go Go.Proofs

abbrev madeA : List Tk := [.p 0, .p 2, .p 4, .p 9, .p 11, .p 1, .q 3, .p 5, .q 6, .p 7, .q 8, .q 10, .p 12, .q 13, .p 14, .q 15, .p 16, .e 17, .e 18, .p 19, .f 20]
noncomputable def madeA_ops : Array Oper := match opsOf Tryd.f11 5 with
  | some o => o
  | none => #[]
def madeA_w : List Nat := [17, 18, 20]
def madeA_f : List Nat := [20]
def madeA_l0 : Array Bool := #[false, false, false, false, false, false, false, false, false, false, false, false, false, false, false, false, false, false, false, false, false]
theorem madeA_s0 : stepsOKL madeA_ops madeA_w madeA_f false [.p 0, .p 2, .p 4, .p 9] madeA_l0 = true := by kernel_rfl
def madeA_l1 : Array Bool := #[true, false, true, false, true, false, false, false, false, true, false, false, false, false, false, false, false, false, false, false, false]
theorem madeA_a0 : listedBy [.p 0, .p 2, .p 4, .p 9] madeA_l0 = madeA_l1 := by kernel_rfl
theorem madeA_s1 : stepsOKL madeA_ops madeA_w madeA_f false [.p 11, .p 1, .q 3, .p 5] madeA_l1 = true := by kernel_rfl
def madeA_l2 : Array Bool := #[true, true, true, true, true, true, false, false, false, true, false, true, false, false, false, false, false, false, false, false, false]
theorem madeA_a1 : listedBy [.p 11, .p 1, .q 3, .p 5] madeA_l1 = madeA_l2 := by kernel_rfl
theorem madeA_s2 : stepsOKL madeA_ops madeA_w madeA_f false [.q 6, .p 7, .q 8, .q 10] madeA_l2 = true := by kernel_rfl
def madeA_l3 : Array Bool := #[true, true, true, true, true, true, true, true, true, true, true, true, false, false, false, false, false, false, false, false, false]
theorem madeA_a2 : listedBy [.q 6, .p 7, .q 8, .q 10] madeA_l2 = madeA_l3 := by kernel_rfl
theorem madeA_s3 : stepsOKL madeA_ops madeA_w madeA_f false [.p 12, .q 13, .p 14, .q 15] madeA_l3 = true := by kernel_rfl
def madeA_l4 : Array Bool := #[true, true, true, true, true, true, true, true, true, true, true, true, true, true, true, true, false, false, false, false, false]
theorem madeA_a3 : listedBy [.p 12, .q 13, .p 14, .q 15] madeA_l3 = madeA_l4 := by kernel_rfl
theorem madeA_s4 : stepsOKL madeA_ops madeA_w madeA_f false [.p 16, .e 17, .e 18, .p 19] madeA_l4 = true := by kernel_rfl
def madeA_l5 : Array Bool := #[true, true, true, true, true, true, true, true, true, true, true, true, true, true, true, true, true, true, true, true, false]
theorem madeA_a4 : listedBy [.p 16, .e 17, .e 18, .p 19] madeA_l4 = madeA_l5 := by kernel_rfl
theorem madeA_s5 : stepsOKL madeA_ops madeA_w madeA_f false [.f 20] madeA_l5 = true := by kernel_rfl
def madeA_l6 : Array Bool := #[true, true, true, true, true, true, true, true, true, true, true, true, true, true, true, true, true, true, true, true, true]
theorem madeA_a5 : listedBy [.f 20] madeA_l5 = madeA_l6 := by kernel_rfl
theorem madeA_k6 : planOK madeA_ops madeA_w madeA_f true (PTree.of []) madeA_l6 = true := by kernel_rfl
theorem madeA_k5 : planOK madeA_ops madeA_w madeA_f false (PTree.of [.f 20]) madeA_l5 = true := plan_cutL [.f 20] _ _ _ madeA_s5 (by rw [madeA_a5]; exact madeA_k6)
theorem madeA_k4 : planOK madeA_ops madeA_w madeA_f false (PTree.of [.p 16, .e 17, .e 18, .p 19, .f 20]) madeA_l4 = true := plan_cutL [.p 16, .e 17, .e 18, .p 19] _ _ _ madeA_s4 (by rw [madeA_a4]; exact madeA_k5)
theorem madeA_k3 : planOK madeA_ops madeA_w madeA_f false (PTree.of [.p 12, .q 13, .p 14, .q 15, .p 16, .e 17, .e 18, .p 19, .f 20]) madeA_l3 = true := plan_cutL [.p 12, .q 13, .p 14, .q 15] _ _ _ madeA_s3 (by rw [madeA_a3]; exact madeA_k4)
theorem madeA_k2 : planOK madeA_ops madeA_w madeA_f false (PTree.of [.q 6, .p 7, .q 8, .q 10, .p 12, .q 13, .p 14, .q 15, .p 16, .e 17, .e 18, .p 19, .f 20]) madeA_l2 = true := plan_cutL [.q 6, .p 7, .q 8, .q 10] _ _ _ madeA_s2 (by rw [madeA_a2]; exact madeA_k3)
theorem madeA_k1 : planOK madeA_ops madeA_w madeA_f false (PTree.of [.p 11, .p 1, .q 3, .p 5, .q 6, .p 7, .q 8, .q 10, .p 12, .q 13, .p 14, .q 15, .p 16, .e 17, .e 18, .p 19, .f 20]) madeA_l1 = true := plan_cutL [.p 11, .p 1, .q 3, .p 5] _ _ _ madeA_s1 (by rw [madeA_a1]; exact madeA_k2)
theorem madeA_k0 : planOK madeA_ops madeA_w madeA_f false (PTree.of [.p 0, .p 2, .p 4, .p 9, .p 11, .p 1, .q 3, .p 5, .q 6, .p 7, .q 8, .q 10, .p 12, .q 13, .p 14, .q 15, .p 16, .e 17, .e 18, .p 19, .f 20]) madeA_l0 = true := plan_cutL [.p 0, .p 2, .p 4, .p 9] _ _ _ madeA_s0 (by rw [madeA_a0]; exact madeA_k1)
theorem madeA_ok (ops : Array Oper) (h : opsOf Tryd.f11 5 = some ops) : planned ops (PTree.of madeA) = true := by
  have e : ops = madeA_ops := by unfold madeA_ops; rw [h]
  subst e
  unfold planned
  rw [show effs (PTree.of madeA) = madeA_w from rfl, show lates (PTree.of madeA) = madeA_f from rfl, show Array.replicate madeA_ops.size false = madeA_l0 by kernel_rfl, madeA_k0, show Region.noSelect madeA_ops = true by kernel_rfl, show Nat.beq (PTree.of madeA).len madeA_ops.size = true by kernel_rfl]
  rfl
abbrev madeB : List Tk := [.p 0, .p 2, .p 4, .p 8, .p 10, .p 14, .p 16, .p 1, .q 3, .p 5, .p 6, .q 7, .q 9, .p 11, .p 12, .q 13, .q 15, .p 17, .p 18, .q 19, .p 20, .e 21, .e 22, .p 23, .f 24]
noncomputable def madeB_ops : Array Oper := match opsOf Tryd.f11 9 with
  | some o => o
  | none => #[]
def madeB_w : List Nat := [21, 22, 24]
def madeB_f : List Nat := [24]
def madeB_l0 : Array Bool := #[false, false, false, false, false, false, false, false, false, false, false, false, false, false, false, false, false, false, false, false, false, false, false, false, false]
theorem madeB_s0 : stepsOKL madeB_ops madeB_w madeB_f false [.p 0, .p 2, .p 4, .p 8] madeB_l0 = true := by kernel_rfl
def madeB_l1 : Array Bool := #[true, false, true, false, true, false, false, false, true, false, false, false, false, false, false, false, false, false, false, false, false, false, false, false, false]
theorem madeB_a0 : listedBy [.p 0, .p 2, .p 4, .p 8] madeB_l0 = madeB_l1 := by kernel_rfl
theorem madeB_s1 : stepsOKL madeB_ops madeB_w madeB_f false [.p 10, .p 14, .p 16, .p 1] madeB_l1 = true := by kernel_rfl
def madeB_l2 : Array Bool := #[true, true, true, false, true, false, false, false, true, false, true, false, false, false, true, false, true, false, false, false, false, false, false, false, false]
theorem madeB_a1 : listedBy [.p 10, .p 14, .p 16, .p 1] madeB_l1 = madeB_l2 := by kernel_rfl
theorem madeB_s2 : stepsOKL madeB_ops madeB_w madeB_f false [.q 3, .p 5, .p 6, .q 7] madeB_l2 = true := by kernel_rfl
def madeB_l3 : Array Bool := #[true, true, true, true, true, true, true, true, true, false, true, false, false, false, true, false, true, false, false, false, false, false, false, false, false]
theorem madeB_a2 : listedBy [.q 3, .p 5, .p 6, .q 7] madeB_l2 = madeB_l3 := by kernel_rfl
theorem madeB_s3 : stepsOKL madeB_ops madeB_w madeB_f false [.q 9, .p 11, .p 12, .q 13] madeB_l3 = true := by kernel_rfl
def madeB_l4 : Array Bool := #[true, true, true, true, true, true, true, true, true, true, true, true, true, true, true, false, true, false, false, false, false, false, false, false, false]
theorem madeB_a3 : listedBy [.q 9, .p 11, .p 12, .q 13] madeB_l3 = madeB_l4 := by kernel_rfl
theorem madeB_s4 : stepsOKL madeB_ops madeB_w madeB_f false [.q 15, .p 17, .p 18, .q 19] madeB_l4 = true := by kernel_rfl
def madeB_l5 : Array Bool := #[true, true, true, true, true, true, true, true, true, true, true, true, true, true, true, true, true, true, true, true, false, false, false, false, false]
theorem madeB_a4 : listedBy [.q 15, .p 17, .p 18, .q 19] madeB_l4 = madeB_l5 := by kernel_rfl
theorem madeB_s5 : stepsOKL madeB_ops madeB_w madeB_f false [.p 20, .e 21, .e 22, .p 23] madeB_l5 = true := by kernel_rfl
def madeB_l6 : Array Bool := #[true, true, true, true, true, true, true, true, true, true, true, true, true, true, true, true, true, true, true, true, true, true, true, true, false]
theorem madeB_a5 : listedBy [.p 20, .e 21, .e 22, .p 23] madeB_l5 = madeB_l6 := by kernel_rfl
theorem madeB_s6 : stepsOKL madeB_ops madeB_w madeB_f false [.f 24] madeB_l6 = true := by kernel_rfl
def madeB_l7 : Array Bool := #[true, true, true, true, true, true, true, true, true, true, true, true, true, true, true, true, true, true, true, true, true, true, true, true, true]
theorem madeB_a6 : listedBy [.f 24] madeB_l6 = madeB_l7 := by kernel_rfl
theorem madeB_k7 : planOK madeB_ops madeB_w madeB_f true (PTree.of []) madeB_l7 = true := by kernel_rfl
theorem madeB_k6 : planOK madeB_ops madeB_w madeB_f false (PTree.of [.f 24]) madeB_l6 = true := plan_cutL [.f 24] _ _ _ madeB_s6 (by rw [madeB_a6]; exact madeB_k7)
theorem madeB_k5 : planOK madeB_ops madeB_w madeB_f false (PTree.of [.p 20, .e 21, .e 22, .p 23, .f 24]) madeB_l5 = true := plan_cutL [.p 20, .e 21, .e 22, .p 23] _ _ _ madeB_s5 (by rw [madeB_a5]; exact madeB_k6)
theorem madeB_k4 : planOK madeB_ops madeB_w madeB_f false (PTree.of [.q 15, .p 17, .p 18, .q 19, .p 20, .e 21, .e 22, .p 23, .f 24]) madeB_l4 = true := plan_cutL [.q 15, .p 17, .p 18, .q 19] _ _ _ madeB_s4 (by rw [madeB_a4]; exact madeB_k5)
theorem madeB_k3 : planOK madeB_ops madeB_w madeB_f false (PTree.of [.q 9, .p 11, .p 12, .q 13, .q 15, .p 17, .p 18, .q 19, .p 20, .e 21, .e 22, .p 23, .f 24]) madeB_l3 = true := plan_cutL [.q 9, .p 11, .p 12, .q 13] _ _ _ madeB_s3 (by rw [madeB_a3]; exact madeB_k4)
theorem madeB_k2 : planOK madeB_ops madeB_w madeB_f false (PTree.of [.q 3, .p 5, .p 6, .q 7, .q 9, .p 11, .p 12, .q 13, .q 15, .p 17, .p 18, .q 19, .p 20, .e 21, .e 22, .p 23, .f 24]) madeB_l2 = true := plan_cutL [.q 3, .p 5, .p 6, .q 7] _ _ _ madeB_s2 (by rw [madeB_a2]; exact madeB_k3)
theorem madeB_k1 : planOK madeB_ops madeB_w madeB_f false (PTree.of [.p 10, .p 14, .p 16, .p 1, .q 3, .p 5, .p 6, .q 7, .q 9, .p 11, .p 12, .q 13, .q 15, .p 17, .p 18, .q 19, .p 20, .e 21, .e 22, .p 23, .f 24]) madeB_l1 = true := plan_cutL [.p 10, .p 14, .p 16, .p 1] _ _ _ madeB_s1 (by rw [madeB_a1]; exact madeB_k2)
theorem madeB_k0 : planOK madeB_ops madeB_w madeB_f false (PTree.of [.p 0, .p 2, .p 4, .p 8, .p 10, .p 14, .p 16, .p 1, .q 3, .p 5, .p 6, .q 7, .q 9, .p 11, .p 12, .q 13, .q 15, .p 17, .p 18, .q 19, .p 20, .e 21, .e 22, .p 23, .f 24]) madeB_l0 = true := plan_cutL [.p 0, .p 2, .p 4, .p 8] _ _ _ madeB_s0 (by rw [madeB_a0]; exact madeB_k1)
theorem madeB_ok (ops : Array Oper) (h : opsOf Tryd.f11 9 = some ops) : planned ops (PTree.of madeB) = true := by
  have e : ops = madeB_ops := by unfold madeB_ops; rw [h]
  subst e
  unfold planned
  rw [show effs (PTree.of madeB) = madeB_w from rfl, show lates (PTree.of madeB) = madeB_f from rfl, show Array.replicate madeB_ops.size false = madeB_l0 by kernel_rfl, madeB_k0, show Region.noSelect madeB_ops = true by kernel_rfl, show Nat.beq (PTree.of madeB).len madeB_ops.size = true by kernel_rfl]
  rfl
end Go.Vx
set_option linter.unusedSectionVars false
set_option maxRecDepth 100000
set_option linter.unusedVariables false
set_option linter.unusedSimpArgs false
namespace Go.Vx
open Go Go.Proofs
variable [Gl]

/-- A block az the program has it. -/
@[irreducible] def blkOf (r : Rw Int) : Pl := (r.l.getD 0 0, r.l.getD 1 0)
abbrev hdE (h : Hd) (a b : SV) : List SV := [.int .i64 h.1, .int .i64 h.2.1, .int .i64 h.2.2.1, .int .i64 h.2.2.2, a, b]
/-- The rows of a grown list: the first i of L. -/
def Grw {α : Type} (L l : List α) (o : Bool) (i c : Nat) : Prop := i = L.length ∧ l.take i = L ∧ i ≤ c ∧ c ≤ l.length ∧ (o = false → i = 0 ∧ c = 0)
theorem Grw.app {α : Type} {L l sp : List α} {o : Bool} {x : α} {i c c' : Nat} (h : Grw L l o i c) (h1 : i + 1 ≤ c') (h2 : c' ≤ i + 1 + sp.length) : Grw (L ++ [x]) (l.take i ++ [x] ++ sp) true (i + 1) c' := by
  obtain ⟨e1, e2, e3, e4, e5⟩ := h
  have hl : (l.take i).length = i := by rw [List.length_take]; omega
  refine ⟨by rw [List.length_append, ← e1]; rfl, ?_, h1, by rw [List.length_append, List.length_append, hl]; exact h2, fun h => Bool.noConfusion h⟩
  rw [List.take_append_of_le_length (by rw [List.length_append, hl]; exact Nat.le_refl _), List.take_of_length_le (by rw [List.length_append, hl]; exact Nat.le_refl _), e2]
theorem by87 : Tryd.prog.types[87].bytes = 16 := by kernel_rfl
theorem by88 : Tryd.prog.types[88].bytes = 72 := by kernel_rfl
abbrev Gx (α : Type) := Nat × Bool × Nat × Nat × List α × Nat
def Md3 (h : Hd) (A : List (Rw Int)) : Inv' C0 := ⟨3, Gx Pl, fun x => [(4, .int .i64 (x.1 : Int))], fun x m => match m with
  | [a0, a1, bx, rs, y] => [a0, a1, bx, rs, ⟨y.block, y.base, 6, true, none, .one (hdE h (.sl 5 0 x.1 x.2.2.2.2.2) .nils)⟩, ⟨x.2.2.1, x.2.2.2.1, 2, true, some x.2.1, .rows 87 x.2.2.2.2.1⟩]
  | m => m, fun x => x.1 ≤ A.length ∧ Grw ((A.take x.1).map blkOf) x.2.2.2.2.1 x.2.1 x.1 x.2.2.2.2.2, fun x => A.length - x.1⟩
def Md7 (h : Hd) (B : List Slot) : Inv' C0 := ⟨7, Gx Slot, fun x => [(5, .int .i64 (x.1 : Int))], fun x m => match m with
  | [a0, a1, bx, rs, y, bl] => match y.cells with
    | .one [_, _, _, _, sb, _] => [a0, a1, bx, rs, ⟨y.block, y.base, 6, true, none, .one (hdE h sb (.sl 6 0 x.1 x.2.2.2.2.2))⟩, bl, ⟨x.2.2.1, x.2.2.2.1, 9, true, some x.2.1, .rows 88 x.2.2.2.2.1⟩]
    | _ => m
  | m => m, fun x => x.1 ≤ B.length ∧ Grw (B.take x.1) x.2.2.2.2.1 x.2.1 x.1 x.2.2.2.2.2, fun x => B.length - x.1⟩
set_option maxHeartbeats 8000000 in
theorem made_ok (h : Hd) (o : Bool) (b q : Nat) (l : List (Rw Int)) (n c : Nat) (o2 : Bool) (b2 q2 : Nat) (l2 : List Slot) (n2 c2 : Nat)
    (h1 : Sq.ok (o, b, q, l, n, c)) (h2 : Sq.ok (o2, b2, q2, l2, n2, c2)) (hr : ∀ r ∈ l.take n, Rok r ∧ r.l.length = 2) (hn : n ≤ 70) (hn2 : n2 ≤ 100) :
    Does (C := C0) Tryd.prog (.fn 11) [⟨b, q, 1, false, some o, .rows 71 l⟩, ⟨b2, q2, 9, false, some o2, .rows 74 l2⟩] [ptv h (.sl 0 0 n c) (.sl 1 0 n2 c2)]
    [⟨Gx Pl × Gx Slot, fun y => Grw ((l.take n).map blkOf) y.1.2.2.2.2.1 y.1.2.1 n y.1.2.2.2.2.2 ∧ Grw (l2.take n2) y.2.2.2.2.2.1 y.2.2.1 n2 y.2.2.2.2.2.2, fun y => ptv h (.sl 2 0 n y.1.2.2.2.2.2) (.sl 3 0 n2 y.2.2.2.2.2.2),
      fun y => [⟨b, q, 1, false, some o, .rows 71 l⟩, ⟨b2, q2, 9, false, some o2, .rows 74 l2⟩, ⟨y.1.2.2.1, y.1.2.2.2.1, 2, true, some y.1.2.1, .rows 87 y.1.2.2.2.2.1⟩, ⟨y.2.2.2.1, y.2.2.2.2.1, 9, true, some y.2.2.1, .rows 88 y.2.2.2.2.2.1⟩]⟩] := by
  have hnl : n ≤ l.length := h1.2.1
  have hnl2 : n2 ≤ l2.length := h2.2.1
  refine loc_fn (P := Tryd.prog) (E := ⟨[], [], 74, [(5, [4], madeA),
    (9, [4], madeB)], [fI], []⟩) (L := [Md3 h (l.take n), Md7 h (l2.take n2)]) mix Tryd.func11 rfl (by kernel_rfl) (by kernel_rfl) rfl rfl ?_
  ((conv => (arg 1; reduce)); with_reducible repeat' (first | exact Tr.yes_h | refine Tr.and_h ?_ ?_ | refine Tr.imp_h fun _ => ?_ | refine Tr.all_h fun _ => ?_ | refine Tr.lf_h ?_))
  all_goals try exact madeA_ok _ (by kernel_rfl)
  all_goals try exact madeB_ok _ (by kernel_rfl)
  all_goals try (first | first | (show Region.lexB _ _ = true; kernel_rfl) | (show planned _ _ = true; kernel_rfl) | exact rfl | exact True.intro | ((try dsimp only [imp, C0, cG, cInt, cPl, cSlot, cPg, rwCodec, cRaw] at *); (try refine inR64 ?_ ?_) <;> (try simp only [List.length_set, List.length_append, List.length_take, List.length_drop]) <;> omega))
  · rename_i b0 b1 b2
    refine Stands.one (0, false, 0, 0, [], 0) ⟨⟨Nat.zero_le _, rfl, rfl, Nat.le_refl _, Nat.le_refl _, fun _ => ⟨rfl, rfl⟩⟩, ?_⟩
    ((conv => (arg 1; reduce)); with_reducible repeat' (first | exact Tr.yes_h | refine Tr.and_h ?_ ?_ | refine Tr.imp_h fun _ => ?_ | refine Tr.all_h fun _ => ?_ | refine Tr.lf_h ?_))
    all_goals (first | first | (show Region.lexB _ _ = true; kernel_rfl) | (show planned _ _ = true; kernel_rfl) | exact rfl | exact True.intro | ((try dsimp only [imp, C0, cG, cInt, cPl, cSlot, cPg, rwCodec, cRaw] at *); (try refine inR64 ?_ ?_) <;> (try simp only [List.length_set, List.length_append, List.length_take, List.length_drop]) <;> omega))
  · rename_i b0 b1 b2 v hv h3
    obtain ⟨v, on, vb, vq, vl, vc⟩ := v
    obtain ⟨e1, e2⟩ : v ≤ (l.take n).length ∧ Grw (((l.take n).take v).map blkOf) vl on v vc := hv
    have h3 : v < n := Int.ofNat_lt.1 (of_decide_eq_true h3)
    exact on_of h1.2.2 (Nat.lt_of_le_of_lt (Nat.zero_le _) h3)
  · rename_i b0 b1 b2 v hv h3
    obtain ⟨v, on, vb, vq, vl, vc⟩ := v
    obtain ⟨e1, e2⟩ : v ≤ (l.take n).length ∧ Grw (((l.take n).take v).map blkOf) vl on v vc := hv
    have h3 : v < n := Int.ofNat_lt.1 (of_decide_eq_true h3)
    exact Int.ofNat_lt.2 h3
  · rename_i b0 b1 b2 v hv h3
    obtain ⟨v, on, vb, vq, vl, vc⟩ := v
    obtain ⟨e1, e2⟩ : v ≤ (l.take n).length ∧ Grw (((l.take n).take v).map blkOf) vl on v vc := hv
    have h3 : v < n := Int.ofNat_lt.1 (of_decide_eq_true h3)
    exact on_of h1.2.2 (Nat.lt_of_le_of_lt (Nat.zero_le _) h3)
  · rename_i b0 b1 b2 v hv h3
    obtain ⟨v, on, vb, vq, vl, vc⟩ := v
    obtain ⟨e1, e2⟩ : v ≤ (l.take n).length ∧ Grw (((l.take n).take v).map blkOf) vl on v vc := hv
    have h3 : v < n := Int.ofNat_lt.1 (of_decide_eq_true h3)
    show (v : Int).toNat + 0 < l.length
    omega
  · rename_i b0 b1 b2 v hv h3 r hr1
    obtain ⟨v, on, vb, vq, vl, vc⟩ := v
    obtain ⟨e1, e2⟩ : v ≤ (l.take n).length ∧ Grw (((l.take n).take v).map blkOf) vl on v vc := hv
    have h3 : v < n := Int.ofNat_lt.1 (of_decide_eq_true h3)
    change Rw Int at r
    have hr1 : l.getD v Rw.nil = r := hr1
    obtain ⟨⟨g1, g2, g3⟩, g4⟩ := hr r (row_mem h3 hnl hr1)
    exact on_of g1 (by omega)
  · rename_i b0 b1 b2 v hv h3 r hr1
    obtain ⟨v, on, vb, vq, vl, vc⟩ := v
    obtain ⟨e1, e2⟩ : v ≤ (l.take n).length ∧ Grw (((l.take n).take v).map blkOf) vl on v vc := hv
    have h3 : v < n := Int.ofNat_lt.1 (of_decide_eq_true h3)
    change Rw Int at r
    have hr1 : l.getD v Rw.nil = r := hr1
    obtain ⟨⟨g1, g2, g3⟩, g4⟩ := hr r (row_mem h3 hnl hr1)
    show (0 : Int) < ((r.l.length : Nat) : Int)
    rw [g4]; decide
  · rename_i b0 b1 b2 v hv h3 r hr1
    obtain ⟨v, on, vb, vq, vl, vc⟩ := v
    obtain ⟨e1, e2⟩ : v ≤ (l.take n).length ∧ Grw (((l.take n).take v).map blkOf) vl on v vc := hv
    have h3 : v < n := Int.ofNat_lt.1 (of_decide_eq_true h3)
    change Rw Int at r
    have hr1 : l.getD v Rw.nil = r := hr1
    obtain ⟨⟨g1, g2, g3⟩, g4⟩ := hr r (row_mem h3 hnl hr1)
    exact on_of g1 (by omega)
  · rename_i b0 b1 b2 v hv h3 r hr1
    obtain ⟨v, on, vb, vq, vl, vc⟩ := v
    obtain ⟨e1, e2⟩ : v ≤ (l.take n).length ∧ Grw (((l.take n).take v).map blkOf) vl on v vc := hv
    have h3 : v < n := Int.ofNat_lt.1 (of_decide_eq_true h3)
    change Rw Int at r
    have hr1 : l.getD v Rw.nil = r := hr1
    obtain ⟨⟨g1, g2, g3⟩, g4⟩ := hr r (row_mem h3 hnl hr1)
    show (0 : Int).toNat + 0 < r.l.length
    rw [g4]; decide
  · rename_i b0 b1 b2 v hv h3 r hr1
    obtain ⟨v, on, vb, vq, vl, vc⟩ := v
    obtain ⟨e1, e2⟩ : v ≤ (l.take n).length ∧ Grw (((l.take n).take v).map blkOf) vl on v vc := hv
    have h3 : v < n := Int.ofNat_lt.1 (of_decide_eq_true h3)
    exact on_of h1.2.2 (Nat.lt_of_le_of_lt (Nat.zero_le _) h3)
  · rename_i b0 b1 b2 v hv h3 r hr1
    obtain ⟨v, on, vb, vq, vl, vc⟩ := v
    obtain ⟨e1, e2⟩ : v ≤ (l.take n).length ∧ Grw (((l.take n).take v).map blkOf) vl on v vc := hv
    have h3 : v < n := Int.ofNat_lt.1 (of_decide_eq_true h3)
    exact Int.ofNat_lt.2 h3
  · rename_i b0 b1 b2 v hv h3 r hr1
    obtain ⟨v, on, vb, vq, vl, vc⟩ := v
    obtain ⟨e1, e2⟩ : v ≤ (l.take n).length ∧ Grw (((l.take n).take v).map blkOf) vl on v vc := hv
    have h3 : v < n := Int.ofNat_lt.1 (of_decide_eq_true h3)
    exact on_of h1.2.2 (Nat.lt_of_le_of_lt (Nat.zero_le _) h3)
  · rename_i b0 b1 b2 v hv h3 r hr1
    obtain ⟨v, on, vb, vq, vl, vc⟩ := v
    obtain ⟨e1, e2⟩ : v ≤ (l.take n).length ∧ Grw (((l.take n).take v).map blkOf) vl on v vc := hv
    have h3 : v < n := Int.ofNat_lt.1 (of_decide_eq_true h3)
    show (v : Int).toNat + 0 < l.length
    omega
  · rename_i b0 b1 b2 v hv h3 r hr1 r2 hr2
    obtain ⟨v, on, vb, vq, vl, vc⟩ := v
    obtain ⟨e1, e2⟩ : v ≤ (l.take n).length ∧ Grw (((l.take n).take v).map blkOf) vl on v vc := hv
    have h3 : v < n := Int.ofNat_lt.1 (of_decide_eq_true h3)
    change Rw Int at r2
    have hr2 : l.getD v Rw.nil = r2 := hr2
    obtain ⟨⟨g1, g2, g3⟩, g4⟩ := hr r2 (row_mem h3 hnl hr2)
    exact on_of g1 (by omega)
  · rename_i b0 b1 b2 v hv h3 r hr1 r2 hr2
    obtain ⟨v, on, vb, vq, vl, vc⟩ := v
    obtain ⟨e1, e2⟩ : v ≤ (l.take n).length ∧ Grw (((l.take n).take v).map blkOf) vl on v vc := hv
    have h3 : v < n := Int.ofNat_lt.1 (of_decide_eq_true h3)
    change Rw Int at r2
    have hr2 : l.getD v Rw.nil = r2 := hr2
    obtain ⟨⟨g1, g2, g3⟩, g4⟩ := hr r2 (row_mem h3 hnl hr2)
    show (1 : Int) < ((r2.l.length : Nat) : Int)
    rw [g4]; decide
  · rename_i b0 b1 b2 v hv h3 r hr1 r2 hr2
    obtain ⟨v, on, vb, vq, vl, vc⟩ := v
    obtain ⟨e1, e2⟩ : v ≤ (l.take n).length ∧ Grw (((l.take n).take v).map blkOf) vl on v vc := hv
    have h3 : v < n := Int.ofNat_lt.1 (of_decide_eq_true h3)
    change Rw Int at r2
    have hr2 : l.getD v Rw.nil = r2 := hr2
    obtain ⟨⟨g1, g2, g3⟩, g4⟩ := hr r2 (row_mem h3 hnl hr2)
    exact on_of g1 (by omega)
  · rename_i b0 b1 b2 v hv h3 r hr1 r2 hr2
    obtain ⟨v, on, vb, vq, vl, vc⟩ := v
    obtain ⟨e1, e2⟩ : v ≤ (l.take n).length ∧ Grw (((l.take n).take v).map blkOf) vl on v vc := hv
    have h3 : v < n := Int.ofNat_lt.1 (of_decide_eq_true h3)
    change Rw Int at r2
    have hr2 : l.getD v Rw.nil = r2 := hr2
    obtain ⟨⟨g1, g2, g3⟩, g4⟩ := hr r2 (row_mem h3 hnl hr2)
    show (1 : Int).toNat + 0 < r2.l.length
    rw [g4]; decide
  · rename_i b0 b1 b2 v hv h3 r hr1 r2 hr2 bk
    obtain ⟨v, on, vb, vq, vl, vc⟩ := v
    obtain ⟨e1, e2⟩ : v ≤ (l.take n).length ∧ Grw (((l.take n).take v).map blkOf) vl on v vc := hv
    have h3 : v < n := Int.ofNat_lt.1 (of_decide_eq_true h3)
    obtain ⟨k1, k2, k3, k4, k5⟩ := e2
    rw [by87]
    exact ⟨k3, by show 0 + vc ≤ vl.length; omega, Nat.le_refl 1, by show (v + 1) * 16 ≤ _; omega⟩
  · rename_i b0 b1 b2 v hv h3 r hr1 r2 hr2 bk
    obtain ⟨v, on, vb, vq, vl, vc⟩ := v
    obtain ⟨e1, e2⟩ : v ≤ (l.take n).length ∧ Grw (((l.take n).take v).map blkOf) vl on v vc := hv
    have h3 : v < n := Int.ofNat_lt.1 (of_decide_eq_true h3)
    exact e2.2.2.2.2
  · rename_i b0 b1 b2 v hv h3 r hr1 r2 hr2 bk b9 q9 sp cap m1 m2
    obtain ⟨v, on, vb, vq, vl, vc⟩ := v
    obtain ⟨e1, e2⟩ : v ≤ (l.take n).length ∧ Grw (((l.take n).take v).map blkOf) vl on v vc := hv
    have h3 : v < n := Int.ofNat_lt.1 (of_decide_eq_true h3)
    exact inR64 (by show _ ≤ (v : Int) + 1; omega) (by show (v : Int) + 1 ≤ _; omega)
  · rename_i b0 b1 b2 v hv h3 r hr1 r2 hr2 bk b9 q9 sp cap m1 m2
    obtain ⟨v, on, vb, vq, vl, vc⟩ := v
    obtain ⟨e1, e2⟩ : v ≤ (l.take n).length ∧ Grw (((l.take n).take v).map blkOf) vl on v vc := hv
    have h3 : v < n := Int.ofNat_lt.1 (of_decide_eq_true h3)
    change Rw Int at r
    have hr1 : l.getD v Rw.nil = r := hr1
    obtain ⟨⟨g1, g2, g3⟩, g4⟩ := hr r (row_mem h3 hnl hr1)
    change Rw Int at r2
    have hr2 : l.getD v Rw.nil = r2 := hr2
    have hr12 : r2 = r := hr2.symm.trans hr1
    subst hr12
    have e3 := e2.app (x := blkOf r2) (sp := sp) m1 m2
    refine Stands.one (v + 1, true, b9, q9, vl.take v ++ [blkOf r2] ++ sp, cap) ⟨⟨by show v + 1 ≤ (l.take n).length; rw [tk_len hnl]; omega, ?_⟩, ?_, ?_⟩
    · show Grw (((l.take n).take (v + 1)).map blkOf) _ _ _ _
      rw [take_snoc (d := Rw.nil) (by rw [tk_len hnl]; exact h3), tk_at h3, hr1, List.map_append]
      exact e3
    · show (l.take n).length - (v + 1) < (l.take n).length - v
      rw [tk_len hnl]; omega
    ((conv => (arg 1; reduce)); with_reducible repeat' (first | exact Tr.yes_h | refine Tr.and_h ?_ ?_ | refine Tr.imp_h fun _ => ?_ | refine Tr.all_h fun _ => ?_ | refine Tr.lf_h ?_))
    all_goals try (first | first | (show Region.lexB _ _ = true; kernel_rfl) | (show planned _ _ = true; kernel_rfl) | exact rfl | exact True.intro | ((try dsimp only [imp, C0, cG, cInt, cPl, cSlot, cPg, rwCodec, cRaw] at *); (try refine inR64 ?_ ?_) <;> (try simp only [List.length_set, List.length_append, List.length_take, List.length_drop]) <;> omega))
    unfold blkOf
    rfl
  · rename_i b0 b1 b2 v hv h3
    obtain ⟨v, on, vb, vq, vl, vc⟩ := v
    obtain ⟨e1, e2⟩ : v ≤ (l.take n).length ∧ Grw (((l.take n).take v).map blkOf) vl on v vc := hv
    have h3 : ¬ v < n := fun h => of_decide_eq_false h3 (Int.ofNat_lt.2 h)
    obtain rfl : v = n := by rw [tk_len hnl] at e1; omega
    rw [List.take_of_length_le (l := l.take v) (by rw [tk_len hnl]; exact Nat.le_refl _)] at e2
    refine Stands.one (0, false, 0, 0, [], 0) ⟨⟨Nat.zero_le _, rfl, rfl, Nat.le_refl _, Nat.le_refl _, fun _ => ⟨rfl, rfl⟩⟩, ?_⟩
    ((conv => (arg 1; reduce)); with_reducible repeat' (first | exact Tr.yes_h | refine Tr.and_h ?_ ?_ | refine Tr.imp_h fun _ => ?_ | refine Tr.all_h fun _ => ?_ | refine Tr.lf_h ?_))
    all_goals (first | first | (show Region.lexB _ _ = true; kernel_rfl) | (show planned _ _ = true; kernel_rfl) | exact rfl | exact True.intro | ((try dsimp only [imp, C0, cG, cInt, cPl, cSlot, cPg, rwCodec, cRaw] at *); (try refine inR64 ?_ ?_) <;> (try simp only [List.length_set, List.length_append, List.length_take, List.length_drop]) <;> omega))
  · rename_i b0 b1 b2 v hv h3 w hw h4
    obtain ⟨w, on, wb, wq, wl, wc⟩ := w
    obtain ⟨e3, e4⟩ : w ≤ (l2.take n2).length ∧ Grw ((l2.take n2).take w) wl on w wc := hw
    have h4 : w < n2 := Int.ofNat_lt.1 (of_decide_eq_true h4)
    exact on_of h2.2.2 (Nat.lt_of_le_of_lt (Nat.zero_le _) h4)
  · rename_i b0 b1 b2 v hv h3 w hw h4
    obtain ⟨w, on, wb, wq, wl, wc⟩ := w
    obtain ⟨e3, e4⟩ : w ≤ (l2.take n2).length ∧ Grw ((l2.take n2).take w) wl on w wc := hw
    have h4 : w < n2 := Int.ofNat_lt.1 (of_decide_eq_true h4)
    exact Int.ofNat_lt.2 h4
  · rename_i b0 b1 b2 v hv h3 w hw h4
    obtain ⟨w, on, wb, wq, wl, wc⟩ := w
    obtain ⟨e3, e4⟩ : w ≤ (l2.take n2).length ∧ Grw ((l2.take n2).take w) wl on w wc := hw
    have h4 : w < n2 := Int.ofNat_lt.1 (of_decide_eq_true h4)
    exact on_of h2.2.2 (Nat.lt_of_le_of_lt (Nat.zero_le _) h4)
  · rename_i b0 b1 b2 v hv h3 w hw h4
    obtain ⟨w, on, wb, wq, wl, wc⟩ := w
    obtain ⟨e3, e4⟩ : w ≤ (l2.take n2).length ∧ Grw ((l2.take n2).take w) wl on w wc := hw
    have h4 : w < n2 := Int.ofNat_lt.1 (of_decide_eq_true h4)
    show (w : Int).toNat + 0 < l2.length
    omega
  · rename_i b0 b1 b2 v hv h3 w hw h4
    obtain ⟨w, on, wb, wq, wl, wc⟩ := w
    obtain ⟨e3, e4⟩ : w ≤ (l2.take n2).length ∧ Grw ((l2.take n2).take w) wl on w wc := hw
    have h4 : w < n2 := Int.ofNat_lt.1 (of_decide_eq_true h4)
    exact on_of h2.2.2 (Nat.lt_of_le_of_lt (Nat.zero_le _) h4)
  · rename_i b0 b1 b2 v hv h3 w hw h4
    obtain ⟨w, on, wb, wq, wl, wc⟩ := w
    obtain ⟨e3, e4⟩ : w ≤ (l2.take n2).length ∧ Grw ((l2.take n2).take w) wl on w wc := hw
    have h4 : w < n2 := Int.ofNat_lt.1 (of_decide_eq_true h4)
    exact Int.ofNat_lt.2 h4
  · rename_i b0 b1 b2 v hv h3 w hw h4
    obtain ⟨w, on, wb, wq, wl, wc⟩ := w
    obtain ⟨e3, e4⟩ : w ≤ (l2.take n2).length ∧ Grw ((l2.take n2).take w) wl on w wc := hw
    have h4 : w < n2 := Int.ofNat_lt.1 (of_decide_eq_true h4)
    exact on_of h2.2.2 (Nat.lt_of_le_of_lt (Nat.zero_le _) h4)
  · rename_i b0 b1 b2 v hv h3 w hw h4
    obtain ⟨w, on, wb, wq, wl, wc⟩ := w
    obtain ⟨e3, e4⟩ : w ≤ (l2.take n2).length ∧ Grw ((l2.take n2).take w) wl on w wc := hw
    have h4 : w < n2 := Int.ofNat_lt.1 (of_decide_eq_true h4)
    show (w : Int).toNat + 0 < l2.length
    omega
  · rename_i b0 b1 b2 v hv h3 w hw h4
    obtain ⟨w, on, wb, wq, wl, wc⟩ := w
    obtain ⟨e3, e4⟩ : w ≤ (l2.take n2).length ∧ Grw ((l2.take n2).take w) wl on w wc := hw
    have h4 : w < n2 := Int.ofNat_lt.1 (of_decide_eq_true h4)
    exact on_of h2.2.2 (Nat.lt_of_le_of_lt (Nat.zero_le _) h4)
  · rename_i b0 b1 b2 v hv h3 w hw h4
    obtain ⟨w, on, wb, wq, wl, wc⟩ := w
    obtain ⟨e3, e4⟩ : w ≤ (l2.take n2).length ∧ Grw ((l2.take n2).take w) wl on w wc := hw
    have h4 : w < n2 := Int.ofNat_lt.1 (of_decide_eq_true h4)
    exact Int.ofNat_lt.2 h4
  · rename_i b0 b1 b2 v hv h3 w hw h4
    obtain ⟨w, on, wb, wq, wl, wc⟩ := w
    obtain ⟨e3, e4⟩ : w ≤ (l2.take n2).length ∧ Grw ((l2.take n2).take w) wl on w wc := hw
    have h4 : w < n2 := Int.ofNat_lt.1 (of_decide_eq_true h4)
    exact on_of h2.2.2 (Nat.lt_of_le_of_lt (Nat.zero_le _) h4)
  · rename_i b0 b1 b2 v hv h3 w hw h4
    obtain ⟨w, on, wb, wq, wl, wc⟩ := w
    obtain ⟨e3, e4⟩ : w ≤ (l2.take n2).length ∧ Grw ((l2.take n2).take w) wl on w wc := hw
    have h4 : w < n2 := Int.ofNat_lt.1 (of_decide_eq_true h4)
    show (w : Int).toNat + 0 < l2.length
    omega
  · rename_i b0 b1 b2 v hv h3 w hw h4 bk
    obtain ⟨w, on, wb, wq, wl, wc⟩ := w
    obtain ⟨e3, e4⟩ : w ≤ (l2.take n2).length ∧ Grw ((l2.take n2).take w) wl on w wc := hw
    have h4 : w < n2 := Int.ofNat_lt.1 (of_decide_eq_true h4)
    obtain ⟨k1, k2, k3, k4, k5⟩ := e4
    rw [by88]
    exact ⟨k3, by show 0 + wc ≤ wl.length; omega, Nat.le_refl 1, by show (w + 1) * 72 ≤ _; omega⟩
  · rename_i b0 b1 b2 v hv h3 w hw h4 bk
    obtain ⟨w, on, wb, wq, wl, wc⟩ := w
    obtain ⟨e3, e4⟩ : w ≤ (l2.take n2).length ∧ Grw ((l2.take n2).take w) wl on w wc := hw
    have h4 : w < n2 := Int.ofNat_lt.1 (of_decide_eq_true h4)
    exact e4.2.2.2.2
  · rename_i b0 b1 b2 v hv h3 w hw h4 bk b9 q9 sp cap m1 m2
    obtain ⟨w, on, wb, wq, wl, wc⟩ := w
    obtain ⟨e3, e4⟩ : w ≤ (l2.take n2).length ∧ Grw ((l2.take n2).take w) wl on w wc := hw
    have h4 : w < n2 := Int.ofNat_lt.1 (of_decide_eq_true h4)
    exact inR64 (by show _ ≤ (w : Int) + 1; omega) (by show (w : Int) + 1 ≤ _; omega)
  · rename_i b0 b1 b2 v hv h3 w hw h4 bk b9 q9 sp cap m1 m2
    obtain ⟨w, on, wb, wq, wl, wc⟩ := w
    obtain ⟨e3, e4⟩ : w ≤ (l2.take n2).length ∧ Grw ((l2.take n2).take w) wl on w wc := hw
    have h4 : w < n2 := Int.ofNat_lt.1 (of_decide_eq_true h4)
    have e5 := e4.app (x := l2.getD w slot0) (sp := sp) m1 m2
    refine Stands.one (w + 1, true, b9, q9, wl.take w ++ [l2.getD w slot0] ++ sp, cap) ⟨⟨by show w + 1 ≤ (l2.take n2).length; rw [tk_len hnl2]; omega, ?_⟩, ?_, ?_⟩
    · show Grw ((l2.take n2).take (w + 1)) _ _ _ _
      rw [take_snoc (d := slot0) (by rw [tk_len hnl2]; exact h4), tk_at h4]
      exact e5
    · show (l2.take n2).length - (w + 1) < (l2.take n2).length - w
      rw [tk_len hnl2]; omega
    ((conv => (arg 1; reduce)); with_reducible repeat' (first | exact Tr.yes_h | refine Tr.and_h ?_ ?_ | refine Tr.imp_h fun _ => ?_ | refine Tr.all_h fun _ => ?_ | refine Tr.lf_h ?_))
    all_goals (first | first | (show Region.lexB _ _ = true; kernel_rfl) | (show planned _ _ = true; kernel_rfl) | exact rfl | exact True.intro | ((try dsimp only [imp, C0, cG, cInt, cPl, cSlot, cPg, rwCodec, cRaw] at *); (try refine inR64 ?_ ?_) <;> (try simp only [List.length_set, List.length_append, List.length_take, List.length_drop]) <;> omega))
  · rename_i b0 b1 b2 v hv h3 w hw h4
    obtain ⟨v, on, vb, vq, vl, vc⟩ := v
    obtain ⟨e1, e2⟩ : v ≤ (l.take n).length ∧ Grw (((l.take n).take v).map blkOf) vl on v vc := hv
    have h3 : ¬ v < n := fun h => of_decide_eq_false h3 (Int.ofNat_lt.2 h)
    obtain ⟨w, won, wb, wq, wl, wc⟩ := w
    obtain ⟨e3, e4⟩ : w ≤ (l2.take n2).length ∧ Grw ((l2.take n2).take w) wl won w wc := hw
    have h4 : ¬ w < n2 := fun h => of_decide_eq_false h4 (Int.ofNat_lt.2 h)
    obtain rfl : w = n2 := by rw [tk_len hnl2] at e3; omega
    rw [List.take_of_length_le (l := l2.take w) (by rw [tk_len hnl2]; exact Nat.le_refl _)] at e4
    obtain rfl : v = n := by rw [tk_len hnl] at e1; omega
    rw [List.take_of_length_le (l := l.take v) (by rw [tk_len hnl]; exact Nat.le_refl _)] at e2
    refine Ends.one ((v, on, vb, vq, vl, vc), (w, won, wb, wq, wl, wc)) ⟨e2, e4⟩ ?_
    ((conv => (arg 1; reduce)); with_reducible repeat' (first | exact Tr.yes_h | refine Tr.and_h ?_ ?_ | refine Tr.imp_h fun _ => ?_ | refine Tr.all_h fun _ => ?_ | refine Tr.lf_h ?_))
    all_goals (first | first | (show Region.lexB _ _ = true; kernel_rfl) | (show planned _ _ = true; kernel_rfl) | exact rfl | exact True.intro | ((try dsimp only [imp, C0, cG, cInt, cPl, cSlot, cPg, rwCodec, cRaw] at *); (try refine inR64 ?_ ?_) <;> (try simp only [List.length_set, List.length_append, List.length_take, List.length_drop]) <;> omega))
def fcMade : Fc Tryd.prog C0 where
  tg := .fn 11
  X := Hd × Sq (Rw Int) × Sq Slot
  args := fun (h, (o, b, q, l, n, c), (o2, b2, q2, l2, n2, c2)) => [ptv h (.sl 0 0 n c) (.sl 1 0 n2 c2)]
  mem := fun (h, (o, b, q, l, n, c), (o2, b2, q2, l2, n2, c2)) => [⟨b, q, 1, false, some o, .rows 71 l⟩, ⟨b2, q2, 9, false, some o2, .rows 74 l2⟩]
  pre := fun (h, (o, b, q, l, n, c), (o2, b2, q2, l2, n2, c2)) => Sq.ok (o, b, q, l, n, c) ∧ Sq.ok (o2, b2, q2, l2, n2, c2) ∧ (∀ r ∈ l.take n, Rok r ∧ r.l.length = 2) ∧ n ≤ 70 ∧ n2 ≤ 100
  alts := fun (h, (o, b, q, l, n, c), (o2, b2, q2, l2, n2, c2)) => [⟨Gx Pl × Gx Slot, fun y => Grw ((l.take n).map blkOf) y.1.2.2.2.2.1 y.1.2.1 n y.1.2.2.2.2.2 ∧ Grw (l2.take n2) y.2.2.2.2.2.1 y.2.2.1 n2 y.2.2.2.2.2.2, fun y => ptv h (.sl 2 0 n y.1.2.2.2.2.2) (.sl 3 0 n2 y.2.2.2.2.2.2),
      fun y => [⟨b, q, 1, false, some o, .rows 71 l⟩, ⟨b2, q2, 9, false, some o2, .rows 74 l2⟩, ⟨y.1.2.2.1, y.1.2.2.2.1, 2, true, some y.1.2.1, .rows 87 y.1.2.2.2.2.1⟩, ⟨y.2.2.2.1, y.2.2.2.2.1, 9, true, some y.2.2.1, .rows 88 y.2.2.2.2.2.1⟩]⟩]
  mat vs m := match vs with
    | [.agg [.int _ h1, .int _ h2, .int _ h3, .int _ h4, .sl a 0 n c, .sl a' 0 n' c']] => match nth m a, nth m a' with
      | ⟨b, q, _, _, g, .rows 71 l⟩, ⟨b', q', _, _, g', .rows 74 l'⟩ => some (((h1, h2, h3, h4), (onOf g, b, q, l, n, c), (onOf g', b', q', l', n', c')), [a, a'])
      | _, _ => none
    | _ => none
  ok := fun (h, (o, b, q, l, n, c), (o2, b2, q2, l2, n2, c2)) x => made_ok h o b q l n c o2 b2 q2 l2 n2 c2 x.1 x.2.1 x.2.2.1 x.2.2.2.1 x.2.2.2.2
end Go.Vx
set_option maxRecDepth 1000000
namespace Go.Vx
open Go Go.Proofs

abbrev backA : List Tk := [.p 0, .p 2, .p 4, .p 8, .p 10, .p 1, .q 3, .p 5, .p 6, .q 7, .q 9, .p 11, .p 12, .q 13, .e 14, .e 15, .e 16, .p 17, .f 18]
noncomputable def backA_ops : Array Oper := match opsOf Tryd.f19 5 with
  | some o => o
  | none => #[]
def backA_w : List Nat := [14, 15, 16, 18]
def backA_f : List Nat := [18]
def backA_l0 : Array Bool := #[false, false, false, false, false, false, false, false, false, false, false, false, false, false, false, false, false, false, false]
theorem backA_s0 : stepsOKL backA_ops backA_w backA_f false [.p 0, .p 2, .p 4, .p 8] backA_l0 = true := by kernel_rfl
def backA_l1 : Array Bool := #[true, false, true, false, true, false, false, false, true, false, false, false, false, false, false, false, false, false, false]
theorem backA_a0 : listedBy [.p 0, .p 2, .p 4, .p 8] backA_l0 = backA_l1 := by kernel_rfl
theorem backA_s1 : stepsOKL backA_ops backA_w backA_f false [.p 10, .p 1, .q 3, .p 5] backA_l1 = true := by kernel_rfl
def backA_l2 : Array Bool := #[true, true, true, true, true, true, false, false, true, false, true, false, false, false, false, false, false, false, false]
theorem backA_a1 : listedBy [.p 10, .p 1, .q 3, .p 5] backA_l1 = backA_l2 := by kernel_rfl
theorem backA_s2 : stepsOKL backA_ops backA_w backA_f false [.p 6, .q 7, .q 9, .p 11] backA_l2 = true := by kernel_rfl
def backA_l3 : Array Bool := #[true, true, true, true, true, true, true, true, true, true, true, true, false, false, false, false, false, false, false]
theorem backA_a2 : listedBy [.p 6, .q 7, .q 9, .p 11] backA_l2 = backA_l3 := by kernel_rfl
theorem backA_s3 : stepsOKL backA_ops backA_w backA_f false [.p 12, .q 13, .e 14, .e 15] backA_l3 = true := by kernel_rfl
def backA_l4 : Array Bool := #[true, true, true, true, true, true, true, true, true, true, true, true, true, true, true, true, false, false, false]
theorem backA_a3 : listedBy [.p 12, .q 13, .e 14, .e 15] backA_l3 = backA_l4 := by kernel_rfl
theorem backA_s4 : stepsOKL backA_ops backA_w backA_f false [.e 16, .p 17, .f 18] backA_l4 = true := by kernel_rfl
def backA_l5 : Array Bool := #[true, true, true, true, true, true, true, true, true, true, true, true, true, true, true, true, true, true, true]
theorem backA_a4 : listedBy [.e 16, .p 17, .f 18] backA_l4 = backA_l5 := by kernel_rfl
theorem backA_k5 : planOK backA_ops backA_w backA_f true (PTree.of []) backA_l5 = true := by kernel_rfl
theorem backA_k4 : planOK backA_ops backA_w backA_f false (PTree.of [.e 16, .p 17, .f 18]) backA_l4 = true := plan_cutL [.e 16, .p 17, .f 18] _ _ _ backA_s4 (by rw [backA_a4]; exact backA_k5)
theorem backA_k3 : planOK backA_ops backA_w backA_f false (PTree.of [.p 12, .q 13, .e 14, .e 15, .e 16, .p 17, .f 18]) backA_l3 = true := plan_cutL [.p 12, .q 13, .e 14, .e 15] _ _ _ backA_s3 (by rw [backA_a3]; exact backA_k4)
theorem backA_k2 : planOK backA_ops backA_w backA_f false (PTree.of [.p 6, .q 7, .q 9, .p 11, .p 12, .q 13, .e 14, .e 15, .e 16, .p 17, .f 18]) backA_l2 = true := plan_cutL [.p 6, .q 7, .q 9, .p 11] _ _ _ backA_s2 (by rw [backA_a2]; exact backA_k3)
theorem backA_k1 : planOK backA_ops backA_w backA_f false (PTree.of [.p 10, .p 1, .q 3, .p 5, .p 6, .q 7, .q 9, .p 11, .p 12, .q 13, .e 14, .e 15, .e 16, .p 17, .f 18]) backA_l1 = true := plan_cutL [.p 10, .p 1, .q 3, .p 5] _ _ _ backA_s1 (by rw [backA_a1]; exact backA_k2)
theorem backA_k0 : planOK backA_ops backA_w backA_f false (PTree.of [.p 0, .p 2, .p 4, .p 8, .p 10, .p 1, .q 3, .p 5, .p 6, .q 7, .q 9, .p 11, .p 12, .q 13, .e 14, .e 15, .e 16, .p 17, .f 18]) backA_l0 = true := plan_cutL [.p 0, .p 2, .p 4, .p 8] _ _ _ backA_s0 (by rw [backA_a0]; exact backA_k1)
theorem backA_ok (ops : Array Oper) (h : opsOf Tryd.f19 5 = some ops) : planned ops (PTree.of backA) = true := by
  have e : ops = backA_ops := by unfold backA_ops; rw [h]
  subst e
  unfold planned
  rw [show effs (PTree.of backA) = backA_w from rfl, show lates (PTree.of backA) = backA_f from rfl, show Array.replicate backA_ops.size false = backA_l0 by kernel_rfl, backA_k0, show Region.noSelect backA_ops = true by kernel_rfl, show Nat.beq (PTree.of backA).len backA_ops.size = true by kernel_rfl]
  rfl
abbrev backB : List Tk := [.p 0, .p 2, .p 4, .p 8, .p 10, .p 14, .p 16, .p 1, .q 3, .p 5, .p 6, .q 7, .q 9, .p 11, .p 12, .q 13, .q 15, .p 17, .p 18, .q 19, .p 20, .e 21, .e 22, .p 23, .f 24]
noncomputable def backB_ops : Array Oper := match opsOf Tryd.f19 9 with
  | some o => o
  | none => #[]
def backB_w : List Nat := [21, 22, 24]
def backB_f : List Nat := [24]
def backB_l0 : Array Bool := #[false, false, false, false, false, false, false, false, false, false, false, false, false, false, false, false, false, false, false, false, false, false, false, false, false]
theorem backB_s0 : stepsOKL backB_ops backB_w backB_f false [.p 0, .p 2, .p 4, .p 8] backB_l0 = true := by kernel_rfl
def backB_l1 : Array Bool := #[true, false, true, false, true, false, false, false, true, false, false, false, false, false, false, false, false, false, false, false, false, false, false, false, false]
theorem backB_a0 : listedBy [.p 0, .p 2, .p 4, .p 8] backB_l0 = backB_l1 := by kernel_rfl
theorem backB_s1 : stepsOKL backB_ops backB_w backB_f false [.p 10, .p 14, .p 16, .p 1] backB_l1 = true := by kernel_rfl
def backB_l2 : Array Bool := #[true, true, true, false, true, false, false, false, true, false, true, false, false, false, true, false, true, false, false, false, false, false, false, false, false]
theorem backB_a1 : listedBy [.p 10, .p 14, .p 16, .p 1] backB_l1 = backB_l2 := by kernel_rfl
theorem backB_s2 : stepsOKL backB_ops backB_w backB_f false [.q 3, .p 5, .p 6, .q 7] backB_l2 = true := by kernel_rfl
def backB_l3 : Array Bool := #[true, true, true, true, true, true, true, true, true, false, true, false, false, false, true, false, true, false, false, false, false, false, false, false, false]
theorem backB_a2 : listedBy [.q 3, .p 5, .p 6, .q 7] backB_l2 = backB_l3 := by kernel_rfl
theorem backB_s3 : stepsOKL backB_ops backB_w backB_f false [.q 9, .p 11, .p 12, .q 13] backB_l3 = true := by kernel_rfl
def backB_l4 : Array Bool := #[true, true, true, true, true, true, true, true, true, true, true, true, true, true, true, false, true, false, false, false, false, false, false, false, false]
theorem backB_a3 : listedBy [.q 9, .p 11, .p 12, .q 13] backB_l3 = backB_l4 := by kernel_rfl
theorem backB_s4 : stepsOKL backB_ops backB_w backB_f false [.q 15, .p 17, .p 18, .q 19] backB_l4 = true := by kernel_rfl
def backB_l5 : Array Bool := #[true, true, true, true, true, true, true, true, true, true, true, true, true, true, true, true, true, true, true, true, false, false, false, false, false]
theorem backB_a4 : listedBy [.q 15, .p 17, .p 18, .q 19] backB_l4 = backB_l5 := by kernel_rfl
theorem backB_s5 : stepsOKL backB_ops backB_w backB_f false [.p 20, .e 21, .e 22, .p 23] backB_l5 = true := by kernel_rfl
def backB_l6 : Array Bool := #[true, true, true, true, true, true, true, true, true, true, true, true, true, true, true, true, true, true, true, true, true, true, true, true, false]
theorem backB_a5 : listedBy [.p 20, .e 21, .e 22, .p 23] backB_l5 = backB_l6 := by kernel_rfl
theorem backB_s6 : stepsOKL backB_ops backB_w backB_f false [.f 24] backB_l6 = true := by kernel_rfl
def backB_l7 : Array Bool := #[true, true, true, true, true, true, true, true, true, true, true, true, true, true, true, true, true, true, true, true, true, true, true, true, true]
theorem backB_a6 : listedBy [.f 24] backB_l6 = backB_l7 := by kernel_rfl
theorem backB_k7 : planOK backB_ops backB_w backB_f true (PTree.of []) backB_l7 = true := by kernel_rfl
theorem backB_k6 : planOK backB_ops backB_w backB_f false (PTree.of [.f 24]) backB_l6 = true := plan_cutL [.f 24] _ _ _ backB_s6 (by rw [backB_a6]; exact backB_k7)
theorem backB_k5 : planOK backB_ops backB_w backB_f false (PTree.of [.p 20, .e 21, .e 22, .p 23, .f 24]) backB_l5 = true := plan_cutL [.p 20, .e 21, .e 22, .p 23] _ _ _ backB_s5 (by rw [backB_a5]; exact backB_k6)
theorem backB_k4 : planOK backB_ops backB_w backB_f false (PTree.of [.q 15, .p 17, .p 18, .q 19, .p 20, .e 21, .e 22, .p 23, .f 24]) backB_l4 = true := plan_cutL [.q 15, .p 17, .p 18, .q 19] _ _ _ backB_s4 (by rw [backB_a4]; exact backB_k5)
theorem backB_k3 : planOK backB_ops backB_w backB_f false (PTree.of [.q 9, .p 11, .p 12, .q 13, .q 15, .p 17, .p 18, .q 19, .p 20, .e 21, .e 22, .p 23, .f 24]) backB_l3 = true := plan_cutL [.q 9, .p 11, .p 12, .q 13] _ _ _ backB_s3 (by rw [backB_a3]; exact backB_k4)
theorem backB_k2 : planOK backB_ops backB_w backB_f false (PTree.of [.q 3, .p 5, .p 6, .q 7, .q 9, .p 11, .p 12, .q 13, .q 15, .p 17, .p 18, .q 19, .p 20, .e 21, .e 22, .p 23, .f 24]) backB_l2 = true := plan_cutL [.q 3, .p 5, .p 6, .q 7] _ _ _ backB_s2 (by rw [backB_a2]; exact backB_k3)
theorem backB_k1 : planOK backB_ops backB_w backB_f false (PTree.of [.p 10, .p 14, .p 16, .p 1, .q 3, .p 5, .p 6, .q 7, .q 9, .p 11, .p 12, .q 13, .q 15, .p 17, .p 18, .q 19, .p 20, .e 21, .e 22, .p 23, .f 24]) backB_l1 = true := plan_cutL [.p 10, .p 14, .p 16, .p 1] _ _ _ backB_s1 (by rw [backB_a1]; exact backB_k2)
theorem backB_k0 : planOK backB_ops backB_w backB_f false (PTree.of [.p 0, .p 2, .p 4, .p 8, .p 10, .p 14, .p 16, .p 1, .q 3, .p 5, .p 6, .q 7, .q 9, .p 11, .p 12, .q 13, .q 15, .p 17, .p 18, .q 19, .p 20, .e 21, .e 22, .p 23, .f 24]) backB_l0 = true := plan_cutL [.p 0, .p 2, .p 4, .p 8] _ _ _ backB_s0 (by rw [backB_a0]; exact backB_k1)
theorem backB_ok (ops : Array Oper) (h : opsOf Tryd.f19 9 = some ops) : planned ops (PTree.of backB) = true := by
  have e : ops = backB_ops := by unfold backB_ops; rw [h]
  subst e
  unfold planned
  rw [show effs (PTree.of backB) = backB_w from rfl, show lates (PTree.of backB) = backB_f from rfl, show Array.replicate backB_ops.size false = backB_l0 by kernel_rfl, backB_k0, show Region.noSelect backB_ops = true by kernel_rfl, show Nat.beq (PTree.of backB).len backB_ops.size = true by kernel_rfl]
  rfl
end Go.Vx
set_option linter.unusedSectionVars false
set_option maxRecDepth 100000
set_option linter.unusedVariables false
set_option linter.unusedSimpArgs false
namespace Go.Vx
open Go Go.Proofs
variable [Gl]

theorem by71 : Tryd.prog.types[71].bytes = 24 := by kernel_rfl
theorem by74 : Tryd.prog.types[74].bytes = 72 := by kernel_rfl
/-- A block az the document has it. -/
def lst (x : Pl) : List Int := [x.1, x.2]
def Bk3 (h : Hd) (A : List Pl) : Inv' C0 := ⟨3, Gx (Rw Int), fun x => [(4, .int .i64 (x.1 : Int))], fun x m => match m with
  | [a0, a1, bx, rs, y] => [a0, a1, bx, rs, ⟨y.block, y.base, 6, true, none, .one (hdE h (.sl 5 0 x.1 x.2.2.2.2.2) .nils)⟩, ⟨x.2.2.1, x.2.2.2.1, 1, true, some x.2.1, .rows 71 x.2.2.2.2.1⟩]
  | m => m, fun x => x.1 ≤ A.length ∧ Grw (x.2.2.2.2.1.take x.1) x.2.2.2.2.1 x.2.1 x.1 x.2.2.2.2.2 ∧ (x.2.2.2.2.1.take x.1).map (·.l) = (A.take x.1).map lst ∧ ∀ r ∈ x.2.2.2.2.1.take x.1, Rok r, fun x => A.length - x.1⟩
def Bk7 (h : Hd) (B : List Slot) : Inv' C0 := ⟨7, Gx Slot, fun x => [(5, .int .i64 (x.1 : Int))], fun x m => match m with
  | [a0, a1, bx, rs, y, bl] => match y.cells with
    | .one [_, _, _, _, sb, _] => [a0, a1, bx, rs, ⟨y.block, y.base, 6, true, none, .one (hdE h sb (.sl 6 0 x.1 x.2.2.2.2.2))⟩, bl, ⟨x.2.2.1, x.2.2.2.1, 9, true, some x.2.1, .rows 74 x.2.2.2.2.1⟩]
    | _ => m
  | m => m, fun x => x.1 ≤ B.length ∧ Grw (B.take x.1) x.2.2.2.2.1 x.2.1 x.1 x.2.2.2.2.2, fun x => B.length - x.1⟩
set_option maxHeartbeats 8000000 in
theorem back_ok (h : Hd) (o : Bool) (b q : Nat) (l : List Pl) (n c : Nat) (o2 : Bool) (b2 q2 : Nat) (l2 : List Slot) (n2 c2 : Nat)
    (h1 : Sq.ok (o, b, q, l, n, c)) (h2 : Sq.ok (o2, b2, q2, l2, n2, c2)) (hn : n ≤ 1000000) (hn2 : n2 ≤ 1000000) :
    Does (C := C0) Tryd.prog (.fn 19) [⟨b, q, 2, false, some o, .rows 87 l⟩, ⟨b2, q2, 9, false, some o2, .rows 88 l2⟩] [ptv h (.sl 0 0 n c) (.sl 1 0 n2 c2)]
    [⟨Gx (Rw Int) × Gx Slot, fun y => (Grw (y.1.2.2.2.2.1.take n) y.1.2.2.2.2.1 y.1.2.1 n y.1.2.2.2.2.2 ∧ (y.1.2.2.2.2.1.take n).map (·.l) = (l.take n).map lst ∧ ∀ r ∈ y.1.2.2.2.2.1.take n, Rok r) ∧ Grw (l2.take n2) y.2.2.2.2.2.1 y.2.2.1 n2 y.2.2.2.2.2.2, fun y => ptv h (.sl 2 0 n y.1.2.2.2.2.2) (.sl 3 0 n2 y.2.2.2.2.2.2),
      fun y => [⟨b, q, 2, false, some o, .rows 87 l⟩, ⟨b2, q2, 9, false, some o2, .rows 88 l2⟩, ⟨y.1.2.2.1, y.1.2.2.2.1, 1, true, some y.1.2.1, .rows 71 y.1.2.2.2.2.1⟩, ⟨y.2.2.2.1, y.2.2.2.2.1, 9, true, some y.2.2.1, .rows 74 y.2.2.2.2.2.1⟩]⟩] := by
  have hnl : n ≤ l.length := h1.2.1
  have hnl2 : n2 ≤ l2.length := h2.2.1
  refine loc_fn (P := Tryd.prog) (E := ⟨[], [], 72, [(5, [4], backA), (9, [4], backB)], [], [wI]⟩) (L := [Bk3 h (l.take n), Bk7 h (l2.take n2)]) mix Tryd.func19 rfl (by kernel_rfl) (by kernel_rfl) rfl rfl ?_
  ((conv => (arg 1; reduce)); with_reducible repeat' (first | exact Tr.yes_h | refine Tr.and_h ?_ ?_ | refine Tr.imp_h fun _ => ?_ | refine Tr.all_h fun _ => ?_ | refine Tr.lf_h ?_))
  all_goals try exact backA_ok _ (by kernel_rfl)
  all_goals try exact backB_ok _ (by kernel_rfl)
  all_goals try (first | first | (show Region.lexB _ _ = true; kernel_rfl) | (show planned _ _ = true; kernel_rfl) | exact rfl | exact True.intro | ((try dsimp only [imp, C0, cG, cInt, cPl, cSlot, cPg, rwCodec, cRaw] at *); (try refine inR64 ?_ ?_) <;> (try simp only [List.length_set, List.length_append, List.length_take, List.length_drop]) <;> omega))
  · rename_i b0 b1 b2
    refine Stands.one (0, false, 0, 0, [], 0) ⟨⟨Nat.zero_le _, ⟨rfl, rfl, Nat.le_refl _, Nat.le_refl _, fun _ => ⟨rfl, rfl⟩⟩, rfl, by intro r hr; cases hr⟩, ?_⟩
    ((conv => (arg 1; reduce)); with_reducible repeat' (first | exact Tr.yes_h | refine Tr.and_h ?_ ?_ | refine Tr.imp_h fun _ => ?_ | refine Tr.all_h fun _ => ?_ | refine Tr.lf_h ?_))
    all_goals (first | first | (show Region.lexB _ _ = true; kernel_rfl) | (show planned _ _ = true; kernel_rfl) | exact rfl | exact True.intro | ((try dsimp only [imp, C0, cG, cInt, cPl, cSlot, cPg, rwCodec, cRaw] at *); (try refine inR64 ?_ ?_) <;> (try simp only [List.length_set, List.length_append, List.length_take, List.length_drop]) <;> omega))
  · rename_i b0 b1 b2 v hv h3
    obtain ⟨v, on, vb, vq, vl, vc⟩ := v
    obtain ⟨e1, e2, e3, e4⟩ : v ≤ (l.take n).length ∧ Grw (vl.take v) vl on v vc ∧ (vl.take v).map (·.l) = ((l.take n).take v).map lst ∧ ∀ r ∈ vl.take v, Rok r := hv
    have h3 : v < n := Int.ofNat_lt.1 (of_decide_eq_true h3)
    exact on_of h1.2.2 (Nat.lt_of_le_of_lt (Nat.zero_le _) h3)
  · rename_i b0 b1 b2 v hv h3
    obtain ⟨v, on, vb, vq, vl, vc⟩ := v
    obtain ⟨e1, e2, e3, e4⟩ : v ≤ (l.take n).length ∧ Grw (vl.take v) vl on v vc ∧ (vl.take v).map (·.l) = ((l.take n).take v).map lst ∧ ∀ r ∈ vl.take v, Rok r := hv
    have h3 : v < n := Int.ofNat_lt.1 (of_decide_eq_true h3)
    exact Int.ofNat_lt.2 h3
  · rename_i b0 b1 b2 v hv h3
    obtain ⟨v, on, vb, vq, vl, vc⟩ := v
    obtain ⟨e1, e2, e3, e4⟩ : v ≤ (l.take n).length ∧ Grw (vl.take v) vl on v vc ∧ (vl.take v).map (·.l) = ((l.take n).take v).map lst ∧ ∀ r ∈ vl.take v, Rok r := hv
    have h3 : v < n := Int.ofNat_lt.1 (of_decide_eq_true h3)
    exact on_of h1.2.2 (Nat.lt_of_le_of_lt (Nat.zero_le _) h3)
  · rename_i b0 b1 b2 v hv h3
    obtain ⟨v, on, vb, vq, vl, vc⟩ := v
    obtain ⟨e1, e2, e3, e4⟩ : v ≤ (l.take n).length ∧ Grw (vl.take v) vl on v vc ∧ (vl.take v).map (·.l) = ((l.take n).take v).map lst ∧ ∀ r ∈ vl.take v, Rok r := hv
    have h3 : v < n := Int.ofNat_lt.1 (of_decide_eq_true h3)
    show (v : Int).toNat + 0 < l.length
    omega
  · rename_i b0 b1 b2 v hv h3
    obtain ⟨v, on, vb, vq, vl, vc⟩ := v
    obtain ⟨e1, e2, e3, e4⟩ : v ≤ (l.take n).length ∧ Grw (vl.take v) vl on v vc ∧ (vl.take v).map (·.l) = ((l.take n).take v).map lst ∧ ∀ r ∈ vl.take v, Rok r := hv
    have h3 : v < n := Int.ofNat_lt.1 (of_decide_eq_true h3)
    exact on_of h1.2.2 (Nat.lt_of_le_of_lt (Nat.zero_le _) h3)
  · rename_i b0 b1 b2 v hv h3
    obtain ⟨v, on, vb, vq, vl, vc⟩ := v
    obtain ⟨e1, e2, e3, e4⟩ : v ≤ (l.take n).length ∧ Grw (vl.take v) vl on v vc ∧ (vl.take v).map (·.l) = ((l.take n).take v).map lst ∧ ∀ r ∈ vl.take v, Rok r := hv
    have h3 : v < n := Int.ofNat_lt.1 (of_decide_eq_true h3)
    exact Int.ofNat_lt.2 h3
  · rename_i b0 b1 b2 v hv h3
    obtain ⟨v, on, vb, vq, vl, vc⟩ := v
    obtain ⟨e1, e2, e3, e4⟩ : v ≤ (l.take n).length ∧ Grw (vl.take v) vl on v vc ∧ (vl.take v).map (·.l) = ((l.take n).take v).map lst ∧ ∀ r ∈ vl.take v, Rok r := hv
    have h3 : v < n := Int.ofNat_lt.1 (of_decide_eq_true h3)
    exact on_of h1.2.2 (Nat.lt_of_le_of_lt (Nat.zero_le _) h3)
  · rename_i b0 b1 b2 v hv h3
    obtain ⟨v, on, vb, vq, vl, vc⟩ := v
    obtain ⟨e1, e2, e3, e4⟩ : v ≤ (l.take n).length ∧ Grw (vl.take v) vl on v vc ∧ (vl.take v).map (·.l) = ((l.take n).take v).map lst ∧ ∀ r ∈ vl.take v, Rok r := hv
    have h3 : v < n := Int.ofNat_lt.1 (of_decide_eq_true h3)
    show (v : Int).toNat + 0 < l.length
    omega
  · exact Nat.le_refl 2
  · rename_i b0 b1 b2 v hv h3 bk bk2
    obtain ⟨v, on, vb, vq, vl, vc⟩ := v
    obtain ⟨e1, e2, e3, e4⟩ : v ≤ (l.take n).length ∧ Grw (vl.take v) vl on v vc ∧ (vl.take v).map (·.l) = ((l.take n).take v).map lst ∧ ∀ r ∈ vl.take v, Rok r := hv
    have h3 : v < n := Int.ofNat_lt.1 (of_decide_eq_true h3)
    obtain ⟨k1, k2, k3, k4, k5⟩ := e2
    rw [by71]
    exact ⟨k3, by show 0 + vc ≤ vl.length; omega, Nat.le_refl 1, by show (v + 1) * 24 ≤ _; omega⟩
  · rename_i b0 b1 b2 v hv h3 bk bk2
    obtain ⟨v, on, vb, vq, vl, vc⟩ := v
    obtain ⟨e1, e2, e3, e4⟩ : v ≤ (l.take n).length ∧ Grw (vl.take v) vl on v vc ∧ (vl.take v).map (·.l) = ((l.take n).take v).map lst ∧ ∀ r ∈ vl.take v, Rok r := hv
    have h3 : v < n := Int.ofNat_lt.1 (of_decide_eq_true h3)
    exact e2.2.2.2.2
  · rename_i b0 b1 b2 v hv h3 bk bk b9 q9 sp cap m1 m2
    obtain ⟨v, on, vb, vq, vl, vc⟩ := v
    obtain ⟨e1, e2, e3, e4⟩ : v ≤ (l.take n).length ∧ Grw (vl.take v) vl on v vc ∧ (vl.take v).map (·.l) = ((l.take n).take v).map lst ∧ ∀ r ∈ vl.take v, Rok r := hv
    have h3 : v < n := Int.ofNat_lt.1 (of_decide_eq_true h3)
    exact inR64 (by show _ ≤ (v : Int) + 1; omega) (by show (v : Int) + 1 ≤ _; omega)
  · rename_i b0 b1 b2 v hv h3 bk2 bk b9 q9 sp cap m1 m2
    obtain ⟨v, on, vb, vq, vl, vc⟩ := v
    obtain ⟨e1, e2, e3, e4⟩ : v ≤ (l.take n).length ∧ Grw (vl.take v) vl on v vc ∧ (vl.take v).map (·.l) = ((l.take n).take v).map lst ∧ ∀ r ∈ vl.take v, Rok r := hv
    have h3 : v < n := Int.ofNat_lt.1 (of_decide_eq_true h3)
    have e5 := e2.app (x := (⟨true, bk2, 0, 2, lst (l.getD v (0, 0))⟩ : Rw Int)) (sp := sp) m1 m2
    have e6 := e5.2.1
    refine Stands.one (v + 1, true, b9, q9, vl.take v ++ [⟨true, bk2, 0, 2, lst (l.getD v (0, 0))⟩] ++ sp, cap) ⟨⟨by show v + 1 ≤ (l.take n).length; rw [tk_len hnl]; omega, ?_, ?_, ?_⟩, ?_, ?_⟩
    · show Grw (List.take (v + 1) _) _ _ _ _
      rw [e6]
      exact e5
    · show (List.take (v + 1) _).map _ = ((l.take n).take (v + 1)).map lst
      rw [e6, take_snoc (d := (0, 0)) (by rw [tk_len hnl]; exact h3), tk_at h3, List.map_append, List.map_append, e3]
      rfl
    · show ∀ r ∈ List.take (v + 1) _, Rok r
      rw [e6]
      intro r hr
      rcases List.mem_append.1 hr with hr | hr
      · exact e4 r hr
      · rw [List.mem_singleton.1 hr]
        exact ⟨fun h => Bool.noConfusion h, Nat.le_refl 2, (by decide : 2 < 140737488355000)⟩
    · show (l.take n).length - (v + 1) < (l.take n).length - v
      rw [tk_len hnl]; omega
    ((conv => (arg 1; reduce)); with_reducible repeat' (first | exact Tr.yes_h | refine Tr.and_h ?_ ?_ | refine Tr.imp_h fun _ => ?_ | refine Tr.all_h fun _ => ?_ | refine Tr.lf_h ?_))
    all_goals (first | first | (show Region.lexB _ _ = true; kernel_rfl) | (show planned _ _ = true; kernel_rfl) | exact rfl | exact True.intro | ((try dsimp only [imp, C0, cG, cInt, cPl, cSlot, cPg, rwCodec, cRaw] at *); (try refine inR64 ?_ ?_) <;> (try simp only [List.length_set, List.length_append, List.length_take, List.length_drop]) <;> omega))
  · rename_i b0 b1 b2 v hv h3
    obtain ⟨v, on, vb, vq, vl, vc⟩ := v
    obtain ⟨e1, e2, e7, e8⟩ : v ≤ (l.take n).length ∧ Grw (vl.take v) vl on v vc ∧ (vl.take v).map (·.l) = ((l.take n).take v).map lst ∧ ∀ r ∈ vl.take v, Rok r := hv
    have h3 : ¬ v < n := fun h => of_decide_eq_false h3 (Int.ofNat_lt.2 h)
    obtain rfl : v = n := by rw [tk_len hnl] at e1; omega
    rw [List.take_of_length_le (l := l.take v) (by rw [tk_len hnl]; exact Nat.le_refl _)] at e7
    refine Stands.one (0, false, 0, 0, [], 0) ⟨⟨Nat.zero_le _, rfl, rfl, Nat.le_refl _, Nat.le_refl _, fun _ => ⟨rfl, rfl⟩⟩, ?_⟩
    ((conv => (arg 1; reduce)); with_reducible repeat' (first | exact Tr.yes_h | refine Tr.and_h ?_ ?_ | refine Tr.imp_h fun _ => ?_ | refine Tr.all_h fun _ => ?_ | refine Tr.lf_h ?_))
    all_goals (first | first | (show Region.lexB _ _ = true; kernel_rfl) | (show planned _ _ = true; kernel_rfl) | exact rfl | exact True.intro | ((try dsimp only [imp, C0, cG, cInt, cPl, cSlot, cPg, rwCodec, cRaw] at *); (try refine inR64 ?_ ?_) <;> (try simp only [List.length_set, List.length_append, List.length_take, List.length_drop]) <;> omega))
  · rename_i b0 b1 b2 v hv h3 w hw h4
    obtain ⟨w, on, wb, wq, wl, wc⟩ := w
    obtain ⟨e3, e4⟩ : w ≤ (l2.take n2).length ∧ Grw ((l2.take n2).take w) wl on w wc := hw
    have h4 : w < n2 := Int.ofNat_lt.1 (of_decide_eq_true h4)
    exact on_of h2.2.2 (Nat.lt_of_le_of_lt (Nat.zero_le _) h4)
  · rename_i b0 b1 b2 v hv h3 w hw h4
    obtain ⟨w, on, wb, wq, wl, wc⟩ := w
    obtain ⟨e3, e4⟩ : w ≤ (l2.take n2).length ∧ Grw ((l2.take n2).take w) wl on w wc := hw
    have h4 : w < n2 := Int.ofNat_lt.1 (of_decide_eq_true h4)
    exact Int.ofNat_lt.2 h4
  · rename_i b0 b1 b2 v hv h3 w hw h4
    obtain ⟨w, on, wb, wq, wl, wc⟩ := w
    obtain ⟨e3, e4⟩ : w ≤ (l2.take n2).length ∧ Grw ((l2.take n2).take w) wl on w wc := hw
    have h4 : w < n2 := Int.ofNat_lt.1 (of_decide_eq_true h4)
    exact on_of h2.2.2 (Nat.lt_of_le_of_lt (Nat.zero_le _) h4)
  · rename_i b0 b1 b2 v hv h3 w hw h4
    obtain ⟨w, on, wb, wq, wl, wc⟩ := w
    obtain ⟨e3, e4⟩ : w ≤ (l2.take n2).length ∧ Grw ((l2.take n2).take w) wl on w wc := hw
    have h4 : w < n2 := Int.ofNat_lt.1 (of_decide_eq_true h4)
    show (w : Int).toNat + 0 < l2.length
    omega
  · rename_i b0 b1 b2 v hv h3 w hw h4
    obtain ⟨w, on, wb, wq, wl, wc⟩ := w
    obtain ⟨e3, e4⟩ : w ≤ (l2.take n2).length ∧ Grw ((l2.take n2).take w) wl on w wc := hw
    have h4 : w < n2 := Int.ofNat_lt.1 (of_decide_eq_true h4)
    exact on_of h2.2.2 (Nat.lt_of_le_of_lt (Nat.zero_le _) h4)
  · rename_i b0 b1 b2 v hv h3 w hw h4
    obtain ⟨w, on, wb, wq, wl, wc⟩ := w
    obtain ⟨e3, e4⟩ : w ≤ (l2.take n2).length ∧ Grw ((l2.take n2).take w) wl on w wc := hw
    have h4 : w < n2 := Int.ofNat_lt.1 (of_decide_eq_true h4)
    exact Int.ofNat_lt.2 h4
  · rename_i b0 b1 b2 v hv h3 w hw h4
    obtain ⟨w, on, wb, wq, wl, wc⟩ := w
    obtain ⟨e3, e4⟩ : w ≤ (l2.take n2).length ∧ Grw ((l2.take n2).take w) wl on w wc := hw
    have h4 : w < n2 := Int.ofNat_lt.1 (of_decide_eq_true h4)
    exact on_of h2.2.2 (Nat.lt_of_le_of_lt (Nat.zero_le _) h4)
  · rename_i b0 b1 b2 v hv h3 w hw h4
    obtain ⟨w, on, wb, wq, wl, wc⟩ := w
    obtain ⟨e3, e4⟩ : w ≤ (l2.take n2).length ∧ Grw ((l2.take n2).take w) wl on w wc := hw
    have h4 : w < n2 := Int.ofNat_lt.1 (of_decide_eq_true h4)
    show (w : Int).toNat + 0 < l2.length
    omega
  · rename_i b0 b1 b2 v hv h3 w hw h4
    obtain ⟨w, on, wb, wq, wl, wc⟩ := w
    obtain ⟨e3, e4⟩ : w ≤ (l2.take n2).length ∧ Grw ((l2.take n2).take w) wl on w wc := hw
    have h4 : w < n2 := Int.ofNat_lt.1 (of_decide_eq_true h4)
    exact on_of h2.2.2 (Nat.lt_of_le_of_lt (Nat.zero_le _) h4)
  · rename_i b0 b1 b2 v hv h3 w hw h4
    obtain ⟨w, on, wb, wq, wl, wc⟩ := w
    obtain ⟨e3, e4⟩ : w ≤ (l2.take n2).length ∧ Grw ((l2.take n2).take w) wl on w wc := hw
    have h4 : w < n2 := Int.ofNat_lt.1 (of_decide_eq_true h4)
    exact Int.ofNat_lt.2 h4
  · rename_i b0 b1 b2 v hv h3 w hw h4
    obtain ⟨w, on, wb, wq, wl, wc⟩ := w
    obtain ⟨e3, e4⟩ : w ≤ (l2.take n2).length ∧ Grw ((l2.take n2).take w) wl on w wc := hw
    have h4 : w < n2 := Int.ofNat_lt.1 (of_decide_eq_true h4)
    exact on_of h2.2.2 (Nat.lt_of_le_of_lt (Nat.zero_le _) h4)
  · rename_i b0 b1 b2 v hv h3 w hw h4
    obtain ⟨w, on, wb, wq, wl, wc⟩ := w
    obtain ⟨e3, e4⟩ : w ≤ (l2.take n2).length ∧ Grw ((l2.take n2).take w) wl on w wc := hw
    have h4 : w < n2 := Int.ofNat_lt.1 (of_decide_eq_true h4)
    show (w : Int).toNat + 0 < l2.length
    omega
  · rename_i b0 b1 b2 v hv h3 w hw h4 bk
    obtain ⟨w, on, wb, wq, wl, wc⟩ := w
    obtain ⟨e3, e4⟩ : w ≤ (l2.take n2).length ∧ Grw ((l2.take n2).take w) wl on w wc := hw
    have h4 : w < n2 := Int.ofNat_lt.1 (of_decide_eq_true h4)
    obtain ⟨k1, k2, k3, k4, k5⟩ := e4
    rw [by74]
    exact ⟨k3, by show 0 + wc ≤ wl.length; omega, Nat.le_refl 1, by show (w + 1) * 72 ≤ _; omega⟩
  · rename_i b0 b1 b2 v hv h3 w hw h4 bk
    obtain ⟨w, on, wb, wq, wl, wc⟩ := w
    obtain ⟨e3, e4⟩ : w ≤ (l2.take n2).length ∧ Grw ((l2.take n2).take w) wl on w wc := hw
    have h4 : w < n2 := Int.ofNat_lt.1 (of_decide_eq_true h4)
    exact e4.2.2.2.2
  · rename_i b0 b1 b2 v hv h3 w hw h4 bk b9 q9 sp cap m1 m2
    obtain ⟨w, on, wb, wq, wl, wc⟩ := w
    obtain ⟨e3, e4⟩ : w ≤ (l2.take n2).length ∧ Grw ((l2.take n2).take w) wl on w wc := hw
    have h4 : w < n2 := Int.ofNat_lt.1 (of_decide_eq_true h4)
    exact inR64 (by show _ ≤ (w : Int) + 1; omega) (by show (w : Int) + 1 ≤ _; omega)
  · rename_i b0 b1 b2 v hv h3 w hw h4 bk b9 q9 sp cap m1 m2
    obtain ⟨w, on, wb, wq, wl, wc⟩ := w
    obtain ⟨e3, e4⟩ : w ≤ (l2.take n2).length ∧ Grw ((l2.take n2).take w) wl on w wc := hw
    have h4 : w < n2 := Int.ofNat_lt.1 (of_decide_eq_true h4)
    have e5 := e4.app (x := l2.getD w slot0) (sp := sp) m1 m2
    refine Stands.one (w + 1, true, b9, q9, wl.take w ++ [l2.getD w slot0] ++ sp, cap) ⟨⟨by show w + 1 ≤ (l2.take n2).length; rw [tk_len hnl2]; omega, ?_⟩, ?_, ?_⟩
    · show Grw ((l2.take n2).take (w + 1)) _ _ _ _
      rw [take_snoc (d := slot0) (by rw [tk_len hnl2]; exact h4), tk_at h4]
      exact e5
    · show (l2.take n2).length - (w + 1) < (l2.take n2).length - w
      rw [tk_len hnl2]; omega
    ((conv => (arg 1; reduce)); with_reducible repeat' (first | exact Tr.yes_h | refine Tr.and_h ?_ ?_ | refine Tr.imp_h fun _ => ?_ | refine Tr.all_h fun _ => ?_ | refine Tr.lf_h ?_))
    all_goals (first | first | (show Region.lexB _ _ = true; kernel_rfl) | (show planned _ _ = true; kernel_rfl) | exact rfl | exact True.intro | ((try dsimp only [imp, C0, cG, cInt, cPl, cSlot, cPg, rwCodec, cRaw] at *); (try refine inR64 ?_ ?_) <;> (try simp only [List.length_set, List.length_append, List.length_take, List.length_drop]) <;> omega))
  · rename_i b0 b1 b2 v hv h3 w hw h4
    obtain ⟨v, on, vb, vq, vl, vc⟩ := v
    obtain ⟨e1, e2, e7, e8⟩ : v ≤ (l.take n).length ∧ Grw (vl.take v) vl on v vc ∧ (vl.take v).map (·.l) = ((l.take n).take v).map lst ∧ ∀ r ∈ vl.take v, Rok r := hv
    have h3 : ¬ v < n := fun h => of_decide_eq_false h3 (Int.ofNat_lt.2 h)
    obtain ⟨w, won, wb, wq, wl, wc⟩ := w
    obtain ⟨e3, e4⟩ : w ≤ (l2.take n2).length ∧ Grw ((l2.take n2).take w) wl won w wc := hw
    have h4 : ¬ w < n2 := fun h => of_decide_eq_false h4 (Int.ofNat_lt.2 h)
    obtain rfl : w = n2 := by rw [tk_len hnl2] at e3; omega
    rw [List.take_of_length_le (l := l2.take w) (by rw [tk_len hnl2]; exact Nat.le_refl _)] at e4
    obtain rfl : v = n := by rw [tk_len hnl] at e1; omega
    rw [List.take_of_length_le (l := l.take v) (by rw [tk_len hnl]; exact Nat.le_refl _)] at e7
    refine Ends.one ((v, on, vb, vq, vl, vc), (w, won, wb, wq, wl, wc)) ⟨⟨e2, e7, e8⟩, e4⟩ ?_
    ((conv => (arg 1; reduce)); with_reducible repeat' (first | exact Tr.yes_h | refine Tr.and_h ?_ ?_ | refine Tr.imp_h fun _ => ?_ | refine Tr.all_h fun _ => ?_ | refine Tr.lf_h ?_))
    all_goals (first | first | (show Region.lexB _ _ = true; kernel_rfl) | (show planned _ _ = true; kernel_rfl) | exact rfl | exact True.intro | ((try dsimp only [imp, C0, cG, cInt, cPl, cSlot, cPg, rwCodec, cRaw] at *); (try refine inR64 ?_ ?_) <;> (try simp only [List.length_set, List.length_append, List.length_take, List.length_drop]) <;> omega))
def fcBack : Fc Tryd.prog C0 where
  tg := .fn 19
  X := Hd × Sq Pl × Sq Slot
  args := fun (h, (o, b, q, l, n, c), (o2, b2, q2, l2, n2, c2)) => [ptv h (.sl 0 0 n c) (.sl 1 0 n2 c2)]
  mem := fun (h, (o, b, q, l, n, c), (o2, b2, q2, l2, n2, c2)) => [⟨b, q, 2, false, some o, .rows 87 l⟩, ⟨b2, q2, 9, false, some o2, .rows 88 l2⟩]
  pre := fun (h, (o, b, q, l, n, c), (o2, b2, q2, l2, n2, c2)) => Sq.ok (o, b, q, l, n, c) ∧ Sq.ok (o2, b2, q2, l2, n2, c2) ∧ n ≤ 1000000 ∧ n2 ≤ 1000000
  alts := fun (h, (o, b, q, l, n, c), (o2, b2, q2, l2, n2, c2)) => [⟨Gx (Rw Int) × Gx Slot, fun y => (Grw (y.1.2.2.2.2.1.take n) y.1.2.2.2.2.1 y.1.2.1 n y.1.2.2.2.2.2 ∧ (y.1.2.2.2.2.1.take n).map (·.l) = (l.take n).map lst ∧ ∀ r ∈ y.1.2.2.2.2.1.take n, Rok r) ∧ Grw (l2.take n2) y.2.2.2.2.2.1 y.2.2.1 n2 y.2.2.2.2.2.2, fun y => ptv h (.sl 2 0 n y.1.2.2.2.2.2) (.sl 3 0 n2 y.2.2.2.2.2.2),
      fun y => [⟨b, q, 2, false, some o, .rows 87 l⟩, ⟨b2, q2, 9, false, some o2, .rows 88 l2⟩, ⟨y.1.2.2.1, y.1.2.2.2.1, 1, true, some y.1.2.1, .rows 71 y.1.2.2.2.2.1⟩, ⟨y.2.2.2.1, y.2.2.2.2.1, 9, true, some y.2.2.1, .rows 74 y.2.2.2.2.2.1⟩]⟩]
  mat vs m := match vs with
    | [.agg [.int _ h1, .int _ h2, .int _ h3, .int _ h4, sa, sb]] => match sa, sb with
      | .sl a 0 n c, .sl a' 0 n' c' => match nth m a, nth m a' with
        | ⟨b, q, _, _, g, .rows 87 l⟩, ⟨b', q', _, _, g', .rows 88 l'⟩ => some (((h1, h2, h3, h4), (onOf g, b, q, l, n, c), (onOf g', b', q', l', n', c')), [a, a'])
        | _, _ => none
      | .nils, .nils => some (((h1, h2, h3, h4), (false, 0, 0, [], 0, 0), (false, 0, 0, [], 0, 0)), [m.length, m.length + 1])
      | _, _ => none
    | _ => none
  ok := fun (h, (o, b, q, l, n, c), (o2, b2, q2, l2, n2, c2)) x => back_ok h o b q l n c o2 b2 q2 l2 n2 c2 x.1 x.2.1 x.2.2.1 x.2.2.2
end Go.Vx
set_option maxRecDepth 1000000
namespace Go.Vx
open Go Go.Proofs

abbrev pmayA : List Tk := [.p 0, .p 1, .p 2, .p 4, .q 3, .q 5, .e 6, .e 7, .p 8, .p 9, .p 10, .q 11, .p 12, .p 13, .p 14, .p 15, .p 16, .p 17, .p 18, .p 20, .p 21, .p 25, .q 19, .p 22, .p 23, .q 24, .q 26, .p 27, .p 28, .p 29, .p 30]
noncomputable def pmayA_ops : Array Oper := match opsOf Tryd.f13 5 with
  | some o => o
  | none => #[]
def pmayA_w : List Nat := [6, 7]
def pmayA_f : List Nat := []
def pmayA_l0 : Array Bool := #[false, false, false, false, false, false, false, false, false, false, false, false, false, false, false, false, false, false, false, false, false, false, false, false, false, false, false, false, false, false, false]
theorem pmayA_s0 : stepsOKL pmayA_ops pmayA_w pmayA_f false [.p 0, .p 1, .p 2, .p 4] pmayA_l0 = true := by kernel_rfl
def pmayA_l1 : Array Bool := #[true, true, true, false, true, false, false, false, false, false, false, false, false, false, false, false, false, false, false, false, false, false, false, false, false, false, false, false, false, false, false]
theorem pmayA_a0 : listedBy [.p 0, .p 1, .p 2, .p 4] pmayA_l0 = pmayA_l1 := by kernel_rfl
theorem pmayA_s1 : stepsOKL pmayA_ops pmayA_w pmayA_f false [.q 3, .q 5, .e 6, .e 7] pmayA_l1 = true := by kernel_rfl
def pmayA_l2 : Array Bool := #[true, true, true, true, true, true, true, true, false, false, false, false, false, false, false, false, false, false, false, false, false, false, false, false, false, false, false, false, false, false, false]
theorem pmayA_a1 : listedBy [.q 3, .q 5, .e 6, .e 7] pmayA_l1 = pmayA_l2 := by kernel_rfl
theorem pmayA_s2 : stepsOKL pmayA_ops pmayA_w pmayA_f false [.p 8, .p 9, .p 10, .q 11] pmayA_l2 = true := by kernel_rfl
def pmayA_l3 : Array Bool := #[true, true, true, true, true, true, true, true, true, true, true, true, false, false, false, false, false, false, false, false, false, false, false, false, false, false, false, false, false, false, false]
theorem pmayA_a2 : listedBy [.p 8, .p 9, .p 10, .q 11] pmayA_l2 = pmayA_l3 := by kernel_rfl
theorem pmayA_s3 : stepsOKL pmayA_ops pmayA_w pmayA_f false [.p 12, .p 13, .p 14, .p 15] pmayA_l3 = true := by kernel_rfl
def pmayA_l4 : Array Bool := #[true, true, true, true, true, true, true, true, true, true, true, true, true, true, true, true, false, false, false, false, false, false, false, false, false, false, false, false, false, false, false]
theorem pmayA_a3 : listedBy [.p 12, .p 13, .p 14, .p 15] pmayA_l3 = pmayA_l4 := by kernel_rfl
theorem pmayA_s4 : stepsOKL pmayA_ops pmayA_w pmayA_f false [.p 16, .p 17, .p 18, .p 20] pmayA_l4 = true := by kernel_rfl
def pmayA_l5 : Array Bool := #[true, true, true, true, true, true, true, true, true, true, true, true, true, true, true, true, true, true, true, false, true, false, false, false, false, false, false, false, false, false, false]
theorem pmayA_a4 : listedBy [.p 16, .p 17, .p 18, .p 20] pmayA_l4 = pmayA_l5 := by kernel_rfl
theorem pmayA_s5 : stepsOKL pmayA_ops pmayA_w pmayA_f false [.p 21, .p 25, .q 19, .p 22] pmayA_l5 = true := by kernel_rfl
def pmayA_l6 : Array Bool := #[true, true, true, true, true, true, true, true, true, true, true, true, true, true, true, true, true, true, true, true, true, true, true, false, false, true, false, false, false, false, false]
theorem pmayA_a5 : listedBy [.p 21, .p 25, .q 19, .p 22] pmayA_l5 = pmayA_l6 := by kernel_rfl
theorem pmayA_s6 : stepsOKL pmayA_ops pmayA_w pmayA_f false [.p 23, .q 24, .q 26, .p 27] pmayA_l6 = true := by kernel_rfl
def pmayA_l7 : Array Bool := #[true, true, true, true, true, true, true, true, true, true, true, true, true, true, true, true, true, true, true, true, true, true, true, true, true, true, true, true, false, false, false]
theorem pmayA_a6 : listedBy [.p 23, .q 24, .q 26, .p 27] pmayA_l6 = pmayA_l7 := by kernel_rfl
theorem pmayA_s7 : stepsOKL pmayA_ops pmayA_w pmayA_f false [.p 28, .p 29, .p 30] pmayA_l7 = true := by kernel_rfl
def pmayA_l8 : Array Bool := #[true, true, true, true, true, true, true, true, true, true, true, true, true, true, true, true, true, true, true, true, true, true, true, true, true, true, true, true, true, true, true]
theorem pmayA_a7 : listedBy [.p 28, .p 29, .p 30] pmayA_l7 = pmayA_l8 := by kernel_rfl
theorem pmayA_k8 : planOK pmayA_ops pmayA_w pmayA_f false (PTree.of []) pmayA_l8 = true := by kernel_rfl
theorem pmayA_k7 : planOK pmayA_ops pmayA_w pmayA_f false (PTree.of [.p 28, .p 29, .p 30]) pmayA_l7 = true := plan_cutL [.p 28, .p 29, .p 30] _ _ _ pmayA_s7 (by rw [pmayA_a7]; exact pmayA_k8)
theorem pmayA_k6 : planOK pmayA_ops pmayA_w pmayA_f false (PTree.of [.p 23, .q 24, .q 26, .p 27, .p 28, .p 29, .p 30]) pmayA_l6 = true := plan_cutL [.p 23, .q 24, .q 26, .p 27] _ _ _ pmayA_s6 (by rw [pmayA_a6]; exact pmayA_k7)
theorem pmayA_k5 : planOK pmayA_ops pmayA_w pmayA_f false (PTree.of [.p 21, .p 25, .q 19, .p 22, .p 23, .q 24, .q 26, .p 27, .p 28, .p 29, .p 30]) pmayA_l5 = true := plan_cutL [.p 21, .p 25, .q 19, .p 22] _ _ _ pmayA_s5 (by rw [pmayA_a5]; exact pmayA_k6)
theorem pmayA_k4 : planOK pmayA_ops pmayA_w pmayA_f false (PTree.of [.p 16, .p 17, .p 18, .p 20, .p 21, .p 25, .q 19, .p 22, .p 23, .q 24, .q 26, .p 27, .p 28, .p 29, .p 30]) pmayA_l4 = true := plan_cutL [.p 16, .p 17, .p 18, .p 20] _ _ _ pmayA_s4 (by rw [pmayA_a4]; exact pmayA_k5)
theorem pmayA_k3 : planOK pmayA_ops pmayA_w pmayA_f false (PTree.of [.p 12, .p 13, .p 14, .p 15, .p 16, .p 17, .p 18, .p 20, .p 21, .p 25, .q 19, .p 22, .p 23, .q 24, .q 26, .p 27, .p 28, .p 29, .p 30]) pmayA_l3 = true := plan_cutL [.p 12, .p 13, .p 14, .p 15] _ _ _ pmayA_s3 (by rw [pmayA_a3]; exact pmayA_k4)
theorem pmayA_k2 : planOK pmayA_ops pmayA_w pmayA_f false (PTree.of [.p 8, .p 9, .p 10, .q 11, .p 12, .p 13, .p 14, .p 15, .p 16, .p 17, .p 18, .p 20, .p 21, .p 25, .q 19, .p 22, .p 23, .q 24, .q 26, .p 27, .p 28, .p 29, .p 30]) pmayA_l2 = true := plan_cutL [.p 8, .p 9, .p 10, .q 11] _ _ _ pmayA_s2 (by rw [pmayA_a2]; exact pmayA_k3)
theorem pmayA_k1 : planOK pmayA_ops pmayA_w pmayA_f false (PTree.of [.q 3, .q 5, .e 6, .e 7, .p 8, .p 9, .p 10, .q 11, .p 12, .p 13, .p 14, .p 15, .p 16, .p 17, .p 18, .p 20, .p 21, .p 25, .q 19, .p 22, .p 23, .q 24, .q 26, .p 27, .p 28, .p 29, .p 30]) pmayA_l1 = true := plan_cutL [.q 3, .q 5, .e 6, .e 7] _ _ _ pmayA_s1 (by rw [pmayA_a1]; exact pmayA_k2)
theorem pmayA_k0 : planOK pmayA_ops pmayA_w pmayA_f false (PTree.of [.p 0, .p 1, .p 2, .p 4, .q 3, .q 5, .e 6, .e 7, .p 8, .p 9, .p 10, .q 11, .p 12, .p 13, .p 14, .p 15, .p 16, .p 17, .p 18, .p 20, .p 21, .p 25, .q 19, .p 22, .p 23, .q 24, .q 26, .p 27, .p 28, .p 29, .p 30]) pmayA_l0 = true := plan_cutL [.p 0, .p 1, .p 2, .p 4] _ _ _ pmayA_s0 (by rw [pmayA_a0]; exact pmayA_k1)
theorem pmayA_ok (ops : Array Oper) (h : opsOf Tryd.f13 5 = some ops) : planned ops (PTree.of pmayA) = true := by
  have e : ops = pmayA_ops := by unfold pmayA_ops; rw [h]
  subst e
  unfold planned
  rw [show effs (PTree.of pmayA) = pmayA_w from rfl, show lates (PTree.of pmayA) = pmayA_f from rfl, show Array.replicate pmayA_ops.size false = pmayA_l0 by kernel_rfl, pmayA_k0, show Region.noSelect pmayA_ops = true by kernel_rfl, show Nat.beq (PTree.of pmayA).len pmayA_ops.size = true by kernel_rfl]
  rfl
end Go.Vx
set_option maxRecDepth 1000000
namespace Go.Vx
open Go Go.Proofs

abbrev pmayB : List Tk := [.p 0, .p 1, .p 2, .p 3, .p 4, .p 5, .p 7, .p 8, .q 6, .q 9, .e 10, .e 11, .p 12, .p 13, .p 14, .p 15, .q 16, .p 17, .p 18, .p 19, .p 20, .q 21, .e 22, .p 23, .p 24, .p 25, .p 26, .p 27, .p 28, .p 30, .p 31, .p 35, .q 29, .p 32, .p 33, .q 34, .q 36, .e 37, .p 38, .p 39, .p 40]
noncomputable def pmayB_ops : Array Oper := match opsOf Tryd.f13 11 with
  | some o => o
  | none => #[]
def pmayB_w : List Nat := [10, 11, 22, 37]
def pmayB_f : List Nat := []
def pmayB_l0 : Array Bool := #[false, false, false, false, false, false, false, false, false, false, false, false, false, false, false, false, false, false, false, false, false, false, false, false, false, false, false, false, false, false, false, false, false, false, false, false, false, false, false, false, false]
theorem pmayB_s0 : stepsOKL pmayB_ops pmayB_w pmayB_f false [.p 0, .p 1, .p 2, .p 3] pmayB_l0 = true := by kernel_rfl
def pmayB_l1 : Array Bool := #[true, true, true, true, false, false, false, false, false, false, false, false, false, false, false, false, false, false, false, false, false, false, false, false, false, false, false, false, false, false, false, false, false, false, false, false, false, false, false, false, false]
theorem pmayB_a0 : listedBy [.p 0, .p 1, .p 2, .p 3] pmayB_l0 = pmayB_l1 := by kernel_rfl
theorem pmayB_s1 : stepsOKL pmayB_ops pmayB_w pmayB_f false [.p 4, .p 5, .p 7, .p 8] pmayB_l1 = true := by kernel_rfl
def pmayB_l2 : Array Bool := #[true, true, true, true, true, true, false, true, true, false, false, false, false, false, false, false, false, false, false, false, false, false, false, false, false, false, false, false, false, false, false, false, false, false, false, false, false, false, false, false, false]
theorem pmayB_a1 : listedBy [.p 4, .p 5, .p 7, .p 8] pmayB_l1 = pmayB_l2 := by kernel_rfl
theorem pmayB_s2 : stepsOKL pmayB_ops pmayB_w pmayB_f false [.q 6, .q 9, .e 10, .e 11] pmayB_l2 = true := by kernel_rfl
def pmayB_l3 : Array Bool := #[true, true, true, true, true, true, true, true, true, true, true, true, false, false, false, false, false, false, false, false, false, false, false, false, false, false, false, false, false, false, false, false, false, false, false, false, false, false, false, false, false]
theorem pmayB_a2 : listedBy [.q 6, .q 9, .e 10, .e 11] pmayB_l2 = pmayB_l3 := by kernel_rfl
theorem pmayB_s3 : stepsOKL pmayB_ops pmayB_w pmayB_f false [.p 12, .p 13, .p 14, .p 15] pmayB_l3 = true := by kernel_rfl
def pmayB_l4 : Array Bool := #[true, true, true, true, true, true, true, true, true, true, true, true, true, true, true, true, false, false, false, false, false, false, false, false, false, false, false, false, false, false, false, false, false, false, false, false, false, false, false, false, false]
theorem pmayB_a3 : listedBy [.p 12, .p 13, .p 14, .p 15] pmayB_l3 = pmayB_l4 := by kernel_rfl
theorem pmayB_s4 : stepsOKL pmayB_ops pmayB_w pmayB_f false [.q 16, .p 17, .p 18, .p 19] pmayB_l4 = true := by kernel_rfl
def pmayB_l5 : Array Bool := #[true, true, true, true, true, true, true, true, true, true, true, true, true, true, true, true, true, true, true, true, false, false, false, false, false, false, false, false, false, false, false, false, false, false, false, false, false, false, false, false, false]
theorem pmayB_a4 : listedBy [.q 16, .p 17, .p 18, .p 19] pmayB_l4 = pmayB_l5 := by kernel_rfl
theorem pmayB_s5 : stepsOKL pmayB_ops pmayB_w pmayB_f false [.p 20, .q 21, .e 22, .p 23] pmayB_l5 = true := by kernel_rfl
def pmayB_l6 : Array Bool := #[true, true, true, true, true, true, true, true, true, true, true, true, true, true, true, true, true, true, true, true, true, true, true, true, false, false, false, false, false, false, false, false, false, false, false, false, false, false, false, false, false]
theorem pmayB_a5 : listedBy [.p 20, .q 21, .e 22, .p 23] pmayB_l5 = pmayB_l6 := by kernel_rfl
theorem pmayB_s6 : stepsOKL pmayB_ops pmayB_w pmayB_f false [.p 24, .p 25, .p 26, .p 27] pmayB_l6 = true := by kernel_rfl
def pmayB_l7 : Array Bool := #[true, true, true, true, true, true, true, true, true, true, true, true, true, true, true, true, true, true, true, true, true, true, true, true, true, true, true, true, false, false, false, false, false, false, false, false, false, false, false, false, false]
theorem pmayB_a6 : listedBy [.p 24, .p 25, .p 26, .p 27] pmayB_l6 = pmayB_l7 := by kernel_rfl
theorem pmayB_s7 : stepsOKL pmayB_ops pmayB_w pmayB_f false [.p 28, .p 30, .p 31, .p 35] pmayB_l7 = true := by kernel_rfl
def pmayB_l8 : Array Bool := #[true, true, true, true, true, true, true, true, true, true, true, true, true, true, true, true, true, true, true, true, true, true, true, true, true, true, true, true, true, false, true, true, false, false, false, true, false, false, false, false, false]
theorem pmayB_a7 : listedBy [.p 28, .p 30, .p 31, .p 35] pmayB_l7 = pmayB_l8 := by kernel_rfl
theorem pmayB_s8 : stepsOKL pmayB_ops pmayB_w pmayB_f false [.q 29, .p 32, .p 33, .q 34] pmayB_l8 = true := by kernel_rfl
def pmayB_l9 : Array Bool := #[true, true, true, true, true, true, true, true, true, true, true, true, true, true, true, true, true, true, true, true, true, true, true, true, true, true, true, true, true, true, true, true, true, true, true, true, false, false, false, false, false]
theorem pmayB_a8 : listedBy [.q 29, .p 32, .p 33, .q 34] pmayB_l8 = pmayB_l9 := by kernel_rfl
theorem pmayB_s9 : stepsOKL pmayB_ops pmayB_w pmayB_f false [.q 36, .e 37, .p 38, .p 39] pmayB_l9 = true := by kernel_rfl
def pmayB_l10 : Array Bool := #[true, true, true, true, true, true, true, true, true, true, true, true, true, true, true, true, true, true, true, true, true, true, true, true, true, true, true, true, true, true, true, true, true, true, true, true, true, true, true, true, false]
theorem pmayB_a9 : listedBy [.q 36, .e 37, .p 38, .p 39] pmayB_l9 = pmayB_l10 := by kernel_rfl
theorem pmayB_s10 : stepsOKL pmayB_ops pmayB_w pmayB_f false [.p 40] pmayB_l10 = true := by kernel_rfl
def pmayB_l11 : Array Bool := #[true, true, true, true, true, true, true, true, true, true, true, true, true, true, true, true, true, true, true, true, true, true, true, true, true, true, true, true, true, true, true, true, true, true, true, true, true, true, true, true, true]
theorem pmayB_a10 : listedBy [.p 40] pmayB_l10 = pmayB_l11 := by kernel_rfl
theorem pmayB_k11 : planOK pmayB_ops pmayB_w pmayB_f false (PTree.of []) pmayB_l11 = true := by kernel_rfl
theorem pmayB_k10 : planOK pmayB_ops pmayB_w pmayB_f false (PTree.of [.p 40]) pmayB_l10 = true := plan_cutL [.p 40] _ _ _ pmayB_s10 (by rw [pmayB_a10]; exact pmayB_k11)
theorem pmayB_k9 : planOK pmayB_ops pmayB_w pmayB_f false (PTree.of [.q 36, .e 37, .p 38, .p 39, .p 40]) pmayB_l9 = true := plan_cutL [.q 36, .e 37, .p 38, .p 39] _ _ _ pmayB_s9 (by rw [pmayB_a9]; exact pmayB_k10)
theorem pmayB_k8 : planOK pmayB_ops pmayB_w pmayB_f false (PTree.of [.q 29, .p 32, .p 33, .q 34, .q 36, .e 37, .p 38, .p 39, .p 40]) pmayB_l8 = true := plan_cutL [.q 29, .p 32, .p 33, .q 34] _ _ _ pmayB_s8 (by rw [pmayB_a8]; exact pmayB_k9)
theorem pmayB_k7 : planOK pmayB_ops pmayB_w pmayB_f false (PTree.of [.p 28, .p 30, .p 31, .p 35, .q 29, .p 32, .p 33, .q 34, .q 36, .e 37, .p 38, .p 39, .p 40]) pmayB_l7 = true := plan_cutL [.p 28, .p 30, .p 31, .p 35] _ _ _ pmayB_s7 (by rw [pmayB_a7]; exact pmayB_k8)
theorem pmayB_k6 : planOK pmayB_ops pmayB_w pmayB_f false (PTree.of [.p 24, .p 25, .p 26, .p 27, .p 28, .p 30, .p 31, .p 35, .q 29, .p 32, .p 33, .q 34, .q 36, .e 37, .p 38, .p 39, .p 40]) pmayB_l6 = true := plan_cutL [.p 24, .p 25, .p 26, .p 27] _ _ _ pmayB_s6 (by rw [pmayB_a6]; exact pmayB_k7)
theorem pmayB_k5 : planOK pmayB_ops pmayB_w pmayB_f false (PTree.of [.p 20, .q 21, .e 22, .p 23, .p 24, .p 25, .p 26, .p 27, .p 28, .p 30, .p 31, .p 35, .q 29, .p 32, .p 33, .q 34, .q 36, .e 37, .p 38, .p 39, .p 40]) pmayB_l5 = true := plan_cutL [.p 20, .q 21, .e 22, .p 23] _ _ _ pmayB_s5 (by rw [pmayB_a5]; exact pmayB_k6)
theorem pmayB_k4 : planOK pmayB_ops pmayB_w pmayB_f false (PTree.of [.q 16, .p 17, .p 18, .p 19, .p 20, .q 21, .e 22, .p 23, .p 24, .p 25, .p 26, .p 27, .p 28, .p 30, .p 31, .p 35, .q 29, .p 32, .p 33, .q 34, .q 36, .e 37, .p 38, .p 39, .p 40]) pmayB_l4 = true := plan_cutL [.q 16, .p 17, .p 18, .p 19] _ _ _ pmayB_s4 (by rw [pmayB_a4]; exact pmayB_k5)
theorem pmayB_k3 : planOK pmayB_ops pmayB_w pmayB_f false (PTree.of [.p 12, .p 13, .p 14, .p 15, .q 16, .p 17, .p 18, .p 19, .p 20, .q 21, .e 22, .p 23, .p 24, .p 25, .p 26, .p 27, .p 28, .p 30, .p 31, .p 35, .q 29, .p 32, .p 33, .q 34, .q 36, .e 37, .p 38, .p 39, .p 40]) pmayB_l3 = true := plan_cutL [.p 12, .p 13, .p 14, .p 15] _ _ _ pmayB_s3 (by rw [pmayB_a3]; exact pmayB_k4)
theorem pmayB_k2 : planOK pmayB_ops pmayB_w pmayB_f false (PTree.of [.q 6, .q 9, .e 10, .e 11, .p 12, .p 13, .p 14, .p 15, .q 16, .p 17, .p 18, .p 19, .p 20, .q 21, .e 22, .p 23, .p 24, .p 25, .p 26, .p 27, .p 28, .p 30, .p 31, .p 35, .q 29, .p 32, .p 33, .q 34, .q 36, .e 37, .p 38, .p 39, .p 40]) pmayB_l2 = true := plan_cutL [.q 6, .q 9, .e 10, .e 11] _ _ _ pmayB_s2 (by rw [pmayB_a2]; exact pmayB_k3)
theorem pmayB_k1 : planOK pmayB_ops pmayB_w pmayB_f false (PTree.of [.p 4, .p 5, .p 7, .p 8, .q 6, .q 9, .e 10, .e 11, .p 12, .p 13, .p 14, .p 15, .q 16, .p 17, .p 18, .p 19, .p 20, .q 21, .e 22, .p 23, .p 24, .p 25, .p 26, .p 27, .p 28, .p 30, .p 31, .p 35, .q 29, .p 32, .p 33, .q 34, .q 36, .e 37, .p 38, .p 39, .p 40]) pmayB_l1 = true := plan_cutL [.p 4, .p 5, .p 7, .p 8] _ _ _ pmayB_s1 (by rw [pmayB_a1]; exact pmayB_k2)
theorem pmayB_k0 : planOK pmayB_ops pmayB_w pmayB_f false (PTree.of [.p 0, .p 1, .p 2, .p 3, .p 4, .p 5, .p 7, .p 8, .q 6, .q 9, .e 10, .e 11, .p 12, .p 13, .p 14, .p 15, .q 16, .p 17, .p 18, .p 19, .p 20, .q 21, .e 22, .p 23, .p 24, .p 25, .p 26, .p 27, .p 28, .p 30, .p 31, .p 35, .q 29, .p 32, .p 33, .q 34, .q 36, .e 37, .p 38, .p 39, .p 40]) pmayB_l0 = true := plan_cutL [.p 0, .p 1, .p 2, .p 3] _ _ _ pmayB_s0 (by rw [pmayB_a0]; exact pmayB_k1)
theorem pmayB_ok (ops : Array Oper) (h : opsOf Tryd.f13 11 = some ops) : planned ops (PTree.of pmayB) = true := by
  have e : ops = pmayB_ops := by unfold pmayB_ops; rw [h]
  subst e
  unfold planned
  rw [show effs (PTree.of pmayB) = pmayB_w from rfl, show lates (PTree.of pmayB) = pmayB_f from rfl, show Array.replicate pmayB_ops.size false = pmayB_l0 by kernel_rfl, pmayB_k0, show Region.noSelect pmayB_ops = true by kernel_rfl, show Nat.beq (PTree.of pmayB).len pmayB_ops.size = true by kernel_rfl]
  rfl
end Go.Vx
set_option linter.unusedSectionVars false
set_option maxRecDepth 100000
set_option linter.unusedVariables false
set_option linter.unusedSimpArgs false
namespace Go.Vx
open Go Go.Proofs
variable [Gl]

/-- A block behind those ahead. -/
def okB (ok : Bool) (i : Nat) (p b : Pl) : Bool := ok && (cn b.1 && cn b.2) && decide (b.1 < 64) && (decide (i = 0) || decide (p.1 < b.1))
def okBs : List Pl → Nat → Bool
  | _, 0 => true
  | A, i + 1 => okB (okBs A i) i (A.getD (i - 1) (0, 0)) (A.getD i (0, 0))
def okS (A : List Pl) (ok : Bool) (i : Nat) (p s : Slot) : Bool := ok && anyF (fun x => decide (x.1 = s.pl.1)) A && (cn s.key && cn s.pl.2) && decide (s.pl.2 < 64) && okMe s.me && (decide (i = 0) || (decide (p.pl.1 < s.pl.1) || (decide (p.pl.1 = s.pl.1) && decide (p.pl.2 < s.pl.2))))
def okSs (A : List Pl) (ok : Bool) (B : List Slot) : Nat → Bool
  | 0 => ok
  | i + 1 => okS A (okSs A ok B i) i (B.getD (i - 1) slot0) (B.getD i slot0)
def okH (h : Hd) : Bool := cn h.1 && cn h.2.1 && cn h.2.2.1 && cn h.2.2.2
/-- May a point be. -/
@[irreducible] def okP (h : Hd) (A : List Pl) (B : List Slot) : Bool := okSs A (okH h && okBs A A.length) B B.length
def Mb (h : Hd) (A : List Pl) : Inv' C0 := ⟨3, Nat × Bool, fun x => [(22, .int .i64 (x.1 : Int)), (3, .bool (.tm x.2))], fun _ m => m, fun x => x.1 ≤ A.length ∧ x.2 = (okH h && okBs A x.1), fun x => A.length - x.1⟩
def Ms (h : Hd) (A : List Pl) (B : List Slot) : Inv' C0 := ⟨8, Nat × Bool, fun x => [(61, .int .i64 (x.1 : Int)), (3, .bool (.tm x.2))], fun _ m => m, fun x => x.1 ≤ B.length ∧ x.2 = okSs A (okH h && okBs A A.length) B x.1, fun x => B.length - x.1⟩
theorem pred_nat {v : Nat} : ((v : Int) - 1).toNat + 0 = v - 1 := by omega
theorem int_zero {v : Nat} : decide ((v : Int) = 0) = decide (v = 0) := by rw [decide_eq_decide]; omega
theorem alln2 (a b : Int) : alln [a, b] = (cn a && cn b) := by unfold alln; simp
theorem alln4 (a b c d : Int) : alln [a, b, c, d] = (cn a && cn b && cn c && cn d) := by unfold alln; simp [Bool.and_assoc]
set_option maxHeartbeats 8000000 in
theorem pmay_ok (h : Hd) (o : Bool) (b q : Nat) (l : List Pl) (n c : Nat) (o2 : Bool) (b2 q2 : Nat) (l2 : List Slot) (n2 c2 : Nat)
    (h1 : Sq.ok (o, b, q, l, n, c)) (h2 : Sq.ok (o2, b2, q2, l2, n2, c2)) (hn : n ≤ 1000000) (hn2 : n2 ≤ 1000000) :
    Tells (C := C0) Tryd.prog (.fn 13) [⟨b, q, 2, false, some o, .rows 87 l⟩, ⟨b2, q2, 9, false, some o2, .rows 88 l2⟩] [ptv h (.sl 0 0 n c) (.sl 1 0 n2 c2)] (.bool (.tm (okP h (l.take n) (l2.take n2)))) := by
  have hnl : n ≤ l.length := h1.2.1
  have hnl2 : n2 ≤ l2.length := h2.2.1
  refine loc_pc (P := Tryd.prog) (E := ⟨[], [pcNumb, pcHasb, pcMay, pcAhead], 112, [(5, [], pmayA),
    (11, [], pmayB)], [], []⟩) (L := [Mb h (l.take n), Ms h (l.take n) (l2.take n2)]) mix Tryd.func13 rfl (by kernel_rfl) (by kernel_rfl) rfl rfl ?_
  ((conv => (arg 1; reduce)); with_reducible repeat' (first | exact Tr.yes_h | refine Tr.and_h ?_ ?_ | refine Tr.imp_h fun _ => ?_ | refine Tr.all_h fun _ => ?_ | refine Tr.lf_h ?_))
  all_goals try exact pmayA_ok _ (by kernel_rfl)
  all_goals try exact pmayB_ok _ (by kernel_rfl)
  all_goals try (first | (first | first | (show Region.lexB _ _ = true; kernel_rfl) | (show planned _ _ = true; kernel_rfl) | exact rfl | exact True.intro | ((try dsimp only [imp, C0, cG, cInt, cPl, cSlot, cPg, rwCodec, cRaw] at *); (try refine inR64 ?_ ?_) <;> (try simp only [List.length_set, List.length_append, List.length_take, List.length_drop]) <;> omega)) | ((try dsimp only [imp, C0, cG, cInt, cPl, cSlot, cPg, rwCodec, cRaw, Mb] at *); (try simp only [decide_eq_true_eq, decide_eq_false_iff_not, Bool.and_eq_true, Bool.or_eq_true, Bool.or_eq_false_iff, Bool.and_eq_false_iff, Bool.not_eq_true', Bool.not_eq_false', SB.val, List.length_append, List.length_cons, List.length_nil, List.length_take, List.length_drop] at *); (first | omega | exact inR64 (by omega) (by omega) | (refine inR64 ?_ ?_ <;> omega))))
  · exact ⟨Nat.le_refl _, by decide, fun h => Bool.noConfusion h⟩
  · refine Stands.one (0, okH h) ⟨⟨Nat.zero_le _, by simp [okBs]⟩, ?_⟩
    ((conv => (arg 1; reduce)); with_reducible repeat' (first | exact Tr.yes_h | refine Tr.and_h ?_ ?_ | refine Tr.imp_h fun _ => ?_ | refine Tr.all_h fun _ => ?_ | refine Tr.lf_h ?_))
    all_goals try (first | first | (show Region.lexB _ _ = true; kernel_rfl) | (show planned _ _ = true; kernel_rfl) | exact rfl | exact True.intro | ((try dsimp only [imp, C0, cG, cInt, cPl, cSlot, cPg, rwCodec, cRaw] at *); (try refine inR64 ?_ ?_) <;> (try simp only [List.length_set, List.length_append, List.length_take, List.length_drop]) <;> omega))
    exact alln4 _ _ _ _
  · rename_i b0 b1 v hv h3
    have hq := hv
    obtain ⟨v, k⟩ := v
    obtain ⟨e1, e2⟩ : v ≤ (l.take n).length ∧ k = (okH h && okBs (l.take n) v) := hq
    have h3 : v < n := Int.ofNat_lt.1 (of_decide_eq_true h3)
    exact on_of h1.2.2 (Nat.lt_of_le_of_lt (Nat.zero_le _) h3)
  · rename_i b0 b1 v hv h3
    have hq := hv
    obtain ⟨v, k⟩ := v
    obtain ⟨e1, e2⟩ : v ≤ (l.take n).length ∧ k = (okH h && okBs (l.take n) v) := hq
    have h3 : v < n := Int.ofNat_lt.1 (of_decide_eq_true h3)
    exact on_of h1.2.2 (Nat.lt_of_le_of_lt (Nat.zero_le _) h3)
  · exact ⟨Nat.le_refl _, by decide, fun h => Bool.noConfusion h⟩
  · rename_i b0 b1 v hv h3 b2 hk b3 hg h5
    have hq := hv
    obtain ⟨v, k⟩ := v
    obtain ⟨e1, e2⟩ : v ≤ (l.take n).length ∧ k = (okH h && okBs (l.take n) v) := hq
    have h3 : v < n := Int.ofNat_lt.1 (of_decide_eq_true h3)
    exact on_of h1.2.2 (Nat.lt_of_le_of_lt (Nat.zero_le _) h3)
  · rename_i b0 b1 v hv h3 b2 hk b3 hg h5
    have hq := hv
    obtain ⟨v, k⟩ := v
    obtain ⟨e1, e2⟩ : v ≤ (l.take n).length ∧ k = (okH h && okBs (l.take n) v) := hq
    have h3 : v < n := Int.ofNat_lt.1 (of_decide_eq_true h3)
    exact on_of h1.2.2 (Nat.lt_of_le_of_lt (Nat.zero_le _) h3)
  · rename_i b0 b1 v hv h3 b2 hk b3
    have hq := hv
    obtain ⟨v, k⟩ := v
    obtain ⟨e1, e2⟩ : v ≤ (l.take n).length ∧ k = (okH h && okBs (l.take n) v) := hq
    have h3 : v < n := Int.ofNat_lt.1 (of_decide_eq_true h3)
    refine Stands.one (v + 1, okB k v (l.getD (v - 1) (0, 0)) (l.getD v (0, 0))) ⟨⟨by rw [tk_len hnl]; omega, ?_⟩, ?_, ?_⟩
    · show okB _ _ _ _ = (okH h && okBs (l.take n) (v + 1))
      rw [okBs, tk_at (by omega), tk_at (by omega), e2]
      unfold okB
      simp only [Bool.and_assoc]
    · show (l.take n).length - (v + 1) < (l.take n).length - v
      rw [tk_len hnl]; omega
    ((conv => (arg 1; reduce)); with_reducible repeat' (first | exact Tr.yes_h | refine Tr.and_h ?_ ?_ | refine Tr.imp_h fun _ => ?_ | refine Tr.all_h fun _ => ?_ | refine Tr.lf_h ?_))
    all_goals try (first | first | (show Region.lexB _ _ = true; kernel_rfl) | (show planned _ _ = true; kernel_rfl) | exact rfl | exact True.intro | ((try dsimp only [imp, C0, cG, cInt, cPl, cSlot, cPg, rwCodec, cRaw] at *); (try refine inR64 ?_ ?_) <;> (try simp only [List.length_set, List.length_append, List.length_take, List.length_drop]) <;> omega))
    have hk : k = true := hk
    show (alln [(l.getD v (0, 0)).1, (l.getD v (0, 0)).2] && decide ((l.getD v (0, 0)).1 < 64) && (decide ((v : Int) = 0) || decide ((l.getD (((v : Int) - 1).toNat + 0) (0, 0)).1 < (l.getD v (0, 0)).1))) = okB k v _ _
    rw [alln2, hk, pred_nat, int_zero]
    unfold okB
    simp only [Bool.true_and]
  · rename_i b0 b1 v hv h3 b2 hk
    have hq := hv
    obtain ⟨v, k⟩ := v
    obtain ⟨e1, e2⟩ : v ≤ (l.take n).length ∧ k = (okH h && okBs (l.take n) v) := hq
    have h3 : v < n := Int.ofNat_lt.1 (of_decide_eq_true h3)
    refine Stands.one (v + 1, okB k v (l.getD (v - 1) (0, 0)) (l.getD v (0, 0))) ⟨⟨by rw [tk_len hnl]; omega, ?_⟩, ?_, ?_⟩
    · show okB _ _ _ _ = (okH h && okBs (l.take n) (v + 1))
      rw [okBs, tk_at (by omega), tk_at (by omega), e2]
      unfold okB
      simp only [Bool.and_assoc]
    · show (l.take n).length - (v + 1) < (l.take n).length - v
      rw [tk_len hnl]; omega
    ((conv => (arg 1; reduce)); with_reducible repeat' (first | exact Tr.yes_h | refine Tr.and_h ?_ ?_ | refine Tr.imp_h fun _ => ?_ | refine Tr.all_h fun _ => ?_ | refine Tr.lf_h ?_))
    all_goals try (first | first | (show Region.lexB _ _ = true; kernel_rfl) | (show planned _ _ = true; kernel_rfl) | exact rfl | exact True.intro | ((try dsimp only [imp, C0, cG, cInt, cPl, cSlot, cPg, rwCodec, cRaw] at *); (try refine inR64 ?_ ?_) <;> (try simp only [List.length_set, List.length_append, List.length_take, List.length_drop]) <;> omega))
    have hk : k = false := hk
    show false = okB k v _ _
    rw [hk]; unfold okB; rfl
  · rename_i b0 b1 v hv h3
    obtain ⟨v, k⟩ := v
    obtain ⟨e1, e2⟩ : v ≤ (l.take n).length ∧ k = (okH h && okBs (l.take n) v) := hv
    have h3 : ¬ v < n := fun h => of_decide_eq_false h3 (Int.ofNat_lt.2 h)
    obtain rfl : v = n := by rw [tk_len hnl] at e1; omega
    refine Stands.one (0, k) ⟨⟨Nat.zero_le _, by rw [tk_len hnl]; exact e2⟩, ?_⟩
    ((conv => (arg 1; reduce)); with_reducible repeat' (first | exact Tr.yes_h | refine Tr.and_h ?_ ?_ | refine Tr.imp_h fun _ => ?_ | refine Tr.all_h fun _ => ?_ | refine Tr.lf_h ?_))
    all_goals (first | first | (show Region.lexB _ _ = true; kernel_rfl) | (show planned _ _ = true; kernel_rfl) | exact rfl | exact True.intro | ((try dsimp only [imp, C0, cG, cInt, cPl, cSlot, cPg, rwCodec, cRaw] at *); (try refine inR64 ?_ ?_) <;> (try simp only [List.length_set, List.length_append, List.length_take, List.length_drop]) <;> omega))
  · rename_i b0 b1 v hv h3 w hw h4
    have hq := hw
    obtain ⟨w, k⟩ := w
    obtain ⟨e1, e2⟩ : w ≤ (l2.take n2).length ∧ k = okSs (l.take n) (okH h && okBs (l.take n) (l.take n).length) (l2.take n2) w := hq
    have h4 : w < n2 := Int.ofNat_lt.1 (of_decide_eq_true h4)
    exact on_of h2.2.2 (Nat.lt_of_le_of_lt (Nat.zero_le _) h4)
  · rename_i b0 b1 v hv h3 w hw h4
    have hq := hw
    obtain ⟨w, k⟩ := w
    obtain ⟨e1, e2⟩ : w ≤ (l2.take n2).length ∧ k = okSs (l.take n) (okH h && okBs (l.take n) (l.take n).length) (l2.take n2) w := hq
    have h4 : w < n2 := Int.ofNat_lt.1 (of_decide_eq_true h4)
    exact on_of h2.2.2 (Nat.lt_of_le_of_lt (Nat.zero_le _) h4)
  · rename_i b0 b1 v hv h3 w hw h4 b2
    have hq := hw
    obtain ⟨w, k⟩ := w
    obtain ⟨e1, e2⟩ : w ≤ (l2.take n2).length ∧ k = okSs (l.take n) (okH h && okBs (l.take n) (l.take n).length) (l2.take n2) w := hq
    have h4 : w < n2 := Int.ofNat_lt.1 (of_decide_eq_true h4)
    exact ⟨by show 0 + n ≤ l.length; omega, by show n < _; omega, h1.2.2⟩
  · exact ⟨Nat.le_refl _, by decide, fun h => Bool.noConfusion h⟩
  · rename_i b0 b1 v hv h3 w hw h4 b2 hk b3 hg h5
    have hq := hw
    obtain ⟨w, k⟩ := w
    obtain ⟨e1, e2⟩ : w ≤ (l2.take n2).length ∧ k = okSs (l.take n) (okH h && okBs (l.take n) (l.take n).length) (l2.take n2) w := hq
    have h4 : w < n2 := Int.ofNat_lt.1 (of_decide_eq_true h4)
    exact on_of h2.2.2 (Nat.lt_of_le_of_lt (Nat.zero_le _) h4)
  · rename_i b0 b1 v hv h3 w hw h4 b2 hk b3 hg h5
    have hq := hw
    obtain ⟨w, k⟩ := w
    obtain ⟨e1, e2⟩ : w ≤ (l2.take n2).length ∧ k = okSs (l.take n) (okH h && okBs (l.take n) (l.take n).length) (l2.take n2) w := hq
    have h4 : w < n2 := Int.ofNat_lt.1 (of_decide_eq_true h4)
    exact on_of h2.2.2 (Nat.lt_of_le_of_lt (Nat.zero_le _) h4)
  · rename_i b0 b1 v hv h3 w hw h4 b2 hk b3
    have hq := hw
    obtain ⟨w, k⟩ := w
    obtain ⟨e1, e2⟩ : w ≤ (l2.take n2).length ∧ k = okSs (l.take n) (okH h && okBs (l.take n) (l.take n).length) (l2.take n2) w := hq
    have h4 : w < n2 := Int.ofNat_lt.1 (of_decide_eq_true h4)
    refine Stands.one (w + 1, okS (l.take n) k w (l2.getD (w - 1) slot0) (l2.getD w slot0)) ⟨⟨by rw [tk_len hnl2]; omega, ?_⟩, ?_, ?_⟩
    · show okS _ _ _ _ _ = okSs _ _ _ (w + 1)
      rw [okSs, tk_at (by omega), tk_at (by omega), e2]
    · show (l2.take n2).length - (w + 1) < (l2.take n2).length - w
      rw [tk_len hnl2]; omega
    ((conv => (arg 1; reduce)); with_reducible repeat' (first | exact Tr.yes_h | refine Tr.and_h ?_ ?_ | refine Tr.imp_h fun _ => ?_ | refine Tr.all_h fun _ => ?_ | refine Tr.lf_h ?_))
    all_goals try (first | first | (show Region.lexB _ _ = true; kernel_rfl) | (show planned _ _ = true; kernel_rfl) | exact rfl | exact True.intro | ((try dsimp only [imp, C0, cG, cInt, cPl, cSlot, cPg, rwCodec, cRaw] at *); (try refine inR64 ?_ ?_) <;> (try simp only [List.length_set, List.length_append, List.length_take, List.length_drop]) <;> omega))
    have hk : (k && anyF (fun x => decide (x.1 = (l2.getD w slot0).pl.1)) (l.take n)) = true := hk
    show (alln [(l2.getD w slot0).key, (l2.getD w slot0).pl.2] && decide ((l2.getD w slot0).pl.2 < 64) && okMe (l2.getD w slot0).me && (decide ((w : Int) = 0) ||
      (decide ((l2.getD (((w : Int) - 1).toNat + 0) slot0).pl.1 < (l2.getD w slot0).pl.1) || (decide ((l2.getD (((w : Int) - 1).toNat + 0) slot0).pl.1 = (l2.getD w slot0).pl.1) && decide ((l2.getD (((w : Int) - 1).toNat + 0) slot0).pl.2 < (l2.getD w slot0).pl.2))))) = okS (l.take n) k w _ _
    rw [alln2, pred_nat, int_zero]
    unfold okS
    rw [hk]
    simp only [Bool.true_and]
  · rename_i b0 b1 v hv h3 w hw h4 b2 hk
    have hq := hw
    obtain ⟨w, k⟩ := w
    obtain ⟨e1, e2⟩ : w ≤ (l2.take n2).length ∧ k = okSs (l.take n) (okH h && okBs (l.take n) (l.take n).length) (l2.take n2) w := hq
    have h4 : w < n2 := Int.ofNat_lt.1 (of_decide_eq_true h4)
    refine Stands.one (w + 1, okS (l.take n) k w (l2.getD (w - 1) slot0) (l2.getD w slot0)) ⟨⟨by rw [tk_len hnl2]; omega, ?_⟩, ?_, ?_⟩
    · show okS _ _ _ _ _ = okSs _ _ _ (w + 1)
      rw [okSs, tk_at (by omega), tk_at (by omega), e2]
    · show (l2.take n2).length - (w + 1) < (l2.take n2).length - w
      rw [tk_len hnl2]; omega
    ((conv => (arg 1; reduce)); with_reducible repeat' (first | exact Tr.yes_h | refine Tr.and_h ?_ ?_ | refine Tr.imp_h fun _ => ?_ | refine Tr.all_h fun _ => ?_ | refine Tr.lf_h ?_))
    all_goals try (first | first | (show Region.lexB _ _ = true; kernel_rfl) | (show planned _ _ = true; kernel_rfl) | exact rfl | exact True.intro | ((try dsimp only [imp, C0, cG, cInt, cPl, cSlot, cPg, rwCodec, cRaw] at *); (try refine inR64 ?_ ?_) <;> (try simp only [List.length_set, List.length_append, List.length_take, List.length_drop]) <;> omega))
    have hk : (k && anyF (fun x => decide (x.1 = (l2.getD w slot0).pl.1)) (l.take n)) = false := hk
    show false = okS (l.take n) k w _ _
    unfold okS
    rw [hk]
    rfl
  · rename_i b0 b1 v hv h3 w hw h4
    obtain ⟨w, k⟩ := w
    obtain ⟨e1, e2⟩ : w ≤ (l2.take n2).length ∧ k = okSs (l.take n) (okH h && okBs (l.take n) (l.take n).length) (l2.take n2) w := hw
    have h4 : ¬ w < n2 := fun h => of_decide_eq_false h4 (Int.ofNat_lt.2 h)
    obtain rfl : w = n2 := by rw [tk_len hnl2] at e1; omega
    show k = okP _ _ _
    unfold okP
    rw [e2, tk_len hnl2]
def pcPmay : Pc Tryd.prog C0 where
  tg := .fn 13
  X := Hd × Sq Pl × Sq Slot
  args := fun (h, (o, b, q, l, n, c), (o2, b2, q2, l2, n2, c2)) => [ptv h (.sl 0 0 n c) (.sl 1 0 n2 c2)]
  mem := fun (h, (o, b, q, l, n, c), (o2, b2, q2, l2, n2, c2)) => [⟨b, q, 2, false, some o, .rows 87 l⟩, ⟨b2, q2, 9, false, some o2, .rows 88 l2⟩]
  pre := fun (h, (o, b, q, l, n, c), (o2, b2, q2, l2, n2, c2)) => Sq.ok (o, b, q, l, n, c) ∧ Sq.ok (o2, b2, q2, l2, n2, c2) ∧ n ≤ 1000000 ∧ n2 ≤ 1000000
  res := fun (h, (o, b, q, l, n, c), (o2, b2, q2, l2, n2, c2)) => .bool (.tm (okP h (l.take n) (l2.take n2)))
  mat vs m := match vs with
    | [.agg [.int _ h1, .int _ h2, .int _ h3, .int _ h4, sa, sb]] => match sa, sb with
      | .sl a 0 n c, .sl a' 0 n' c' => match nth m a, nth m a' with
        | ⟨b, q, _, _, g, .rows 87 l⟩, ⟨b', q', _, _, g', .rows 88 l'⟩ => some (((h1, h2, h3, h4), (onOf g, b, q, l, n, c), (onOf g', b', q', l', n', c')), [a, a'])
        | _, _ => none
      | .nils, .nils => some (((h1, h2, h3, h4), (false, 0, 0, [], 0, 0), (false, 0, 0, [], 0, 0)), [m.length, m.length + 1])
      | _, _ => none
    | _ => none
  ok := fun (h, (o, b, q, l, n, c), (o2, b2, q2, l2, n2, c2)) x => pmay_ok h o b q l n c o2 b2 q2 l2 n2 c2 x.1 x.2.1 x.2.2.1 x.2.2.2
end Go.Vx
set_option linter.unusedSectionVars false
set_option maxRecDepth 100000
set_option linter.unusedVariables false
set_option linter.unusedSimpArgs false
namespace Go.Vx
open Go Go.Proofs
variable [Gl]

/-- An error that is laid. -/
abbrev eV (g : Nat) : SV := .ifc 195 (.val (.pointer (some (Gl.A g))))
def slotN (s : Slot) : List Int := [s.key, s.pl.1, s.pl.2, s.me.kind, s.me.key, s.me.seq, s.me.stamp, s.me.batch, s.me.floor]
/-- A point's numbers. -/
@[irreducible] def nums (h : Hd) (A : List Pl) (B : List Slot) : List Int := [h.1, h.2.1, h.2.2.1, h.2.2.2, (A.length : Int)] ++ A.flatMap lst ++ [(B.length : Int)] ++ B.flatMap slotN
@[irreducible] def bytesP (h : Hd) (A : List Pl) (B : List Slot) : List Int := fours (nums h A B) ++ four (crc (fours (nums h A B)))
abbrev Wx := Nat × Nat × Bool × List Int × Nat
/-- What was written: the numbers N. -/
def Wr (N : List Int) (y : Wx) (k : Nat) : Prop := Gr (fours N) y.2.2.2.1 k y.2.2.2.2 ∧ (y.2.2.1 = false → k = 0 ∧ y.2.2.2.2 = 0)
theorem Wr.lay {N M : List Int} {y0 y : Wx} {k m : Nat} (h : Wr N y0 k) (hy : Gr (y0.2.2.2.1.take k ++ fours M) y.2.2.2.1 (k + 4 * m) y.2.2.2.2 ∧ (y.2.2.1 = false → k + 4 * m = 0 ∧ y.2.2.2.2 = 0)) : Wr (N ++ M) y (k + 4 * m) := by
  refine ⟨?_, hy.2⟩
  rw [fours_app, ← h.1.2.1]
  exact hy.1
theorem Wr.pre {N : List Int} {y : Wx} {k n len : Nat} (h : Wr N y k) (hn : 0 + n ≤ len) (hn2 : n < 35184372088700) (hk : k + 4 * n < 140737488355000) :
    0 + n ≤ len ∧ n < 35184372088700 ∧ k ≤ y.2.2.2.2 ∧ y.2.2.2.2 ≤ y.2.2.2.1.length ∧ k + 4 * n < 140737488355000 ∧ (y.2.2.1 = false → k = 0 ∧ y.2.2.2.2 = 0) :=
  ⟨hn, hn2, h.1.2.2.1, h.1.2.2.2, hk, h.2⟩
abbrev hdN (h : Hd) (n : Nat) : List Int := [h.1, h.2.1, h.2.2.1, h.2.2.2, (n : Int)]
def By6 (h : Hd) (A : List Pl) : Inv' C0 := ⟨6, Nat × Wx, fun x => [(34, .int .i64 (x.1 : Int))], fun x m => match m with
  | [a0, a1, bx, w, i, d, y] => [a0, a1, bx, ⟨w.block, w.base, 1, true, none, .one [.sl 6 0 (20 + 8 * x.1) x.2.2.2.2.2]⟩, i, d, ⟨x.2.1, x.2.2.1, 1, true, some x.2.2.2.1, .rows 5 x.2.2.2.2.1⟩]
  | m => m, fun x => x.1 ≤ A.length ∧ Wr (hdN h A.length ++ (A.take x.1).flatMap lst) x.2 (20 + 8 * x.1), fun x => A.length - x.1⟩
def By12 (h : Hd) (A : List Pl) (B : List Slot) : Inv' C0 := ⟨12, Nat × Wx, fun x => [(57, .int .i64 (x.1 : Int))], fun x m => match m with
  | [a0, a1, bx, w, i, d, e, i2, y] => [a0, a1, bx, ⟨w.block, w.base, 1, true, none, .one [.sl 8 0 (24 + 8 * A.length + 36 * x.1) x.2.2.2.2.2]⟩, i, d, e, i2, ⟨x.2.1, x.2.2.1, 1, true, some x.2.2.2.1, .rows 5 x.2.2.2.2.1⟩]
  | m => m, fun x => x.1 ≤ B.length ∧ Wr (hdN h A.length ++ A.flatMap lst ++ [(B.length : Int)] ++ (B.take x.1).flatMap slotN) x.2 (24 + 8 * A.length + 36 * x.1), fun x => B.length - x.1⟩
set_option maxHeartbeats 8000000 in
theorem bytes_ok (h : Hd) (o : Bool) (b q : Nat) (l : List Pl) (n c : Nat) (o2 : Bool) (b2 q2 : Nat) (l2 : List Slot) (n2 c2 : Nat)
    (h1 : Sq.ok (o, b, q, l, n, c)) (h2 : Sq.ok (o2, b2, q2, l2, n2, c2)) (hn : n ≤ 1000000) (hn2 : n2 ≤ 1000000) :
    Does (C := C0) Tryd.prog (.fn 10) [⟨b, q, 2, false, some o, .rows 87 l⟩, ⟨b2, q2, 9, false, some o2, .rows 88 l2⟩] [ptv h (.sl 0 0 n c) (.sl 1 0 n2 c2)]
    [⟨Unit, fun _ => okP h (l.take n) (l2.take n2) = false, fun _ => .tup [.nils, eV 0], fun _ => [⟨b, q, 2, false, some o, .rows 87 l⟩, ⟨b2, q2, 9, false, some o2, .rows 88 l2⟩]⟩,
     ⟨Nat × Nat × List Int × Nat, fun y => okP h (l.take n) (l2.take n2) = true ∧ Gr (bytesP h (l.take n) (l2.take n2)) y.2.2.1 (bytesP h (l.take n) (l2.take n2)).length y.2.2.2, fun y => .tup [.sl 2 0 (bytesP h (l.take n) (l2.take n2)).length y.2.2.2, .nili],
      fun y => [⟨b, q, 2, false, some o, .rows 87 l⟩, ⟨b2, q2, 9, false, some o2, .rows 88 l2⟩, ⟨y.1, y.2.1, 1, true, none, .rows 5 y.2.2.1⟩]⟩] := by
  have hnl : n ≤ l.length := h1.2.1
  have hnl2 : n2 ≤ l2.length := h2.2.1
  refine loc_fn (P := Tryd.prog) (E := ⟨[fcLay], [pcPmay, pcCrc], 101, [(2, [], [.p 1, .q 0, .p 2])], [], []⟩) (L := [By6 h (l.take n), By12 h (l.take n) (l2.take n2)]) mix Tryd.func10 rfl (by kernel_rfl) (by kernel_rfl) rfl rfl ?_
  ((conv => (arg 1; reduce)); with_reducible repeat' (first | exact Tr.yes_h | refine Tr.and_h ?_ ?_ | refine Tr.imp_h fun _ => ?_ | refine Tr.all_h fun _ => ?_ | refine Tr.lf_h ?_))
  all_goals try (first | first | (show Region.lexB _ _ = true; kernel_rfl) | (show planned _ _ = true; kernel_rfl) | exact rfl | exact True.intro | ((try dsimp only [imp, C0, cG, cInt, cPl, cSlot, cPg, rwCodec, cRaw] at *); (try refine inR64 ?_ ?_) <;> (try simp only [List.length_set, List.length_append, List.length_take, List.length_drop]) <;> omega))
  · exact ⟨h1, h2, hn, hn2⟩
  · rename_i b0 h0
    have h0 : (!okP h (l.take n) (l2.take n2)) = true := h0
    refine Ends.one () (show okP h (l.take n) (l2.take n2) = false by simpa using h0) ?_
    ((conv => (arg 1; reduce)); with_reducible repeat' (first | exact Tr.yes_h | refine Tr.and_h ?_ ?_ | refine Tr.imp_h fun _ => ?_ | refine Tr.all_h fun _ => ?_ | refine Tr.lf_h ?_))
    all_goals (first | first | (show Region.lexB _ _ = true; kernel_rfl) | (show planned _ _ = true; kernel_rfl) | exact rfl | exact True.intro | ((try dsimp only [imp, C0, cG, cInt, cPl, cSlot, cPg, rwCodec, cRaw] at *); (try refine inR64 ?_ ?_) <;> (try simp only [List.length_set, List.length_append, List.length_take, List.length_drop]) <;> omega))
  · exact ⟨Nat.le_refl 5, by decide, Nat.le_refl 0, Nat.le_refl 0, by decide, fun _ => ⟨rfl, rfl⟩⟩
  · rename_i b0 h0 bw bi y hy
    refine Stands.one (0, y) ⟨⟨Nat.zero_le _, ?_⟩, ?_⟩
    · have e := Wr.lay (N := []) (y0 := (0, 0, false, [], 0)) (k := 0) ⟨⟨by rw [fours_nil]; rfl, by rw [fours_nil]; rfl, Nat.le_refl _, Nat.le_refl _⟩, fun _ => ⟨rfl, rfl⟩⟩ hy
      rw [tk_len hnl]
      exact e
    ((conv => (arg 1; reduce)); with_reducible repeat' (first | exact Tr.yes_h | refine Tr.and_h ?_ ?_ | refine Tr.imp_h fun _ => ?_ | refine Tr.all_h fun _ => ?_ | refine Tr.lf_h ?_))
    all_goals (first | first | (show Region.lexB _ _ = true; kernel_rfl) | (show planned _ _ = true; kernel_rfl) | exact rfl | exact True.intro | ((try dsimp only [imp, C0, cG, cInt, cPl, cSlot, cPg, rwCodec, cRaw] at *); (try refine inR64 ?_ ?_) <;> (try simp only [List.length_set, List.length_append, List.length_take, List.length_drop]) <;> omega))
  · rename_i b0 h0 bw bi y hy v hv h3
    obtain ⟨v, y6⟩ := v
    obtain ⟨e1, e2⟩ : v ≤ (l.take n).length ∧ Wr (hdN h (l.take n).length ++ ((l.take n).take v).flatMap lst) y6 (20 + 8 * v) := hv
    have h3 : v < n := Int.ofNat_lt.1 (of_decide_eq_true h3)
    exact on_of h1.2.2 (Nat.lt_of_le_of_lt (Nat.zero_le _) h3)
  · rename_i b0 h0 bw bi y hy v hv h3
    obtain ⟨v, y6⟩ := v
    obtain ⟨e1, e2⟩ : v ≤ (l.take n).length ∧ Wr (hdN h (l.take n).length ++ ((l.take n).take v).flatMap lst) y6 (20 + 8 * v) := hv
    have h3 : v < n := Int.ofNat_lt.1 (of_decide_eq_true h3)
    exact Int.ofNat_lt.2 h3
  · rename_i b0 h0 bw bi y hy v hv h3
    obtain ⟨v, y6⟩ := v
    obtain ⟨e1, e2⟩ : v ≤ (l.take n).length ∧ Wr (hdN h (l.take n).length ++ ((l.take n).take v).flatMap lst) y6 (20 + 8 * v) := hv
    have h3 : v < n := Int.ofNat_lt.1 (of_decide_eq_true h3)
    exact on_of h1.2.2 (Nat.lt_of_le_of_lt (Nat.zero_le _) h3)
  · rename_i b0 h0 bw bi y hy v hv h3
    obtain ⟨v, y6⟩ := v
    obtain ⟨e1, e2⟩ : v ≤ (l.take n).length ∧ Wr (hdN h (l.take n).length ++ ((l.take n).take v).flatMap lst) y6 (20 + 8 * v) := hv
    have h3 : v < n := Int.ofNat_lt.1 (of_decide_eq_true h3)
    show (v : Int).toNat + 0 < l.length
    omega
  · rename_i b0 h0 bw bi y hy v hv h3 b3 b4
    obtain ⟨v, y6⟩ := v
    obtain ⟨e1, e2⟩ : v ≤ (l.take n).length ∧ Wr (hdN h (l.take n).length ++ ((l.take n).take v).flatMap lst) y6 (20 + 8 * v) := hv
    have h3 : v < n := Int.ofNat_lt.1 (of_decide_eq_true h3)
    exact e2.pre (Nat.le_refl 2) (by decide) (by omega)
  · rename_i b0 h0 bw bi y hy v hv h3 b3 b4 z hz
    obtain ⟨v, y6⟩ := v
    obtain ⟨e1, e2⟩ : v ≤ (l.take n).length ∧ Wr (hdN h (l.take n).length ++ ((l.take n).take v).flatMap lst) y6 (20 + 8 * v) := hv
    have h3 : v < n := Int.ofNat_lt.1 (of_decide_eq_true h3)
    exact inR64 (by show _ ≤ (v : Int) + 1; omega) (by show (v : Int) + 1 ≤ _; omega)
  · rename_i b0 h0 bw bi y hy v hv h3 b3 b4 z hz
    obtain ⟨v, y6⟩ := v
    obtain ⟨e1, e2⟩ : v ≤ (l.take n).length ∧ Wr (hdN h (l.take n).length ++ ((l.take n).take v).flatMap lst) y6 (20 + 8 * v) := hv
    have h3 : v < n := Int.ofNat_lt.1 (of_decide_eq_true h3)
    have e3 := e2.lay (M := lst (l.getD v (0, 0))) hz
    refine Stands.one (v + 1, z) ⟨⟨by rw [tk_len hnl]; omega, ?_⟩, ?_, ?_⟩
    · show Wr (_ ++ ((l.take n).take (v + 1)).flatMap lst) z (20 + 8 * (v + 1))
      rw [take_snoc (d := (0, 0)) (by rw [tk_len hnl]; exact h3), tk_at h3, List.flatMap_append, List.flatMap_singleton, ← List.append_assoc]
      exact e3
    · show (l.take n).length - (v + 1) < (l.take n).length - v
      rw [tk_len hnl]; omega
    ((conv => (arg 1; reduce)); with_reducible repeat' (first | exact Tr.yes_h | refine Tr.and_h ?_ ?_ | refine Tr.imp_h fun _ => ?_ | refine Tr.all_h fun _ => ?_ | refine Tr.lf_h ?_))
    all_goals (first | first | (show Region.lexB _ _ = true; kernel_rfl) | (show planned _ _ = true; kernel_rfl) | exact rfl | exact True.intro | ((try dsimp only [imp, C0, cG, cInt, cPl, cSlot, cPg, rwCodec, cRaw] at *); (try refine inR64 ?_ ?_) <;> (try simp only [List.length_set, List.length_append, List.length_take, List.length_drop]) <;> omega))
  · rename_i b0 h0 bw bi y hy v hv h3 b3
    obtain ⟨v, y6⟩ := v
    obtain ⟨e1, e2⟩ : v ≤ (l.take n).length ∧ Wr (hdN h (l.take n).length ++ ((l.take n).take v).flatMap lst) y6 (20 + 8 * v) := hv
    have h3 : ¬ v < n := fun h => of_decide_eq_false h3 (Int.ofNat_lt.2 h)
    obtain rfl : v = n := by rw [tk_len hnl] at e1; omega
    rw [List.take_of_length_le (l := l.take v) (by rw [tk_len hnl]; exact Nat.le_refl _)] at e2
    exact e2.pre (Nat.le_refl 1) (by decide) (by omega)
  · rename_i b0 h0 bw bi y hy v hv h3 b3 z hz
    obtain ⟨v, y6⟩ := v
    obtain ⟨e1, e2⟩ : v ≤ (l.take n).length ∧ Wr (hdN h (l.take n).length ++ ((l.take n).take v).flatMap lst) y6 (20 + 8 * v) := hv
    have h3 : ¬ v < n := fun h => of_decide_eq_false h3 (Int.ofNat_lt.2 h)
    obtain rfl : v = n := by rw [tk_len hnl] at e1; omega
    rw [List.take_of_length_le (l := l.take v) (by rw [tk_len hnl]; exact Nat.le_refl _)] at e2
    have e3 := e2.lay (M := [(n2 : Int)]) hz
    refine Stands.one (0, z) ⟨⟨Nat.zero_le _, ?_⟩, ?_⟩
    · show Wr (_ ++ [((l2.take n2).length : Int)] ++ []) z (24 + 8 * (l.take v).length + 36 * 0)
      rw [tk_len hnl2, tk_len hnl, List.append_nil, show 24 + 8 * v + 36 * 0 = 20 + 8 * v + 4 * 1 by omega]
      rw [tk_len hnl] at e3
      exact e3
    ((conv => (arg 1; reduce)); with_reducible repeat' (first | exact Tr.yes_h | refine Tr.and_h ?_ ?_ | refine Tr.imp_h fun _ => ?_ | refine Tr.all_h fun _ => ?_ | refine Tr.lf_h ?_))
    all_goals (first | first | (show Region.lexB _ _ = true; kernel_rfl) | (show planned _ _ = true; kernel_rfl) | exact rfl | exact True.intro | ((try dsimp only [imp, C0, cG, cInt, cPl, cSlot, cPg, rwCodec, cRaw] at *); (try refine inR64 ?_ ?_) <;> (try simp only [List.length_set, List.length_append, List.length_take, List.length_drop]) <;> omega))
  · rename_i b0 h0 bw bi y hy v hv h3 b3 z hz w hw h4
    obtain ⟨w, y9⟩ := w
    obtain ⟨e1, e2⟩ : w ≤ (l2.take n2).length ∧ Wr (hdN h (l.take n).length ++ (l.take n).flatMap lst ++ [((l2.take n2).length : Int)] ++ ((l2.take n2).take w).flatMap slotN) y9 (24 + 8 * (l.take n).length + 36 * w) := hw
    have hnn := tk_len hnl
    have h4 : w < n2 := Int.ofNat_lt.1 (of_decide_eq_true h4)
    exact on_of h2.2.2 (Nat.lt_of_le_of_lt (Nat.zero_le _) h4)
  · rename_i b0 h0 bw bi y hy v hv h3 b3 z hz w hw h4
    obtain ⟨w, y9⟩ := w
    obtain ⟨e1, e2⟩ : w ≤ (l2.take n2).length ∧ Wr (hdN h (l.take n).length ++ (l.take n).flatMap lst ++ [((l2.take n2).length : Int)] ++ ((l2.take n2).take w).flatMap slotN) y9 (24 + 8 * (l.take n).length + 36 * w) := hw
    have hnn := tk_len hnl
    have h4 : w < n2 := Int.ofNat_lt.1 (of_decide_eq_true h4)
    exact Int.ofNat_lt.2 h4
  · rename_i b0 h0 bw bi y hy v hv h3 b3 z hz w hw h4
    obtain ⟨w, y9⟩ := w
    obtain ⟨e1, e2⟩ : w ≤ (l2.take n2).length ∧ Wr (hdN h (l.take n).length ++ (l.take n).flatMap lst ++ [((l2.take n2).length : Int)] ++ ((l2.take n2).take w).flatMap slotN) y9 (24 + 8 * (l.take n).length + 36 * w) := hw
    have hnn := tk_len hnl
    have h4 : w < n2 := Int.ofNat_lt.1 (of_decide_eq_true h4)
    exact on_of h2.2.2 (Nat.lt_of_le_of_lt (Nat.zero_le _) h4)
  · rename_i b0 h0 bw bi y hy v hv h3 b3 z hz w hw h4
    obtain ⟨w, y9⟩ := w
    obtain ⟨e1, e2⟩ : w ≤ (l2.take n2).length ∧ Wr (hdN h (l.take n).length ++ (l.take n).flatMap lst ++ [((l2.take n2).length : Int)] ++ ((l2.take n2).take w).flatMap slotN) y9 (24 + 8 * (l.take n).length + 36 * w) := hw
    have hnn := tk_len hnl
    have h4 : w < n2 := Int.ofNat_lt.1 (of_decide_eq_true h4)
    show (w : Int).toNat + 0 < l2.length
    omega
  · rename_i b0 h0 bw bi y hy v hv h3 b3 z hz w hw h4 b5 b6 b7
    obtain ⟨w, y9⟩ := w
    obtain ⟨e1, e2⟩ : w ≤ (l2.take n2).length ∧ Wr (hdN h (l.take n).length ++ (l.take n).flatMap lst ++ [((l2.take n2).length : Int)] ++ ((l2.take n2).take w).flatMap slotN) y9 (24 + 8 * (l.take n).length + 36 * w) := hw
    have hnn := tk_len hnl
    have h4 : w < n2 := Int.ofNat_lt.1 (of_decide_eq_true h4)
    exact e2.pre (Nat.le_refl 9) (by decide) (by omega)
  · rename_i b0 h0 bw bi y hy v hv h3 b3 z hz w hw h4 b5 b6 b7 x hx
    obtain ⟨w, y9⟩ := w
    obtain ⟨e1, e2⟩ : w ≤ (l2.take n2).length ∧ Wr (hdN h (l.take n).length ++ (l.take n).flatMap lst ++ [((l2.take n2).length : Int)] ++ ((l2.take n2).take w).flatMap slotN) y9 (24 + 8 * (l.take n).length + 36 * w) := hw
    have hnn := tk_len hnl
    have h4 : w < n2 := Int.ofNat_lt.1 (of_decide_eq_true h4)
    exact inR64 (by show _ ≤ (w : Int) + 1; omega) (by show (w : Int) + 1 ≤ _; omega)
  · rename_i b0 h0 bw bi y hy v hv h3 b3 z hz w hw h4 b5 b6 b7 x hx
    obtain ⟨w, y9⟩ := w
    obtain ⟨e1, e2⟩ : w ≤ (l2.take n2).length ∧ Wr (hdN h (l.take n).length ++ (l.take n).flatMap lst ++ [((l2.take n2).length : Int)] ++ ((l2.take n2).take w).flatMap slotN) y9 (24 + 8 * (l.take n).length + 36 * w) := hw
    have hnn := tk_len hnl
    have h4 : w < n2 := Int.ofNat_lt.1 (of_decide_eq_true h4)
    have e3 := e2.lay (M := slotN (l2.getD w slot0)) hx
    refine Stands.one (w + 1, x) ⟨⟨by rw [tk_len hnl2]; omega, ?_⟩, ?_, ?_⟩
    · show Wr (_ ++ ((l2.take n2).take (w + 1)).flatMap slotN) x (24 + 8 * (l.take n).length + 36 * (w + 1))
      rw [take_snoc (d := slot0) (by rw [tk_len hnl2]; exact h4), tk_at h4, List.flatMap_append, List.flatMap_singleton, ← List.append_assoc, show 24 + 8 * (l.take n).length + 36 * (w + 1) = 24 + 8 * (l.take n).length + 36 * w + 4 * 9 by omega]
      exact e3
    · show (l2.take n2).length - (w + 1) < (l2.take n2).length - w
      rw [tk_len hnl2]; omega
    ((conv => (arg 1; reduce)); with_reducible repeat' (first | exact Tr.yes_h | refine Tr.and_h ?_ ?_ | refine Tr.imp_h fun _ => ?_ | refine Tr.all_h fun _ => ?_ | refine Tr.lf_h ?_))
    all_goals (first | first | (show Region.lexB _ _ = true; kernel_rfl) | (show planned _ _ = true; kernel_rfl) | exact rfl | exact True.intro | ((try dsimp only [imp, C0, cG, cInt, cPl, cSlot, cPg, rwCodec, cRaw] at *); (try refine inR64 ?_ ?_) <;> (try simp only [List.length_set, List.length_append, List.length_take, List.length_drop]) <;> omega))
  · rename_i b0 h0 bw bi y hy v hv h3 b3 z hz w hw h4
    obtain ⟨w, y9⟩ := w
    obtain ⟨e1, e2⟩ : w ≤ (l2.take n2).length ∧ Wr (hdN h (l.take n).length ++ (l.take n).flatMap lst ++ [((l2.take n2).length : Int)] ++ ((l2.take n2).take w).flatMap slotN) y9 (24 + 8 * (l.take n).length + 36 * w) := hw
    have hnn := tk_len hnl
    have h4 : ¬ w < n2 := fun h => of_decide_eq_false h4 (Int.ofNat_lt.2 h)
    obtain rfl : w = n2 := by rw [tk_len hnl2] at e1; omega
    rw [List.take_of_length_le (l := l2.take w) (by rw [tk_len hnl2]; exact Nat.le_refl _)] at e2
    have e4 : Wr (nums h (l.take n) (l2.take w)) y9 (24 + 8 * (l.take n).length + 36 * w) := by unfold nums; exact e2
    have g := e4.1
    exact ⟨by show 0 + (24 + 8 * (l.take n).length + 36 * w) ≤ y9.2.2.2.1.length; have := g.2.2; omega, by show _ < (4611686018427387904 : Nat); omega, e4.2⟩
  · rename_i b0 h0 bw bi y hy v hv h3 b3 z hz w hw h4 b5
    obtain ⟨w, y9⟩ := w
    obtain ⟨e1, e2⟩ : w ≤ (l2.take n2).length ∧ Wr (hdN h (l.take n).length ++ (l.take n).flatMap lst ++ [((l2.take n2).length : Int)] ++ ((l2.take n2).take w).flatMap slotN) y9 (24 + 8 * (l.take n).length + 36 * w) := hw
    have hnn := tk_len hnl
    have h4 : ¬ w < n2 := fun h => of_decide_eq_false h4 (Int.ofNat_lt.2 h)
    obtain rfl : w = n2 := by rw [tk_len hnl2] at e1; omega
    rw [List.take_of_length_le (l := l2.take w) (by rw [tk_len hnl2]; exact Nat.le_refl _)] at e2
    have e4 : Wr (nums h (l.take n) (l2.take w)) y9 (24 + 8 * (l.take n).length + 36 * w) := by unfold nums; exact e2
    exact e4.pre (Nat.le_refl 1) (by decide) (by omega)
  · rename_i b0 h0 bw bi y hy v hv h3 b3 z hz w hw h4 b5 x hx
    obtain ⟨w, y9⟩ := w
    obtain ⟨e1, e2⟩ : w ≤ (l2.take n2).length ∧ Wr (hdN h (l.take n).length ++ (l.take n).flatMap lst ++ [((l2.take n2).length : Int)] ++ ((l2.take n2).take w).flatMap slotN) y9 (24 + 8 * (l.take n).length + 36 * w) := hw
    have hnn := tk_len hnl
    have h4 : ¬ w < n2 := fun h => of_decide_eq_false h4 (Int.ofNat_lt.2 h)
    obtain rfl : w = n2 := by rw [tk_len hnl2] at e1; omega
    rw [List.take_of_length_le (l := l2.take w) (by rw [tk_len hnl2]; exact Nat.le_refl _)] at e2
    have e4 : Wr (nums h (l.take n) (l2.take w)) y9 (24 + 8 * (l.take n).length + 36 * w) := by unfold nums; exact e2
    have hc := e4.1
    obtain ⟨hx1, hx2⟩ := hx
    have hx1 : Gr (y9.2.2.2.1.take (24 + 8 * (l.take n).length + 36 * w) ++ fours [crc (y9.2.2.2.1.take (24 + 8 * (l.take n).length + 36 * w))]) x.2.2.2.1 (24 + 8 * (l.take n).length + 36 * w + 4 * 1) x.2.2.2.2 := hx1
    rw [fours_one, hc.2.1] at hx1
    have hx1 : Gr (bytesP h (l.take n) (l2.take w)) x.2.2.2.1 (24 + 8 * (l.take n).length + 36 * w + 4 * 1) x.2.2.2.2 := by unfold bytesP; exact hx1
    have hlen := hx1.1
    rw [hlen] at hx1
    refine Ends.next (Ends.one (x.1, x.2.1, x.2.2.2.1, x.2.2.2.2) ⟨by simpa using h0, hx1⟩ ?_)
    ((conv => (arg 1; reduce)); with_reducible repeat' (first | exact Tr.yes_h | refine Tr.and_h ?_ ?_ | refine Tr.imp_h fun _ => ?_ | refine Tr.all_h fun _ => ?_ | refine Tr.lf_h ?_))
    all_goals try (first | first | (show Region.lexB _ _ = true; kernel_rfl) | (show planned _ _ = true; kernel_rfl) | exact rfl | exact True.intro | ((try dsimp only [imp, C0, cG, cInt, cPl, cSlot, cPg, rwCodec, cRaw] at *); (try refine inR64 ?_ ?_) <;> (try simp only [List.length_set, List.length_append, List.length_take, List.length_drop]) <;> omega))
    cases hx3 : x.2.2.1 with
    | true => rfl
    | false => exact absurd (hx2 hx3).1 (by omega)
def fcBytes : Fc Tryd.prog C0 where
  tg := .fn 10
  X := Hd × Sq Pl × Sq Slot
  args := fun (h, (o, b, q, l, n, c), (o2, b2, q2, l2, n2, c2)) => [ptv h (.sl 0 0 n c) (.sl 1 0 n2 c2)]
  mem := fun (h, (o, b, q, l, n, c), (o2, b2, q2, l2, n2, c2)) => [⟨b, q, 2, false, some o, .rows 87 l⟩, ⟨b2, q2, 9, false, some o2, .rows 88 l2⟩]
  pre := fun (h, (o, b, q, l, n, c), (o2, b2, q2, l2, n2, c2)) => Sq.ok (o, b, q, l, n, c) ∧ Sq.ok (o2, b2, q2, l2, n2, c2) ∧ n ≤ 1000000 ∧ n2 ≤ 1000000
  alts := fun (h, (o, b, q, l, n, c), (o2, b2, q2, l2, n2, c2)) => [⟨Unit, fun _ => okP h (l.take n) (l2.take n2) = false, fun _ => .tup [.nils, eV 0], fun _ => [⟨b, q, 2, false, some o, .rows 87 l⟩, ⟨b2, q2, 9, false, some o2, .rows 88 l2⟩]⟩,
     ⟨Nat × Nat × List Int × Nat, fun y => okP h (l.take n) (l2.take n2) = true ∧ Gr (bytesP h (l.take n) (l2.take n2)) y.2.2.1 (bytesP h (l.take n) (l2.take n2)).length y.2.2.2, fun y => .tup [.sl 2 0 (bytesP h (l.take n) (l2.take n2)).length y.2.2.2, .nili],
      fun y => [⟨b, q, 2, false, some o, .rows 87 l⟩, ⟨b2, q2, 9, false, some o2, .rows 88 l2⟩, ⟨y.1, y.2.1, 1, true, none, .rows 5 y.2.2.1⟩]⟩]
  mat vs m := match vs with
    | [.agg [.int _ h1, .int _ h2, .int _ h3, .int _ h4, sa, sb]] => match sa, sb with
      | .sl a 0 n c, .sl a' 0 n' c' => match nth m a, nth m a' with
        | ⟨b, q, _, _, g, .rows 87 l⟩, ⟨b', q', _, _, g', .rows 88 l'⟩ => some (((h1, h2, h3, h4), (onOf g, b, q, l, n, c), (onOf g', b', q', l', n', c')), [a, a'])
        | _, _ => none
      | .nils, .nils => some (((h1, h2, h3, h4), (false, 0, 0, [], 0, 0), (false, 0, 0, [], 0, 0)), [m.length, m.length + 1])
      | _, _ => none
    | _ => none
  ok := fun (h, (o, b, q, l, n, c), (o2, b2, q2, l2, n2, c2)) x => bytes_ok h o b q l n c o2 b2 q2 l2 n2 c2 x.1 x.2.1 x.2.2.1 x.2.2.2
end Go.Vx
