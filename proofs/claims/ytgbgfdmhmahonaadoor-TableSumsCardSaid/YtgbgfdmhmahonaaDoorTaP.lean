/-
  Round 20: two tables that say the same.
  Conditions: none.
-/
import Derived.Test.YtgbgfdmhmahonaaDoorTaM
set_option linter.unusedSectionVars false
set_option maxRecDepth 100000
set_option linter.unusedVariables false
set_option linter.unusedSimpArgs false
namespace Go.Vx
open Go Go.Proofs
variable [Gl]

def alikeB (a b : Slot) : Bool := decide (a.key = b.key) && (decide (a.pl.1 = b.pl.1) && decide (a.pl.2 = b.pl.2)) && decide (a.me.seq = b.me.seq) && decide (a.me.kind = b.me.kind)
def sameB : List Slot → List Slot → Bool
  | [], [] => true
  | a :: A, b :: B => alikeB a b && sameB A B
  | _, _ => false
theorem alike_tell (a b : Slot) : Tells (C := C0) Tryd.prog (.fn 36) [] [.agg (slotE a), .agg (slotE b)] (.bool (.tm (alikeB a b))) := by
  refine loc_pc (P := Tryd.prog) (E := ⟨[], [], 35, []⟩) (L := []) mix Tryd.func36 rfl (by kernel_rfl) (by kernel_rfl) rfl rfl ?_
  ((conv => (arg 1; reduce)); with_reducible repeat' (first | exact Tr.yes_h | refine Tr.and_h ?_ ?_ | refine Tr.imp_h fun _ => ?_ | refine Tr.all_h fun _ => ?_ | refine Tr.lf_h ?_))
  all_goals try (first | first | (show Region.lexB _ _ = true; kernel_rfl) | (show planned _ _ = true; kernel_rfl) | exact rfl | exact True.intro | (first | exact key3 | exact key30 | exact zero3 | exact zero53 | exact eq30 | exact ⟨key3, zero53⟩ | exact ⟨key30, zero3⟩) | ((try dsimp only [imp, C0, cG, cInt, cPl, cSlot, cDo] at *); (try refine inR64 ?_ ?_) <;> (try simp only [List.length_set, List.length_append, List.length_take, List.length_drop]) <;> omega))
def pcAlike : Pc Tryd.prog C0 where
  tg := .fn 36
  X := Slot × Slot
  args := fun (a, b) => [.agg (slotE a), .agg (slotE b)]
  mem := fun _ => []
  pre := fun _ => True
  res := fun (a, b) => .bool (.tm (alikeB a b))
  mat vs _ := match vs with
    | [.agg [.int _ k, .int _ a, .int _ p, .int _ m1, .int _ m2, .int _ m3, .int _ m4, .int _ m5, .int _ m6], .agg [.int _ k', .int _ a', .int _ p', .int _ n1, .int _ n2, .int _ n3, .int _ n4, .int _ n5, .int _ n6]] =>
      some ((⟨k, (a, p), ⟨m1, m2, m3, m4, m5, m6⟩⟩, ⟨k', (a', p'), ⟨n1, n2, n3, n4, n5, n6⟩⟩), [])
    | _ => none
  ok := fun (a, b) _ => alike_tell a b
theorem sameB_len : ∀ {A B : List Slot}, sameB A B = true → A.length = B.length
  | [], [], _ => rfl
  | a :: A, b :: B, h => by
    simp only [sameB, Bool.and_eq_true] at h
    simp [sameB_len h.2]
  | [], _ :: _, h => by cases h
  | _ :: _, [], h => by cases h
theorem sameB_ne {A B : List Slot} (h : A.length ≠ B.length) : sameB A B = false := by
  cases hs : sameB A B with
  | false => rfl
  | true => exact (h (sameB_len hs)).elim
theorem sameB_snoc : ∀ {A B : List Slot} (h : A.length = B.length) (a b : Slot), sameB (A ++ [a]) (B ++ [b]) = (sameB A B && alikeB a b)
  | [], [], _, a, b => by simp [sameB]
  | x :: A, y :: B, h, a, b => by
    simp only [List.cons_append, sameB]
    rw [sameB_snoc (by simpa using h), Bool.and_assoc]
  | [], _ :: _, h, _, _ => by cases h
  | _ :: _, [], h, _, _ => by cases h
theorem sameB_cut : ∀ {A B : List Slot} (i : Nat), sameB A B = true → sameB (A.take i) (B.take i) = true
  | _, _, 0, _ => by simp [sameB]
  | [], [], i + 1, _ => rfl
  | a :: A, b :: B, i + 1, h => by
    simp only [sameB, Bool.and_eq_true] at h
    simp only [List.take_succ_cons, sameB, Bool.and_eq_true]
    exact ⟨h.1, sameB_cut i h.2⟩
  | [], _ :: _, _ + 1, h => by cases h
  | _ :: _, [], _ + 1, h => by cases h
structure Eqi (l l' : List Slot) (n n' : Nat) (i : Nat) : Prop where
  le : i ≤ n
  is : sameB (l.take i) (l'.take i) = true
def Eqv (l l' : List Slot) (n n' : Nat) : Inv' C0 := ⟨4, Nat, fun i => [(17, .int .i64 (i : Int))], fun _ m => m, fun i => Eqi l l' n n' i, fun i => n - i⟩
theorem take_add {l : List Slot} {i : Nat} (h : i < l.length) : l.take (i + 1) = l.take i ++ [l.getD i slot0] := by
  rw [List.take_add_one]
  simp [List.getD, h]
theorem nn_eq {n n' : Nat} (h : decide ((n : Int) ≠ (n' : Int)) = false) : n = n' := by
  have := of_decide_eq_false h
  omega
theorem Eqi.step {l l' : List Slot} {n n' i : Nat} (h : Eqi l l' n n' i) (hi : i < n) (hl : n ≤ l.length) (hl' : n ≤ l'.length) (ha : alikeB (l.getD i slot0) (l'.getD i slot0) = true) : Eqi l l' n n' (i + 1) := by
  refine ⟨hi, ?_⟩
  rw [take_add (by omega), take_add (by omega), sameB_snoc (by simp; omega), h.is, ha]; rfl
theorem Eqi.bad {l l' : List Slot} {n i : Nat} (hi : i < n) (hl : n ≤ l.length) (hl' : n ≤ l'.length) (ha : alikeB (l.getD i slot0) (l'.getD i slot0) = false) : sameB (l.take n) (l'.take n) = false := by
  cases hs : sameB (l.take n) (l'.take n) with
  | false => rfl
  | true =>
    have := sameB_cut (i + 1) hs
    rw [List.take_take, List.take_take, Nat.min_eq_left (by omega), take_add (by omega), take_add (by omega), sameB_snoc (by simp; omega), ha, Bool.and_false] at this
    cases this
theorem Eqi.done {l l' : List Slot} {n n' i : Nat} (h : Eqi l l' n n' i) (hi : n ≤ i) (hn : n = n') : sameB (l.take n) (l'.take n') = true := by
  have : i = n := Nat.le_antisymm h.le hi
  rw [← hn, ← this]; exact h.is
set_option maxHeartbeats 8000000 in
theorem equal_ok (b q : Nat) (l : List Slot) (n c b' q' : Nat) (l' : List Slot) (n' c' : Nat) (hl : n ≤ l.length) (hl' : n' ≤ l'.length) (hn : n < 1048576) :
    Tells (C := C0) Tryd.prog (.fn 35) [⟨b, q, 9, false, none, .rows 53 l⟩, ⟨b', q', 9, false, none, .rows 53 l'⟩] [.sl 0 0 n c, .sl 1 0 n' c', .fn (.func 36) [] []] (.bool (.tm (sameB (l.take n) (l'.take n')))) := by
  refine loc_pc (P := Tryd.prog) (E := ⟨[], [pcAlike], 32, []⟩) (L := [Eqv l l' n n']) mix Tryd.func35 rfl (by kernel_rfl) (by kernel_rfl) rfl rfl ?_
  ((conv => (arg 1; reduce)); with_reducible repeat' (first | exact Tr.yes_h | refine Tr.and_h ?_ ?_ | refine Tr.imp_h fun _ => ?_ | refine Tr.all_h fun _ => ?_ | refine Tr.lf_h ?_))
  all_goals try (first | first | (show Region.lexB _ _ = true; kernel_rfl) | (show planned _ _ = true; kernel_rfl) | exact rfl | exact True.intro | (first | exact key3 | exact key30 | exact zero3 | exact zero53 | exact eq30 | exact ⟨key3, zero53⟩ | exact ⟨key30, zero3⟩) | ((try dsimp only [imp, C0, cG, cInt, cPl, cSlot, cDo] at *); (try refine inR64 ?_ ?_) <;> (try simp only [List.length_set, List.length_append, List.length_take, List.length_drop]) <;> omega))
  · rename_i h
    have h := of_decide_eq_true h
    show false = sameB _ _
    rw [sameB_ne (by simp only [List.length_take]; omega)]
  · refine Stands.one (0 : Nat) ⟨⟨Nat.zero_le _, by simp [sameB]⟩, ?_⟩
    ((conv => (arg 1; reduce)); with_reducible repeat' (first | exact Tr.yes_h | refine Tr.and_h ?_ ?_ | refine Tr.imp_h fun _ => ?_ | refine Tr.all_h fun _ => ?_ | refine Tr.lf_h ?_))
    all_goals (first | first | (show Region.lexB _ _ = true; kernel_rfl) | (show planned _ _ = true; kernel_rfl) | exact rfl | exact True.intro | (first | exact key3 | exact key30 | exact zero3 | exact zero53 | exact eq30 | exact ⟨key3, zero53⟩ | exact ⟨key30, zero3⟩) | ((try dsimp only [imp, C0, cG, cInt, cPl, cSlot, cDo] at *); (try refine inR64 ?_ ?_) <;> (try simp only [List.length_set, List.length_append, List.length_take, List.length_drop]) <;> omega))
  · rename_i i hi h
    exact of_decide_eq_true h
  · rename_i i hi h
    change Nat at i
    have h := of_decide_eq_true h
    show (i : Int).toNat + 0 < l.length
    omega
  · rename_i h0 i hi h b1
    change Nat at i
    have h := of_decide_eq_true h
    have h0 := nn_eq h0
    show (i : Int) < (n' : Int)
    omega
  · rename_i h0 i hi h b1
    change Nat at i
    have h := of_decide_eq_true h
    have h0 := nn_eq h0
    show (i : Int).toNat + 0 < l'.length
    omega
  · rename_i h0 i hi h b1 b2 ha
    change Nat at i
    have h := of_decide_eq_true h
    have h0 := nn_eq h0
    have ha : (!alikeB (l.getD i slot0) (l'.getD i slot0)) = true := ha
    show false = sameB _ _
    subst h0
    rw [Eqi.bad (i := i) (by omega) hl hl' (by simpa using ha)]
  · rename_i h0 i hi h b1 b2 ha
    change Nat at i
    have h := of_decide_eq_true h
    exact inR64 (by show _ ≤ (i : Int) + 1; omega) (by show (i : Int) + 1 ≤ _; omega)
  · rename_i h0 i hi h b1 b2 ha
    change Nat at i
    have h := of_decide_eq_true h
    have h0 := nn_eq h0
    have ha : (!alikeB (l.getD i slot0) (l'.getD i slot0)) = false := ha
    refine Stands.one (Nat.succ i) ⟨hi.step (by omega) hl (by omega) (by simpa using ha), ?_, ?_⟩
    · show n - (i + 1) < n - i
      omega
    ((conv => (arg 1; reduce)); with_reducible repeat' (first | exact Tr.yes_h | refine Tr.and_h ?_ ?_ | refine Tr.imp_h fun _ => ?_ | refine Tr.all_h fun _ => ?_ | refine Tr.lf_h ?_))
    all_goals (first | first | (show Region.lexB _ _ = true; kernel_rfl) | (show planned _ _ = true; kernel_rfl) | exact rfl | exact True.intro | (first | exact key3 | exact key30 | exact zero3 | exact zero53 | exact eq30 | exact ⟨key3, zero53⟩ | exact ⟨key30, zero3⟩) | ((try dsimp only [imp, C0, cG, cInt, cPl, cSlot, cDo] at *); (try refine inR64 ?_ ?_) <;> (try simp only [List.length_set, List.length_append, List.length_take, List.length_drop]) <;> omega))
  · rename_i h0 i hi h
    change Nat at i
    have h := of_decide_eq_false h
    exact (hi.done (by omega) (nn_eq h0)).symm
def pcEqual : Pc Tryd.prog C0 where
  tg := .fn 35
  X := (Nat × Nat × List Slot × Nat × Nat) × (Nat × Nat × List Slot × Nat × Nat)
  args := fun ((b, q, l, n, c), (b', q', l', n', c')) => [.sl 0 0 n c, .sl 1 0 n' c', .fn (.func 36) [] []]
  mem := fun ((b, q, l, n, c), (b', q', l', n', c')) => [⟨b, q, 9, false, none, .rows 53 l⟩, ⟨b', q', 9, false, none, .rows 53 l'⟩]
  pre := fun ((b, q, l, n, c), (b', q', l', n', c')) => n ≤ l.length ∧ n' ≤ l'.length ∧ n < 1048576
  res := fun ((b, q, l, n, c), (b', q', l', n', c')) => .bool (.tm (sameB (l.take n) (l'.take n')))
  mat vs m := match vs with
    | [.sl r 0 n c, .sl r' 0 n' c', .fn (.func 36) [] []] => match nth m r, nth m r' with
      | ⟨b, q, _, _, _, .rows 53 l⟩, ⟨b', q', _, _, _, .rows 53 l'⟩ => some (((b, q, l, n, c), (b', q', l', n', c')), [r, r'])
      | _, _ => none
    | _ => none
  ok := fun ((b, q, l, n, c), (b', q', l', n', c')) h => equal_ok b q l n c b' q' l' n' c' h.1 h.2.1 h.2.2
theorem equal_nn : Tells (C := C0) Tryd.prog (.fn 35) [] [.nils, .nils, .fn (.func 36) [] []] (.bool .t) := by
  refine loc_pc (P := Tryd.prog) (E := ⟨[], [pcAlike], 32, []⟩) (L := [⟨4, Unit, fun _ => [(17, .int .i64 0)], fun _ m => m, fun _ => True, fun _ => 0⟩]) mix Tryd.func35 rfl (by kernel_rfl) (by kernel_rfl) rfl rfl ?_
  ((conv => (arg 1; reduce)); with_reducible repeat' (first | exact Tr.yes_h | refine Tr.and_h ?_ ?_ | refine Tr.imp_h fun _ => ?_ | refine Tr.all_h fun _ => ?_ | refine Tr.lf_h ?_))
  all_goals try (first | first | (show Region.lexB _ _ = true; kernel_rfl) | (show planned _ _ = true; kernel_rfl) | exact rfl | exact True.intro | (first | exact key3 | exact key30 | exact zero3 | exact zero53 | exact eq30 | exact ⟨key3, zero53⟩ | exact ⟨key30, zero3⟩) | ((try dsimp only [imp, C0, cG, cInt, cPl, cSlot, cDo] at *); (try refine inR64 ?_ ?_) <;> (try simp only [List.length_set, List.length_append, List.length_take, List.length_drop]) <;> omega))
  all_goals try exact absurd (by with_reducible assumption : decide ((0 : Int) < 0) = true) (by decide)
  all_goals try exact absurd (by with_reducible assumption : decide ((0 : Int) ≠ 0) = true) (by decide)
  refine Stands.one () ⟨trivial, ?_⟩
  ((conv => (arg 1; reduce)); with_reducible repeat' (first | exact Tr.yes_h | refine Tr.and_h ?_ ?_ | refine Tr.imp_h fun _ => ?_ | refine Tr.all_h fun _ => ?_ | refine Tr.lf_h ?_))
  all_goals (first | first | (show Region.lexB _ _ = true; kernel_rfl) | (show planned _ _ = true; kernel_rfl) | exact rfl | exact True.intro | (first | exact key3 | exact key30 | exact zero3 | exact zero53 | exact eq30 | exact ⟨key3, zero53⟩ | exact ⟨key30, zero3⟩) | ((try dsimp only [imp, C0, cG, cInt, cPl, cSlot, cDo] at *); (try refine inR64 ?_ ?_) <;> (try simp only [List.length_set, List.length_append, List.length_take, List.length_drop]) <;> omega))
def pcEqualN : Pc Tryd.prog C0 where
  tg := .fn 35
  X := Unit
  args := fun _ => [.nils, .nils, .fn (.func 36) [] []]
  mem := fun _ => []
  pre := fun _ => True
  res := fun _ => .bool .t
  mat vs m := match vs with
    | [.nils, .nils, .fn (.func 36) [] []] => some ((), [])
    | _ => none
  ok := fun _ _ => equal_nn
theorem equal_ns (b q : Nat) (l : List Slot) (n c : Nat) (h0 : 0 < n) : Tells (C := C0) Tryd.prog (.fn 35) [⟨b, q, 9, false, none, .rows 53 l⟩] [.nils, .sl 0 0 n c, .fn (.func 36) [] []] (.bool .f) := by
  refine loc_pc (P := Tryd.prog) (E := ⟨[], [pcAlike], 32, []⟩) (L := [⟨4, Unit, fun _ => [(17, .int .i64 0)], fun _ m => m, fun _ => True, fun _ => 0⟩]) mix Tryd.func35 rfl (by kernel_rfl) (by kernel_rfl) rfl rfl ?_
  ((conv => (arg 1; reduce)); with_reducible repeat' (first | exact Tr.yes_h | refine Tr.and_h ?_ ?_ | refine Tr.imp_h fun _ => ?_ | refine Tr.all_h fun _ => ?_ | refine Tr.lf_h ?_))
  all_goals try (first | first | (show Region.lexB _ _ = true; kernel_rfl) | (show planned _ _ = true; kernel_rfl) | exact rfl | exact True.intro | (first | exact key3 | exact key30 | exact zero3 | exact zero53 | exact eq30 | exact ⟨key3, zero53⟩ | exact ⟨key30, zero3⟩) | ((try dsimp only [imp, C0, cG, cInt, cPl, cSlot, cDo] at *); (try refine inR64 ?_ ?_) <;> (try simp only [List.length_set, List.length_append, List.length_take, List.length_drop]) <;> omega))
  all_goals (
    have h := ‹decide ((0 : Int) ≠ (n : Int)) = false›
    have h := of_decide_eq_false h
    omega)
def pcEqualA : Pc Tryd.prog C0 where
  tg := .fn 35
  X := Nat × Nat × List Slot × Nat × Nat
  args := fun (b, q, l, n, c) => [.nils, .sl 0 0 n c, .fn (.func 36) [] []]
  mem := fun (b, q, l, n, c) => [⟨b, q, 9, false, none, .rows 53 l⟩]
  pre := fun (b, q, l, n, c) => 0 < n
  res := fun (b, q, l, n, c) => .bool .f
  mat vs m := match vs with
    | [.nils, .sl r 0 n c, .fn (.func 36) [] []] => match nth m r with
      | ⟨b, q, _, _, _, .rows 53 l⟩ => some ((b, q, l, n, c), [r])
      | _ => none
    | _ => none
  ok := fun (b, q, l, n, c) h => equal_ns b q l n c h
theorem equal_sn (b q : Nat) (l : List Slot) (n c : Nat) (h0 : 0 < n) : Tells (C := C0) Tryd.prog (.fn 35) [⟨b, q, 9, false, none, .rows 53 l⟩] [.sl 0 0 n c, .nils, .fn (.func 36) [] []] (.bool .f) := by
  refine loc_pc (P := Tryd.prog) (E := ⟨[], [pcAlike], 32, []⟩) (L := [⟨4, Unit, fun _ => [(17, .int .i64 0)], fun _ m => m, fun _ => True, fun _ => 0⟩]) mix Tryd.func35 rfl (by kernel_rfl) (by kernel_rfl) rfl rfl ?_
  ((conv => (arg 1; reduce)); with_reducible repeat' (first | exact Tr.yes_h | refine Tr.and_h ?_ ?_ | refine Tr.imp_h fun _ => ?_ | refine Tr.all_h fun _ => ?_ | refine Tr.lf_h ?_))
  all_goals try (first | first | (show Region.lexB _ _ = true; kernel_rfl) | (show planned _ _ = true; kernel_rfl) | exact rfl | exact True.intro | (first | exact key3 | exact key30 | exact zero3 | exact zero53 | exact eq30 | exact ⟨key3, zero53⟩ | exact ⟨key30, zero3⟩) | ((try dsimp only [imp, C0, cG, cInt, cPl, cSlot, cDo] at *); (try refine inR64 ?_ ?_) <;> (try simp only [List.length_set, List.length_append, List.length_take, List.length_drop]) <;> omega))
  all_goals (
    have h := ‹decide ((n : Int) ≠ (0 : Int)) = false›
    have h := of_decide_eq_false h
    omega)
def pcEqualB : Pc Tryd.prog C0 where
  tg := .fn 35
  X := Nat × Nat × List Slot × Nat × Nat
  args := fun (b, q, l, n, c) => [.sl 0 0 n c, .nils, .fn (.func 36) [] []]
  mem := fun (b, q, l, n, c) => [⟨b, q, 9, false, none, .rows 53 l⟩]
  pre := fun (b, q, l, n, c) => 0 < n
  res := fun (b, q, l, n, c) => .bool .f
  mat vs m := match vs with
    | [.sl r 0 n c, .nils, .fn (.func 36) [] []] => match nth m r with
      | ⟨b, q, _, _, _, .rows 53 l⟩ => some ((b, q, l, n, c), [r])
      | _ => none
    | _ => none
  ok := fun (b, q, l, n, c) h => equal_sn b q l n c h
end Go.Vx
