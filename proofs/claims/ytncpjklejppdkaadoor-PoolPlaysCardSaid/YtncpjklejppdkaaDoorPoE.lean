/-
  Round 17: heap.Push, heap.Pop, heap.Remove.
  Conditions: none.
-/
import Derived.Test.YtncpjklejppdkaaDoorPoD
set_option linter.unusedSectionVars false
set_option maxRecDepth 100000
set_option linter.unusedVariables false
set_option linter.unusedSimpArgs false
namespace Go.Vx
open Go Go.Proofs
variable [Gl]

noncomputable def fcPushSl : Fc Tryd.prog C0 where
  tg := .inv 62 "Push"
  X := Hx × Ent
  args := fun (_, e) => [.ptr 0 0 0, .ifc 60 (.agg [.int .i64 e.1, .int .i64 e.2])]
  mem := fun (⟨bp, q, b, base, l, n, c⟩, _) => hp bp q b base true true l n c
  pre := fun (⟨_, _, _, _, l, n, c⟩, _) => n ≤ c ∧ c ≤ l.length ∧ n < 1048576
  alts := fun (⟨bp, q, b, base, l, n, c⟩, e) => [⟨Nat × Nat × List Ent × Nat, fun y => ∃ sp, y.2.2.1 = l.take n ++ [e] ++ sp ∧ n + 1 ≤ y.2.2.2 ∧ y.2.2.2 ≤ n + 1 + sp.length, fun _ => .tup [], pushOut bp q b base n⟩]
  mat vs m := match vs with
    | [p, .ifc 60 (.agg [.int _ a, .int _ b])] => (matH p m).map fun (h, r) => ((h, (a, b)), r)
    | _ => none
  ok := fun (⟨_, _, _, _, _, _, _⟩, _) h => pushM_sl _ _ _ _ _ _ _ _ h.1 h.2.1 h.2.2
/-- Read off: a pointer to a slice that is none. -/
def matN (p : SV) (m : List (Ck C0)) : Option ((Nat × Nat) × List Nat) :=
  match p with
  | .ptr k _ _ => match nth m k with
    | ⟨bp, q, _, _, _, .one [.nils]⟩ => some ((bp, q), [k])
    | _ => none
  | _ => none
noncomputable def fcPushNil : Fc Tryd.prog C0 where
  tg := .inv 62 "Push"
  X := (Nat × Nat) × Ent
  args := fun (_, e) => [.ptr 0 0 0, .ifc 60 (.agg [.int .i64 e.1, .int .i64 e.2])]
  mem := fun ((bp, q), _) => [⟨bp, q, 1, true, none, .one [.nils]⟩]
  pre _ := True
  alts := fun ((bp, q), e) => [⟨Nat × List Ent × Nat, fun y => ∃ sp, y.2.1 = [e] ++ sp ∧ y.2.2 = 1 + sp.length, fun _ => .tup [],
       fun y => [⟨bp, q, 1, true, none, .one [.sl 1 0 1 y.2.2]⟩, ⟨y.1, 0, 2, true, none, .rows 60 y.2.1⟩]⟩]
  mat vs m := match vs with
    | [p, .ifc 60 (.agg [.int _ a, .int _ b])] => (matN p m).map fun (h, r) => ((h, (a, b)), r)
    | _ => none
  ok := fun ((_, _), _) _ => pushM_nil _ _ _
noncomputable def fcPopM : Fc Tryd.prog C0 where
  tg := .inv 62 "Pop"
  X := Hx
  args := fun _ => [.ptr 0 0 0]
  mem := fun ⟨bp, q, b, base, l, n, c⟩ => hp bp q b base true false l n c
  pre := fun ⟨_, _, _, _, l, n, c⟩ => 0 < n ∧ n ≤ l.length ∧ n ≤ c ∧ n < 4611686018427387904
  alts := fun ⟨bp, q, b, base, l, n, c⟩ => [⟨Unit, fun _ => True, fun _ => .ifc 60 (.agg [.int .i64 (l.getD ((n : Int) - 1).toNat (0, 0)).1, .int .i64 (l.getD ((n : Int) - 1).toNat (0, 0)).2]), fun _ => hp bp q b base true false l ((n : Int) - 1).toNat c⟩]
  mat vs m := match vs with
    | [p] => matH p m
    | _ => none
  ok := fun ⟨_, _, _, _, _, _, _⟩ h => popM_ok _ _ _ _ _ _ _ h.1 h.2.1 h.2.2.1 h.2.2.2

theorem push_sl (bp q b base : Nat) (l : List Ent) (n c : Nat) (e : Ent) (h : HOK l n c) (hb : n < 1048576) :
    Does (C := C0) Tryd.prog (.fn 33) (hp bp q b base true true l n c) [.ifc 62 (.ptr 0 0 0), .ifc 60 (.agg [.int .i64 e.1, .int .i64 e.2])]
     [⟨Nat × Nat × List Ent × Nat, fun y => HOK y.2.2.1 (n + 1) y.2.2.2 ∧ (y.2.2.1.take (n + 1)).Perm (l.take n ++ [e]), fun _ => .tup [], pushOut bp q b base n⟩] := by
  have h1 := h.le
  have h2 := h.len
  refine loc_fn (P := Tryd.prog) (E := ⟨[fcPushSl, fcPushNil, fcUp], [pcLen], 12, []⟩) (L := []) mix Tryd.func33 rfl (by kernel_rfl) (by kernel_rfl) rfl rfl ?_
  ((conv => (arg 1; reduce)); with_reducible repeat' (first | exact Tr.yes_h | refine Tr.and_h ?_ ?_ | refine Tr.imp_h fun _ => ?_ | refine Tr.all_h fun _ => ?_ | refine Tr.lf_h ?_))
  all_goals try (first | first | (show Region.lexB _ _ = true; kernel_rfl) | (show planned _ _ = true; kernel_rfl) | exact rfl | exact True.intro | ((try dsimp only [imp, C0, cG, cInt2] at *); (try refine inR64 ?_ ?_) <;> (try simp only [List.length_set, List.length_append, List.length_take, List.length_drop]) <;> omega))
  · exact ⟨h1, h2, hb⟩
  · rename_i y hy
    obtain ⟨sp, e1, e2, e3⟩ := hy
    have en : (((n + 1 : Nat) : Int) - 1).toNat = n := by omega
    show HeapUp y.2.2.1 (n + 1) (((n + 1 : Nat) : Int) - 1).toNat ∧ _ < n + 1 ∧ n + 1 ≤ n + 1 ∧ _ ∧ n + 1 < 1048577
    rw [en]
    refine ⟨heap_push h.heap _ fun k hk => ?_, Nat.lt_succ_self n, Nat.le_refl _, ?_, by omega⟩
    · rw [e1]; exact at_push _ _ hk (by omega)
    · rw [e1]; simp; omega
  · rename_i y hy l' hl'
    obtain ⟨sp, e1, e2, e3⟩ := hy
    obtain ⟨g1, g2⟩ := hl'
    refine Ends.one (y.1, y.2.1, l', y.2.2.2) ?_ ?_
    · exact h.push (e := e) (sp := sp) (by rw [e1] at g1; exact g1) g2 e2 e3
    · ((conv => (arg 1; reduce)); with_reducible repeat' (first | exact Tr.yes_h | refine Tr.and_h ?_ ?_ | refine Tr.imp_h fun _ => ?_ | refine Tr.all_h fun _ => ?_ | refine Tr.lf_h ?_))
      all_goals (first | first | (show Region.lexB _ _ = true; kernel_rfl) | (show planned _ _ = true; kernel_rfl) | exact rfl | exact True.intro | ((try dsimp only [imp, C0, cG, cInt2] at *); (try refine inR64 ?_ ?_) <;> (try simp only [List.length_set, List.length_append, List.length_take, List.length_drop]) <;> omega))

theorem push_nil (bp q : Nat) (e : Ent) :
    Does (C := C0) Tryd.prog (.fn 33) [⟨bp, q, 1, true, none, .one [.nils]⟩] [.ifc 62 (.ptr 0 0 0), .ifc 60 (.agg [.int .i64 e.1, .int .i64 e.2])]
     [⟨Nat × List Ent × Nat, fun y => HOK y.2.1 1 y.2.2 ∧ (y.2.1.take 1).Perm [e], fun _ => .tup [], fun y => [⟨bp, q, 1, true, none, .one [.sl 1 0 1 y.2.2]⟩, ⟨y.1, 0, 2, true, none, .rows 60 y.2.1⟩]⟩] := by
  refine loc_fn (P := Tryd.prog) (E := ⟨[fcPushSl, fcPushNil, fcUp], [pcLen], 12, []⟩) (L := []) mix Tryd.func33 rfl (by kernel_rfl) (by kernel_rfl) rfl rfl ?_
  have h : HOK [] 0 0 := ⟨Nat.le_refl _, Nat.le_refl _, fun k _ hk => by omega⟩
  ((conv => (arg 1; reduce)); with_reducible repeat' (first | exact Tr.yes_h | refine Tr.and_h ?_ ?_ | refine Tr.imp_h fun _ => ?_ | refine Tr.all_h fun _ => ?_ | refine Tr.lf_h ?_))
  all_goals try (first | first | (show Region.lexB _ _ = true; kernel_rfl) | (show planned _ _ = true; kernel_rfl) | exact rfl | exact True.intro | ((try dsimp only [imp, C0, cG, cInt2] at *); (try refine inR64 ?_ ?_) <;> (try simp only [List.length_set, List.length_append, List.length_take, List.length_drop]) <;> omega))
  · rename_i y hy
    obtain ⟨sp, e1, e2⟩ := hy
    show HeapUp y.2.1 (0 + 1) (((1 : Nat) : Int) - 1).toNat ∧ _ < 1 ∧ 1 ≤ 1 ∧ _ ∧ 1 < 1048577
    refine ⟨heap_push h.heap _ fun k hk => by omega, by decide, Nat.le_refl _, ?_, by decide⟩
    rw [e1]; simp
  · rename_i y hy l' hl'
    obtain ⟨sp, e1, e2⟩ := hy
    obtain ⟨g1, g2⟩ := hl'
    refine Ends.one (y.1, l', y.2.2) ?_ ?_
    · have := h.push (e := e) (sp := sp) (l' := l') (c' := y.2.2) (by rw [e1] at g1; exact g1) g2 (by omega) (by omega)
      exact this
    · ((conv => (arg 1; reduce)); with_reducible repeat' (first | exact Tr.yes_h | refine Tr.and_h ?_ ?_ | refine Tr.imp_h fun _ => ?_ | refine Tr.all_h fun _ => ?_ | refine Tr.lf_h ?_))
      all_goals (first | first | (show Region.lexB _ _ = true; kernel_rfl) | (show planned _ _ = true; kernel_rfl) | exact rfl | exact True.intro | ((try dsimp only [imp, C0, cG, cInt2] at *); (try refine inR64 ?_ ?_) <;> (try simp only [List.length_set, List.length_append, List.length_take, List.length_drop]) <;> omega))

/-- Taken out of a heap of n + 1: the one at i; it lies where the heap has ended. -/
abbrev cutPost (l : List Ent) (n c i : Nat) (l' : List Ent) : Prop := HOK l' n c ∧ at_ l' n = at_ l i ∧ (l.take (n + 1)).Perm (at_ l i :: l'.take n)

theorem predN (n : Nat) : (((n + 1 : Nat) : Int) - 1).toNat = n := by omega
theorem pop_ok (bp q b base : Nat) (l : List Ent) (n c : Nat) (h : HOK l (n + 1) c) (hb : n < 1048576) :
    Does (C := C0) Tryd.prog (.fn 24) (hp bp q b base true true l (n + 1) c) [.ifc 62 (.ptr 0 0 0)]
     [⟨List Ent, cutPost l n c 0, fun l' => .ifc 60 (.agg [.int .i64 (at_ l' n).1, .int .i64 (at_ l' n).2]), fun l' => hp bp q b base true true l' n c⟩] := by
  have h1 := h.le
  have h2 := h.len
  refine loc_fn (P := Tryd.prog) (E := ⟨[fcSwap, fcDown, fcPopM], [pcLen], 15, []⟩) (L := []) mix Tryd.func24 rfl (by kernel_rfl) (by kernel_rfl) rfl rfl ?_
  ((conv => (arg 1; reduce)); with_reducible repeat' (first | exact Tr.yes_h | refine Tr.and_h ?_ ?_ | refine Tr.imp_h fun _ => ?_ | refine Tr.all_h fun _ => ?_ | refine Tr.lf_h ?_))
  all_goals try (first | first | (show Region.lexB _ _ = true; kernel_rfl) | (show planned _ _ = true; kernel_rfl) | exact rfl | exact True.intro | ((try dsimp only [imp, C0, cG, cInt2] at *); (try refine inR64 ?_ ?_) <;> (try simp only [List.length_set, List.length_append, List.length_take, List.length_drop]) <;> omega))
  · show 0 ≤ (0 : Int) ∧ (0 : Int) < (n + 1 : Nat) ∧ 0 ≤ ((n + 1 : Nat) : Int) - 1 ∧ ((n + 1 : Nat) : Int) - 1 < (n + 1 : Nat) ∧ n + 1 ≤ l.length
    omega
  · show HeapX (swp l 0 (((n + 1 : Nat) : Int) - 1).toNat) (((n + 1 : Nat) : Int) - 1).toNat 0 ∧ 0 ≤ (((n + 1 : Nat) : Int) - 1).toNat ∧ (((n + 1 : Nat) : Int) - 1).toNat ≤ n + 1 ∧ n + 1 ≤ (swp _ _ _).length ∧ (((n + 1 : Nat) : Int) - 1).toNat < 1048577
    rw [predN, length_swp]
    exact ⟨heap_cut h.heap (by omega) (Nat.zero_le _), Nat.zero_le _, by omega, by omega, by omega⟩
  · rename_i u hu y hy
    obtain ⟨g1, g2, g3⟩ := hy
    have := g1.1
    rw [length_swp] at this
    show 0 < n + 1 ∧ n + 1 ≤ y.1.length ∧ n + 1 ≤ c ∧ n + 1 < 4611686018427387904
    omega
  · rename_i u hu y hy v hv
    rw [predN] at hy
    obtain ⟨g1, g2, g3⟩ := hy
    have hh : HeapL y.1 n := by
      cases hyb : y.2 with
      | true => exact g2 hyb
      | false => exact up_done (g3 hyb) (fun h0 => absurd h0 (Nat.lt_irrefl 0))
    refine Ends.one y.1 (h.cut (Nat.zero_le _) (.inl rfl) g1 hh) ?_
    ((conv => (arg 1; reduce)); with_reducible repeat' (first | exact Tr.yes_h | refine Tr.and_h ?_ ?_ | refine Tr.imp_h fun _ => ?_ | refine Tr.all_h fun _ => ?_ | refine Tr.lf_h ?_))
    all_goals first | (first | first | (show Region.lexB _ _ = true; kernel_rfl) | (show planned _ _ = true; kernel_rfl) | exact rfl | exact True.intro | ((try dsimp only [imp, C0, cG, cInt2] at *); (try refine inR64 ?_ ?_) <;> (try simp only [List.length_set, List.length_append, List.length_take, List.length_drop]) <;> omega)) | exact predN n | (rw [predN])

theorem remove_ok (bp q b base : Nat) (l : List Ent) (n c i : Nat) (h : HOK l (n + 1) c) (hi : i ≤ n) (hb : n < 1048576) :
    Does (C := C0) Tryd.prog (.fn 25) (hp bp q b base true true l (n + 1) c) [.ifc 62 (.ptr 0 0 0), .int .i64 i]
     [⟨List Ent, cutPost l n c i, fun l' => .ifc 60 (.agg [.int .i64 (at_ l' n).1, .int .i64 (at_ l' n).2]), fun l' => hp bp q b base true true l' n c⟩] := by
  have h1 := h.le
  have h2 := h.len
  refine loc_fn (P := Tryd.prog) (E := ⟨[fcSwap, fcDown, fcUp1, fcPopM], [pcLen], 26, []⟩) (L := []) mix Tryd.func25 rfl (by kernel_rfl) (by kernel_rfl) rfl rfl ?_
  ((conv => (arg 1; reduce)); with_reducible repeat' (first | exact Tr.yes_h | refine Tr.and_h ?_ ?_ | refine Tr.imp_h fun _ => ?_ | refine Tr.all_h fun _ => ?_ | refine Tr.lf_h ?_))
  all_goals try (first | first | (show Region.lexB _ _ = true; kernel_rfl) | (show planned _ _ = true; kernel_rfl) | exact rfl | exact True.intro | ((try dsimp only [imp, C0, cG, cInt2] at *); (try refine inR64 ?_ ?_) <;> (try simp only [List.length_set, List.length_append, List.length_take, List.length_drop]) <;> omega))
  · rename_i hc
    show 0 ≤ (i : Int) ∧ (i : Int) < (n + 1 : Nat) ∧ 0 ≤ ((n + 1 : Nat) : Int) - 1 ∧ ((n + 1 : Nat) : Int) - 1 < (n + 1 : Nat) ∧ n + 1 ≤ l.length
    omega
  · rename_i hc u hu
    show HeapX (swp l i (((n + 1 : Nat) : Int) - 1).toNat) (((n + 1 : Nat) : Int) - 1).toNat i ∧ i ≤ (((n + 1 : Nat) : Int) - 1).toNat ∧ (((n + 1 : Nat) : Int) - 1).toNat ≤ n + 1 ∧ n + 1 ≤ (swp _ _ _).length ∧ (((n + 1 : Nat) : Int) - 1).toNat < 1048577
    rw [predN, length_swp]
    exact ⟨heap_cut h.heap (by omega) hi, hi, by omega, by omega, by omega⟩
  · rename_i hc u hu y hy hd
    rw [predN] at hy
    obtain ⟨g1, g2, g3⟩ := hy
    have hlen := g1.1
    rw [length_swp] at hlen
    have hin : i < n := by have := of_decide_eq_true hc; omega
    show HeapUp y.1 n i ∧ i < n ∧ n ≤ n + 1 ∧ n + 1 ≤ y.1.length ∧ n < 1048577
    exact ⟨g3 (by simpa using hd), hin, by omega, by omega, by omega⟩
  · rename_i hc u hu y hy hd z hz
    rw [predN] at hy
    obtain ⟨g1, g2, g3⟩ := hy
    have hlen := g1.1
    rw [length_swp] at hlen
    have hlen2 := hz.1.1
    show 0 < n + 1 ∧ n + 1 ≤ List.length z ∧ n + 1 ≤ c ∧ n + 1 < 4611686018427387904
    rw [hlen2]
    omega
  · rename_i hc u hu y hy hd z hz v hv
    rw [predN] at hy
    obtain ⟨g1, g2, g3⟩ := hy
    refine Ends.one z (h.cut hi (.inl rfl) (g1.trans hz.1) hz.2) ?_
    ((conv => (arg 1; reduce)); with_reducible repeat' (first | exact Tr.yes_h | refine Tr.and_h ?_ ?_ | refine Tr.imp_h fun _ => ?_ | refine Tr.all_h fun _ => ?_ | refine Tr.lf_h ?_))
    all_goals first | (first | first | (show Region.lexB _ _ = true; kernel_rfl) | (show planned _ _ = true; kernel_rfl) | exact rfl | exact True.intro | ((try dsimp only [imp, C0, cG, cInt2] at *); (try refine inR64 ?_ ?_) <;> (try simp only [List.length_set, List.length_append, List.length_take, List.length_drop]) <;> omega)) | exact predN n | rw [predN]
  · rename_i hc u hu y hy hd
    rw [predN] at hy
    obtain ⟨g1, g2, g3⟩ := hy
    have hlen := g1.1
    rw [length_swp] at hlen
    show 0 < n + 1 ∧ n + 1 ≤ y.1.length ∧ n + 1 ≤ c ∧ n + 1 < 4611686018427387904
    omega
  · rename_i hc u hu y hy hd v hv
    rw [predN] at hy
    obtain ⟨g1, g2, g3⟩ := hy
    refine Ends.one y.1 (h.cut hi (.inl rfl) g1 (g2 (by simpa using hd))) ?_
    ((conv => (arg 1; reduce)); with_reducible repeat' (first | exact Tr.yes_h | refine Tr.and_h ?_ ?_ | refine Tr.imp_h fun _ => ?_ | refine Tr.all_h fun _ => ?_ | refine Tr.lf_h ?_))
    all_goals first | (first | first | (show Region.lexB _ _ = true; kernel_rfl) | (show planned _ _ = true; kernel_rfl) | exact rfl | exact True.intro | ((try dsimp only [imp, C0, cG, cInt2] at *); (try refine inR64 ?_ ?_) <;> (try simp only [List.length_set, List.length_append, List.length_take, List.length_drop]) <;> omega)) | exact predN n | rw [predN]
  · rename_i hc
    show 0 < n + 1 ∧ n + 1 ≤ l.length ∧ n + 1 ≤ c ∧ n + 1 < 4611686018427387904
    omega
  · rename_i hc v hv
    have hin : i = n := by have := of_decide_eq_false hc; omega
    refine Ends.one l (h.cut hi (.inr ⟨hin, rfl⟩) (Same.refl _ _) fun k hk0 hkn => h.heap k hk0 (by omega)) ?_
    ((conv => (arg 1; reduce)); with_reducible repeat' (first | exact Tr.yes_h | refine Tr.and_h ?_ ?_ | refine Tr.imp_h fun _ => ?_ | refine Tr.all_h fun _ => ?_ | refine Tr.lf_h ?_))
    all_goals first | (first | first | (show Region.lexB _ _ = true; kernel_rfl) | (show planned _ _ = true; kernel_rfl) | exact rfl | exact True.intro | ((try dsimp only [imp, C0, cG, cInt2] at *); (try refine inR64 ?_ ?_) <;> (try simp only [List.length_set, List.length_append, List.length_take, List.length_drop]) <;> omega)) | exact predN n | rw [predN]

noncomputable def fcPush : Fc Tryd.prog C0 where
  tg := .fn 33
  X := Hx × Ent
  args := fun (_, e) => [.ifc 62 (.ptr 0 0 0), .ifc 60 (.agg [.int .i64 e.1, .int .i64 e.2])]
  mem := fun (⟨bp, q, b, base, l, n, c⟩, _) => hp bp q b base true true l n c
  pre := fun (⟨_, _, _, _, l, n, c⟩, _) => HOK l n c ∧ n < 1048576
  alts := fun (⟨bp, q, b, base, l, n, c⟩, e) => [⟨Nat × Nat × List Ent × Nat, fun y => HOK y.2.2.1 (n + 1) y.2.2.2 ∧ (y.2.2.1.take (n + 1)).Perm (l.take n ++ [e]), fun _ => .tup [], pushOut bp q b base n⟩]
  mat vs m := match vs with
    | [.ifc _ p, .ifc 60 (.agg [.int _ a, .int _ b])] => (matH p m).map fun (h, r) => ((h, (a, b)), r)
    | _ => none
  ok := fun (⟨_, _, _, _, _, _, _⟩, _) h => push_sl _ _ _ _ _ _ _ _ h.1 h.2
noncomputable def fcPush0 : Fc Tryd.prog C0 where
  tg := .fn 33
  X := (Nat × Nat) × Ent
  args := fun (_, e) => [.ifc 62 (.ptr 0 0 0), .ifc 60 (.agg [.int .i64 e.1, .int .i64 e.2])]
  mem := fun ((bp, q), _) => [⟨bp, q, 1, true, none, .one [.nils]⟩]
  pre _ := True
  alts := fun ((bp, q), e) => [⟨Nat × List Ent × Nat, fun y => HOK y.2.1 1 y.2.2 ∧ (y.2.1.take 1).Perm [e], fun _ => .tup [], fun y => [⟨bp, q, 1, true, none, .one [.sl 1 0 1 y.2.2]⟩, ⟨y.1, 0, 2, true, none, .rows 60 y.2.1⟩]⟩]
  mat vs m := match vs with
    | [.ifc _ p, .ifc 60 (.agg [.int _ a, .int _ b])] => (matN p m).map fun (h, r) => ((h, (a, b)), r)
    | _ => none
  ok := fun ((_, _), _) _ => push_nil _ _ _
noncomputable def fcPop : Fc Tryd.prog C0 where
  tg := .fn 24
  X := Hx
  args := fun _ => [.ifc 62 (.ptr 0 0 0)]
  mem := fun ⟨bp, q, b, base, l, n, c⟩ => hp bp q b base true true l (n - 1 + 1) c
  pre := fun ⟨_, _, _, _, l, n, c⟩ => HOK l (n - 1 + 1) c ∧ n - 1 < 1048576
  alts := fun ⟨bp, q, b, base, l, n, c⟩ => [⟨List Ent, cutPost l (n - 1) c 0, fun l' => .ifc 60 (.agg [.int .i64 (at_ l' (n - 1)).1, .int .i64 (at_ l' (n - 1)).2]), fun l' => hp bp q b base true true l' (n - 1) c⟩]
  mat vs m := match vs with
    | [.ifc _ p] => matH p m
    | _ => none
  ok := fun ⟨_, _, _, _, _, _, _⟩ h => pop_ok _ _ _ _ _ _ _ h.1 h.2
noncomputable def fcRem : Fc Tryd.prog C0 where
  tg := .fn 25
  X := Hx × Nat
  args := fun (_, i) => [.ifc 62 (.ptr 0 0 0), .int .i64 i]
  mem := fun (⟨bp, q, b, base, l, n, c⟩, i) => hp bp q b base true true l (n - 1 + 1) c
  pre := fun (⟨_, _, _, _, l, n, c⟩, i) => HOK l (n - 1 + 1) c ∧ i ≤ n - 1 ∧ n - 1 < 1048576
  alts := fun (⟨bp, q, b, base, l, n, c⟩, i) => [⟨List Ent, cutPost l (n - 1) c i, fun l' => .ifc 60 (.agg [.int .i64 (at_ l' (n - 1)).1, .int .i64 (at_ l' (n - 1)).2]), fun l' => hp bp q b base true true l' (n - 1) c⟩]
  mat vs m := match vs with
    | [.ifc _ p, .int _ i] => (matH p m).map fun (h, r) => ((h, i.toNat), r)
    | _ => none
  ok := fun (⟨_, _, _, _, _, _, _⟩, _) h => remove_ok _ _ _ _ _ _ _ _ h.1 h.2.1 h.2.2
end Go.Vx
