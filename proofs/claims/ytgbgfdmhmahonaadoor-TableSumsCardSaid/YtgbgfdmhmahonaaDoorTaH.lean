/-
  Round 20: all slots of a table, in order.
  Conditions: none.
-/
import Derived.Test.YtgbgfdmhmahonaaDoorTaG
set_option linter.unusedSectionVars false
set_option maxRecDepth 100000
set_option linter.unusedVariables false
set_option linter.unusedSimpArgs false
namespace Go.Vx
open Go Go.Proofs
variable [Gl]

theorem Vis.slotA {x : Tb} {v : List Ke} (hv : Vis x v) {l : List Slot} (h : v.map (·.2.1) = l) {s : Slot} (hs : s ∈ l) : s ∈ tl x := by
  rw [← h] at hs
  obtain ⟨e, he, rfl⟩ := List.mem_map.1 hs
  exact List.mem_map.2 ⟨e, hv.mem he, rfl⟩
/-- Nothing met yet that is asked for. -/
def Sa0 (x : Tb) : Inv' C0 := ⟨3, List Ke, fun _ => [(7, .nils)],
  fun v m => match m with
    | [a, b, c, it] => [a, b, c, ⟨it.block, it.base, it.sz, it.wr, it.gl, .it 1 (bns v) x.kc⟩]
    | m => m,
  fun v => Vis x v ∧ (v.map (·.2.1)) = [], fun v => (lft x.kl v).length⟩
/-- Some are there. -/
def Sa1 (x : Tb) : Inv' C0 := ⟨3, List Ke × Nat × Nat × List Slot × Nat × Nat, fun (v, b, q, l, n, c) => [(7, .sl 4 0 n c)],
  fun (v, rb, rq, l, n, c) m => match m with
    | [a, b, c, it] => [a, b, c, ⟨it.block, it.base, it.sz, it.wr, it.gl, .it 1 (bns v) x.kc⟩, ⟨rb, rq, 9, true, none, .rows 53 l⟩]
    | m => m,
  fun (v, b, q, l, n, c) => Vis x v ∧ (v.map (·.2.1)) = l.take n ∧ 0 < n ∧ n ≤ c ∧ c ≤ l.length ∧ n ≤ v.length, fun (v, _) => (lft x.kl v).length⟩
set_option maxHeartbeats 8000000 in
theorem slotsA_ok (x : Tb) (h : Rep x) (hs : ∀ s ∈ tl x, Sm s) (hl : x.kl.length < 1048576) : Does (C := C0) Tryd.prog (.fn 29) (tbr x) [.ptr 0 0 0, .fn (.func 32) [] [], .fn (.func 33) [] []]
    [⟨Unit, fun _ => tl x = [], fun _ => .nils, fun _ => tbr x⟩,
     ⟨Nat × Nat × List Slot × Nat × List Slot, fun y => Srt leKey (tl x) y.2.2.1 ∧ 0 < y.2.2.1.length ∧ y.2.2.1.length ≤ y.2.2.2.1 ∧ y.2.2.2.1 ≤ y.2.2.1.length + y.2.2.2.2.length, fun y => .sl 3 0 y.2.2.1.length y.2.2.2.1, fun y => tbr x ++ [⟨y.1, y.2.1, 9, true, none, .rows 53 (y.2.2.1 ++ y.2.2.2.2)⟩]⟩] := by
  refine loc_fn (P := Tryd.prog) (E := ⟨[fcSortK, fcSortN], [pcAll1], 30, []⟩) (L := [Sa0 x, Sa1 x]) mix Tryd.func29 rfl (by kernel_rfl) (by kernel_rfl) rfl rfl ?_
  ((conv => (arg 1; reduce)); with_reducible repeat' (first | exact Tr.yes_h | refine Tr.and_h ?_ ?_ | refine Tr.imp_h fun _ => ?_ | refine Tr.all_h fun _ => ?_ | refine Tr.lf_h ?_))
  all_goals try (first | first | (show Region.lexB _ _ = true; kernel_rfl) | (show planned _ _ = true; kernel_rfl) | exact rfl | exact True.intro | (first | exact key3 | exact key30 | exact zero3 | exact zero53 | exact eq30 | exact ⟨key3, zero53⟩ | exact ⟨key30, zero3⟩) | ((try dsimp only [imp, C0, cG, cInt, cPl, cSlot, cDo] at *); (try refine inR64 ?_ ?_) <;> (try simp only [List.length_set, List.length_append, List.length_take, List.length_drop]) <;> omega))
  · rename_i it
    refine Stands.one [] ⟨⟨Vis.nil x, rfl⟩, ?_⟩
    ((conv => (arg 1; reduce)); with_reducible repeat' (first | exact Tr.yes_h | refine Tr.and_h ?_ ?_ | refine Tr.imp_h fun _ => ?_ | refine Tr.all_h fun _ => ?_ | refine Tr.lf_h ?_))
    all_goals (first | first | (show Region.lexB _ _ = true; kernel_rfl) | (show planned _ _ = true; kernel_rfl) | exact rfl | exact True.intro | (first | exact key3 | exact key30 | exact zero3 | exact zero53 | exact eq30 | exact ⟨key3, zero53⟩ | exact ⟨key30, zero3⟩) | ((try dsimp only [imp, C0, cG, cInt, cPl, cSlot, cDo] at *); (try refine inR64 ?_ ?_) <;> (try simp only [List.length_set, List.length_append, List.length_take, List.length_drop]) <;> omega))
  · exact ⟨rfl, rfl, next_c h⟩
  · rename_i it v hv hd u1 u2
    refine Ends.one () ?_ ?_
    · have hp := hv.1.done hd
      have := hp.map (·.2.1)
      rw [hv.2] at this
      exact this.nil_eq.symm
    ((conv => (arg 1; reduce)); with_reducible repeat' (first | exact Tr.yes_h | refine Tr.and_h ?_ ?_ | refine Tr.imp_h fun _ => ?_ | refine Tr.all_h fun _ => ?_ | refine Tr.lf_h ?_))
    all_goals (first | first | (show Region.lexB _ _ = true; kernel_rfl) | (show planned _ _ = true; kernel_rfl) | exact rfl | exact True.intro | (first | exact key3 | exact key30 | exact zero3 | exact zero53 | exact eq30 | exact ⟨key3, zero53⟩ | exact ⟨key30, zero3⟩) | ((try dsimp only [imp, C0, cG, cInt, cPl, cSlot, cDo] at *); (try refine inR64 ?_ ?_) <;> (try simp only [List.length_set, List.length_append, List.length_take, List.length_drop]) <;> omega))
  · rename_i it v hv e he
    exact ⟨rfl, rfl, entry_c he.1⟩
  · rw [by53]; exact ⟨Nat.le_refl 1, by decide⟩
  · rename_i it v hv e he b9 b1 h01 b2 sp
    change List Ke at v
    change List Slot at sp
    have hm := mat_last h (v := bns v) he.1
    obtain ⟨h1, h2⟩ := hv.1.add h he
    refine Stands.next (Stands.one (v ++ [e], b2, 0, e.2.1 :: sp, 1, 1 + sp.length) ⟨⟨h1, ?_, Nat.zero_lt_one, Nat.le_add_right _ _, ?_, ?_⟩, h2, ?_⟩)
    · rw [List.map_append, hv.2]; rfl
    · rw [List.length_cons, Nat.add_comm]; exact Nat.le_refl _
    · rw [List.length_append]; exact Nat.le_add_left _ _
    ((conv => (arg 1; reduce)); with_reducible repeat' (first | exact Tr.yes_h | refine Tr.and_h ?_ ?_ | refine Tr.imp_h fun _ => ?_ | refine Tr.all_h fun _ => ?_ | refine Tr.lf_h ?_))
    all_goals first | (first | first | (show Region.lexB _ _ = true; kernel_rfl) | (show planned _ _ = true; kernel_rfl) | exact rfl | exact True.intro | (first | exact key3 | exact key30 | exact zero3 | exact zero53 | exact eq30 | exact ⟨key3, zero53⟩ | exact ⟨key30, zero3⟩) | ((try dsimp only [imp, C0, cG, cInt, cPl, cSlot, cDo] at *); (try refine inR64 ?_ ?_) <;> (try simp only [List.length_set, List.length_append, List.length_take, List.length_drop]) <;> omega)) | (rw [hm]; rfl) | (simp; done)
  · exact ⟨rfl, rfl, next_c h⟩
  · rename_i it v hv hd
    obtain ⟨v, rb, rq, l, n', c⟩ := v
    obtain ⟨h1, h2, h3, h4, h5, h6⟩ := hv
    have := h1.len
    exact ⟨by show n' ≤ l.length; omega, fun s hs' => hs s (h1.slotA h2 hs'), by show n' < 1048576; omega⟩
  · rename_i it v hv hd l' hl'
    obtain ⟨v, rb, rq, l, n', c⟩ := v
    change List Slot at l'
    obtain ⟨h1, h2, h3, h4, h5, h6⟩ := hv
    have hp := h1.done hd
    have hp := hp.map (·.2.1)
    rw [h2] at hp
    have hl' : Srt leKey (l.take n') l' := hl'
    have e1 : l'.length = n' := by rw [hl'.perm.length_eq, List.length_take, Nat.min_eq_left (by omega)]
    refine Ends.next (Ends.one (rb, rq, l', c, l.drop n') ⟨⟨hl'.perm.trans hp, hl'.ord⟩, ?_, ?_, ?_⟩ ?_)
    · rw [e1]; exact h3
    · rw [e1]; exact h4
    · rw [e1, List.length_drop]
      show c ≤ n' + (l.length - n')
      omega
    ((conv => (arg 1; reduce)); with_reducible repeat' (first | exact Tr.yes_h | refine Tr.and_h ?_ ?_ | refine Tr.imp_h fun _ => ?_ | refine Tr.all_h fun _ => ?_ | refine Tr.lf_h ?_))
    all_goals first | (first | first | (show Region.lexB _ _ = true; kernel_rfl) | (show planned _ _ = true; kernel_rfl) | exact rfl | exact True.intro | (first | exact key3 | exact key30 | exact zero3 | exact zero53 | exact eq30 | exact ⟨key3, zero53⟩ | exact ⟨key30, zero3⟩) | ((try dsimp only [imp, C0, cG, cInt, cPl, cSlot, cDo] at *); (try refine inR64 ?_ ?_) <;> (try simp only [List.length_set, List.length_append, List.length_take, List.length_drop]) <;> omega)) | exact e1 | exact e1.symm
  · rename_i it v hv e he
    exact ⟨rfl, rfl, entry_c he.1⟩
  · rename_i it v hv e he b9 b1
    obtain ⟨v, rb, rq, l, n', c⟩ := v
    obtain ⟨h1, h2, h3, h4, h5, h6⟩ := hv
    have := h1.len
    rw [by53]
    refine ⟨h4, by show 0 + c ≤ l.length; omega, Nat.le_refl 1, ?_⟩
    show (n' + 1) * 72 ≤ _
    omega
  · rename_i it v hv e he b9 b1 b2 q2 sp cap g1 g2
    obtain ⟨v, rb, rq, l, n', c⟩ := v
    change List Slot at sp
    have g1 : n' + 1 ≤ cap := g1
    have g2 : cap ≤ n' + 1 + sp.length := g2
    obtain ⟨h1, h2, h3, h4, h5, h6⟩ := hv
    have hm := mat_last h (v := bns v) he.1
    have hlt := h1.lt h he
    obtain ⟨k1, k2⟩ := h1.add h he
    have e2 : (l.take n' ++ [e.2.1] ++ sp).take (n' + 1) = l.take n' ++ [e.2.1] := by
      rw [List.take_append_of_le_length (by simp; omega), List.take_of_length_le (by simp; omega)]
    refine Stands.next (Stands.one (v ++ [e], b2, q2, l.take n' ++ [e.2.1] ++ sp, n' + 1, cap) ⟨⟨k1, ?_, Nat.succ_pos _, g1, ?_, ?_⟩, k2, ?_⟩)
    · rw [List.map_append, h2, e2]; rfl
    · simp only [List.length_append, List.length_take, List.length_cons, List.length_nil]; omega
    · rw [List.length_append]; exact Nat.succ_le_succ h6
    ((conv => (arg 1; reduce)); with_reducible repeat' (first | exact Tr.yes_h | refine Tr.and_h ?_ ?_ | refine Tr.imp_h fun _ => ?_ | refine Tr.all_h fun _ => ?_ | refine Tr.lf_h ?_))
    all_goals first | (first | first | (show Region.lexB _ _ = true; kernel_rfl) | (show planned _ _ = true; kernel_rfl) | exact rfl | exact True.intro | (first | exact key3 | exact key30 | exact zero3 | exact zero53 | exact eq30 | exact ⟨key3, zero53⟩ | exact ⟨key30, zero3⟩) | ((try dsimp only [imp, C0, cG, cInt, cPl, cSlot, cDo] at *); (try refine inR64 ?_ ?_) <;> (try simp only [List.length_set, List.length_append, List.length_take, List.length_drop]) <;> omega)) | (rw [hm]; rfl) | (simp; done)
noncomputable def fcSlotsA : Fc Tryd.prog C0 where
  tg := .fn 29
  X := Tb
  args x := [.ptr 0 0 0, .fn (.func 32) [] [], .fn (.func 33) [] []]
  mem x := tbr x
  pre x := Rep x ∧ (∀ s ∈ tl x, Sm s) ∧ x.kl.length < 1048576
  alts x := [⟨Unit, fun _ => tl x = [], fun _ => .nils, fun _ => tbr x⟩,
     ⟨Nat × Nat × List Slot × Nat × List Slot, fun y => Srt leKey (tl x) y.2.2.1 ∧ 0 < y.2.2.1.length ∧ y.2.2.1.length ≤ y.2.2.2.1 ∧ y.2.2.2.1 ≤ y.2.2.1.length + y.2.2.2.2.length, fun y => .sl 3 0 y.2.2.1.length y.2.2.2.1, fun y => tbr x ++ [⟨y.1, y.2.1, 9, true, none, .rows 53 (y.2.2.1 ++ y.2.2.2.2)⟩]⟩]
  mat vs m := match vs with
    | [.ptr p 0 0, .fn (.func 32) [] [], .fn (.func 33) [] []] => match tbOf m p with
      | some (x, l) => some (x, l)
      | none => none
    | _ => none
  ok x h := slotsA_ok x h.1 h.2.1 h.2.2
end Go.Vx
