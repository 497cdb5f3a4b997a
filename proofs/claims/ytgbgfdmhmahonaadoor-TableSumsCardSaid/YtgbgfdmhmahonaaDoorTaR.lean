/-
  Round 20: Same.
  Conditions: none.
-/
import Derived.Test.YtgbgfdmhmahonaaDoorTaQ
set_option linter.unusedSectionVars false
set_option maxRecDepth 100000
set_option linter.unusedVariables false
set_option linter.unusedSimpArgs false
namespace Go.Vx
open Go Go.Proofs
variable [Gl]

abbrev tbr2 : Tb → Tb → List (Ck C0)
  | ⟨tp, tq, bs, ps, kb, kl, kc, pb, pl, pc⟩, ⟨tp', tq', bs', ps', kb', kl', kc', pb', pl', pc'⟩ =>
    [⟨tp, tq, 4, false, none, .one [.int .i64 bs, .int .i64 ps, .mp 1, .mp 2]⟩, ⟨kb, 0, 0, false, none, .mp 3 53 kl kc⟩, ⟨pb, 0, 0, false, none, .mp 30 3 pl pc⟩,
     ⟨tp', tq', 4, false, none, .one [.int .i64 bs', .int .i64 ps', .mp 4, .mp 5]⟩, ⟨kb', 0, 0, false, none, .mp 3 53 kl' kc'⟩, ⟨pb', 0, 0, false, none, .mp 30 3 pl' pc'⟩]
abbrev sameL (L M : List Slot) : Bool := sameB (srtK L) (srtK M)
abbrev Ry := Nat × Nat × List Slot × Nat × List Slot
structure Sorted (L : List Slot) (y : Ry) : Prop where
  is : Srt leKey L y.2.2.1
  pos : 0 < y.2.2.1.length
  cap : y.2.2.1.length ≤ y.2.2.2.1
  fit : y.2.2.2.1 ≤ y.2.2.1.length + y.2.2.2.2.length
theorem Sorted.take {L : List Slot} {y : Ry} (h : Lok L) (hy : Srt leKey L y.2.2.1) : (y.2.2.1 ++ y.2.2.2.2).take y.2.2.1.length = srtK L := by
  rw [List.take_left]; exact srtK_one h hy
theorem srtK_nil : srtK [] = [] := by
  have := (srtK_srt []).perm
  exact this.eq_nil
set_option maxHeartbeats 8000000 in
theorem same_ok (x u : Tb) (h : Tok x) (h' : Tok u) : Tells (C := C0) Tryd.prog (.fn 24) (tbr2 x u) [.ptr 0 0 0, .ptr 3 0 0] (.bool (.tm (sameL (tl x) (tl u)))) := by
  refine loc_pc (P := Tryd.prog) (E := ⟨[fcAll], [pcEqual, pcEqualN, pcEqualA, pcEqualB], 10, []⟩) (L := []) mix Tryd.func24 rfl (by kernel_rfl) (by kernel_rfl) rfl rfl ?_
  ((conv => (arg 1; reduce)); with_reducible repeat' (first | exact Tr.yes_h | refine Tr.and_h ?_ ?_ | refine Tr.imp_h fun _ => ?_ | refine Tr.all_h fun _ => ?_ | refine Tr.lf_h ?_))
  all_goals try (first | first | (show Region.lexB _ _ = true; kernel_rfl) | (show planned _ _ = true; kernel_rfl) | exact rfl | exact True.intro | (first | exact key3 | exact key30 | exact zero3 | exact zero53 | exact eq30 | exact ⟨key3, zero53⟩ | exact ⟨key30, zero3⟩) | ((try dsimp only [imp, C0, cG, cInt, cPl, cSlot, cDo] at *); (try refine inR64 ?_ ?_) <;> (try simp only [List.length_set, List.length_append, List.length_take, List.length_drop]) <;> omega))
  · exact h
  · exact h'
  · rename_i y1 p1 y2 p2
    have p1 : tl x = [] := p1
    have p2 : tl u = [] := p2
    show true = sameL (tl x) (tl u)
    unfold sameL
    rw [p1, p2]; exact (sameB_self _).symm
  · rename_i y1 p1 y2 p2
    exact p2.2.1
  · rename_i y1 p1 y2 p2
    have p1 : tl x = [] := p1
    show false = sameL (tl x) (tl u)
    have e2 := p2.1.perm.length_eq
    have e3 := (srtK_srt (tl u)).perm.length_eq
    unfold sameL
    rw [p1, srtK_nil, sameB_ne]
    have := p2.2.1
    show 0 ≠ (srtK (tl u)).length
    rw [e3, ← e2]
    exact Nat.ne_of_lt this
  · exact h'
  · rename_i y1 p1 y2 p2
    exact p1.2.1
  · rename_i y1 p1 y2 p2
    have p2 : tl u = [] := p2
    show false = sameL (tl x) (tl u)
    have e2 := p1.1.perm.length_eq
    have e3 := (srtK_srt (tl x)).perm.length_eq
    unfold sameL
    rw [p2, srtK_nil, sameB_ne]
    have := p1.2.1
    show (srtK (tl x)).length ≠ 0
    rw [e3, ← e2]
    exact (Nat.ne_of_lt this).symm
  · rename_i y1 p1 y2 p2
    have e2 : y1.2.2.1.length = (tl x).length := p1.1.perm.length_eq
    have := h.len
    refine ⟨by rw [List.length_append]; exact Nat.le_add_right _ _, by rw [List.length_append]; exact Nat.le_add_right _ _, ?_⟩
    show y1.2.2.1.length < _
    rw [e2, List.length_map]; exact h.len
  · rename_i y1 p1 y2 p2
    show sameB _ _ = sameL (tl x) (tl u)
    have e1 : (y1.2.2.1 ++ y1.2.2.2.2).take y1.2.2.1.length = srtK (tl x) := Sorted.take h.rep.ok p1.1
    have e2 : (y2.2.2.1 ++ y2.2.2.2.2).take y2.2.2.1.length = srtK (tl u) := Sorted.take h'.rep.ok p2.1
    rw [e1, e2]
set_option maxHeartbeats 8000000 in
theorem same1_ok (x : Tb) (h : Tok x) : Tells (C := C0) Tryd.prog (.fn 24) (tbr x) [.ptr 0 0 0, .ptr 0 0 0] (.bool .t) := by
  refine loc_pc (P := Tryd.prog) (E := ⟨[fcAll], [pcEqual, pcEqualN, pcEqualA, pcEqualB], 10, []⟩) (L := []) mix Tryd.func24 rfl (by kernel_rfl) (by kernel_rfl) rfl rfl ?_
  ((conv => (arg 1; reduce)); with_reducible repeat' (first | exact Tr.yes_h | refine Tr.and_h ?_ ?_ | refine Tr.imp_h fun _ => ?_ | refine Tr.all_h fun _ => ?_ | refine Tr.lf_h ?_))
  all_goals try (first | first | (show Region.lexB _ _ = true; kernel_rfl) | (show planned _ _ = true; kernel_rfl) | exact rfl | exact True.intro | (first | exact key3 | exact key30 | exact zero3 | exact zero53 | exact eq30 | exact ⟨key3, zero53⟩ | exact ⟨key30, zero3⟩) | ((try dsimp only [imp, C0, cG, cInt, cPl, cSlot, cDo] at *); (try refine inR64 ?_ ?_) <;> (try simp only [List.length_set, List.length_append, List.length_take, List.length_drop]) <;> omega))
  · exact h
  · exact h
  · rename_i y1 p1 y2 p2
    exact p2.2.1
  · rename_i y1 p1 y2 p2
    have p1 : tl x = [] := p1
    have := p2.2.1
    have e2 : y2.2.2.1.length = (tl x).length := p2.1.perm.length_eq
    rw [e2, p1] at this
    exact absurd this (Nat.lt_irrefl 0)
  · exact h
  · rename_i y1 p1 y2 p2
    exact p1.2.1
  · rename_i y1 p1 y2 p2
    have p2 : tl x = [] := p2
    have := p1.2.1
    have e2 : y1.2.2.1.length = (tl x).length := p1.1.perm.length_eq
    rw [e2, p2] at this
    exact absurd this (Nat.lt_irrefl 0)
  · rename_i y1 p1 y2 p2
    have e2 : y1.2.2.1.length = (tl x).length := p1.1.perm.length_eq
    refine ⟨by rw [List.length_append]; exact Nat.le_add_right _ _, by rw [List.length_append]; exact Nat.le_add_right _ _, ?_⟩
    show y1.2.2.1.length < _
    rw [e2, List.length_map]; exact h.len
  · rename_i y1 p1 y2 p2
    show sameB _ _ = true
    have e1 : (y1.2.2.1 ++ y1.2.2.2.2).take y1.2.2.1.length = srtK (tl x) := Sorted.take h.rep.ok p1.1
    have e2 : (y2.2.2.1 ++ y2.2.2.2.2).take y2.2.2.1.length = srtK (tl x) := Sorted.take h.rep.ok p2.1
    rw [e1, e2]; exact sameB_self _
def pcSame1 : Pc Tryd.prog C0 where
  tg := .fn 24
  X := Tb
  args := fun x => [.ptr 0 0 0, .ptr 0 0 0]
  mem := fun x => tbr x
  pre := fun x => Tok x
  res := fun _ => .bool .t
  mat vs m := match vs with
    | [.ptr p 0 0, .ptr p' 0 0] => match Nat.beq p p' with
      | true => tbOf m p
      | false => none
    | _ => none
  ok := fun x h => same1_ok x h
def pcSame2 : Pc Tryd.prog C0 where
  tg := .fn 24
  X := Tb × Tb
  args := fun (x, u) => [.ptr 0 0 0, .ptr 3 0 0]
  mem := fun (x, u) => tbr2 x u
  pre := fun (x, u) => Tok x ∧ Tok u
  res := fun (x, u) => .bool (.tm (sameL (tl x) (tl u)))
  mat vs m := match vs with
    | [.ptr p 0 0, .ptr p' 0 0] => match Nat.beq p p' with
      | true => none
      | false => match tbOf m p, tbOf m p' with
        | some (x, l), some (u, l') => some ((x, u), l ++ l')
        | _, _ => none
    | _ => none
  ok := fun (x, u) h => same_ok x u h.1 h.2
end Go.Vx
