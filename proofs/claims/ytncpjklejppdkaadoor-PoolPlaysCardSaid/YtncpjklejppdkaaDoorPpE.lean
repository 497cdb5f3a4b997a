/-
  Round 17: errors as plain data: bare ones alike.
  Conditions: none.
-/
import Derived.Test.YtncpjklejppdkaaDoorPpA
set_option linter.unusedSectionVars false
set_option maxRecDepth 100000
set_option linter.unusedVariables false
set_option linter.unusedSimpArgs false
namespace Go.Vx
open Go Go.Proofs
variable [Gl]

abbrev flt (n : Int) : SV := .agg [.int .i64 n, .nils]
theorem bare_ok (n : Int) : Tells (C := C0) Tryd.prog (.fn 28) [] [.int .i64 n] (flt n) := by
  refine loc_pc (P := Tryd.prog) (E := ⟨[], [], 5, []⟩) (L := []) mix Tryd.func28 rfl (by kernel_rfl) (by kernel_rfl) rfl rfl ?_
  ((conv => (arg 1; reduce)); with_reducible repeat' (first | exact Tr.yes_h | refine Tr.and_h ?_ ?_ | refine Tr.imp_h fun _ => ?_ | refine Tr.all_h fun _ => ?_ | refine Tr.lf_h ?_))
  all_goals (first | first | (show Region.lexB _ _ = true; kernel_rfl) | (show planned _ _ = true; kernel_rfl) | exact rfl | exact True.intro | ((try dsimp only [imp, C0, cG, cInt2] at *); (try refine inR64 ?_ ?_) <;> (try simp only [List.length_set, List.length_append, List.length_take, List.length_drop]) <;> omega))
theorem none_ok : Tells (C := C0) Tryd.prog (.fn 40) [] [] (flt 0) := by
  refine loc_pc (P := Tryd.prog) (E := ⟨[], [], 2, []⟩) (L := []) mix Tryd.func40 rfl (by kernel_rfl) (by kernel_rfl) rfl rfl ?_
  ((conv => (arg 1; reduce)); with_reducible repeat' (first | exact Tr.yes_h | refine Tr.and_h ?_ ?_ | refine Tr.imp_h fun _ => ?_ | refine Tr.all_h fun _ => ?_ | refine Tr.lf_h ?_))
  all_goals (first | first | (show Region.lexB _ _ = true; kernel_rfl) | (show planned _ _ = true; kernel_rfl) | exact rfl | exact True.intro | ((try dsimp only [imp, C0, cG, cInt2] at *); (try refine inR64 ?_ ?_) <;> (try simp only [List.length_set, List.length_append, List.length_take, List.length_drop]) <;> omega))
def Si0 : Inv' C0 := ⟨4, Unit, fun _ => [(5, .int .i64 0)], fun _ m => m, fun _ => True, fun _ => 0⟩
theorem sameInts0 : Tells (C := C0) Tryd.prog (.fn 42) [] [.nils, .nils] (.bool .t) := by
  refine loc_pc (P := Tryd.prog) (E := ⟨[], [], 29, []⟩) (L := [Si0]) mix Tryd.func42 rfl (by kernel_rfl) (by kernel_rfl) rfl rfl ?_
  ((conv => (arg 1; reduce)); with_reducible repeat' (first | exact Tr.yes_h | refine Tr.and_h ?_ ?_ | refine Tr.imp_h fun _ => ?_ | refine Tr.all_h fun _ => ?_ | refine Tr.lf_h ?_))
  all_goals try first | (show Region.lexB _ _ = true; kernel_rfl) | (show planned _ _ = true; kernel_rfl) | exact rfl | exact True.intro
  all_goals try exact absurd (by with_reducible assumption : decide ((0 : Int) < 0) = true) (by decide)
  all_goals try exact absurd (by with_reducible assumption : decide ((0 : Int) ≠ 0) = true) (by decide)
  · refine Stands.one () ⟨trivial, ?_⟩
    ((conv => (arg 1; reduce)); with_reducible repeat' (first | exact Tr.yes_h | refine Tr.and_h ?_ ?_ | refine Tr.imp_h fun _ => ?_ | refine Tr.all_h fun _ => ?_ | refine Tr.lf_h ?_))
    all_goals (first | first | (show Region.lexB _ _ = true; kernel_rfl) | (show planned _ _ = true; kernel_rfl) | exact rfl | exact True.intro | ((try dsimp only [imp, C0, cG, cInt2] at *); (try refine inR64 ?_ ?_) <;> (try simp only [List.length_set, List.length_append, List.length_take, List.length_drop]) <;> omega))
def pcBare : Pc Tryd.prog C0 where
  tg := .fn 28
  X := Int
  args n := [.int .i64 n]
  mem _ := []
  pre _ := True
  res n := flt n
  mat vs _ := match vs with
    | [.int _ n] => some (n, [])
    | _ => none
  ok n _ := bare_ok n
def pcNone : Pc Tryd.prog C0 where
  tg := .fn 40
  X := Unit
  args _ := []
  mem _ := []
  pre _ := True
  res _ := flt 0
  mat _ _ := some ((), [])
  ok _ _ := none_ok
def pcSameInts0 : Pc Tryd.prog C0 where
  tg := .fn 42
  X := Unit
  args _ := [.nils, .nils]
  mem _ := []
  pre _ := True
  res _ := .bool .t
  mat vs _ := match vs with
    | [.nils, .nils] => some ((), [])
    | _ => none
  ok _ _ := sameInts0
theorem sameFault_ok (a b : Int) : Tells (C := C0) Tryd.prog (.fn 39) [] [flt a, flt b] (.bool (.tm (decide (a = b)))) := by
  refine loc_pc (P := Tryd.prog) (E := ⟨[], [pcSameInts0], 19, []⟩) (L := []) mix Tryd.func39 rfl (by kernel_rfl) (by kernel_rfl) rfl rfl ?_
  ((conv => (arg 1; reduce)); with_reducible repeat' (first | exact Tr.yes_h | refine Tr.and_h ?_ ?_ | refine Tr.imp_h fun _ => ?_ | refine Tr.all_h fun _ => ?_ | refine Tr.lf_h ?_))
  all_goals try first | (show Region.lexB _ _ = true; kernel_rfl) | (show planned _ _ = true; kernel_rfl) | exact rfl | exact True.intro
def pcSameFault : Pc Tryd.prog C0 where
  tg := .fn 39
  X := Int × Int
  args x := [flt x.1, flt x.2]
  mem _ := []
  pre _ := True
  res x := .bool (.tm (decide (x.1 = x.2)))
  mat vs _ := match vs with
    | [.agg [.int _ a, .nils], .agg [.int _ b, .nils]] => some ((a, b), [])
    | _ => none
  ok x _ := sameFault_ok x.1 x.2
theorem fault_nil : Tells (C := C0) Tryd.prog (.fn 38) [] [.nili] (flt 0) := by
  refine loc_pc (P := Tryd.prog) (E := ⟨[], [pcNone], 8, []⟩) (L := []) mix Tryd.func38 rfl (by kernel_rfl) (by kernel_rfl) rfl rfl ?_
  ((conv => (arg 1; reduce)); with_reducible repeat' (first | exact Tr.yes_h | refine Tr.and_h ?_ ?_ | refine Tr.imp_h fun _ => ?_ | refine Tr.all_h fun _ => ?_ | refine Tr.lf_h ?_))
  all_goals try first | (show Region.lexB _ _ = true; kernel_rfl) | (show planned _ _ = true; kernel_rfl) | exact rfl | exact True.intro
def pcFault0 : Pc Tryd.prog C0 where
  tg := .fn 38
  X := Unit
  args _ := [.nili]
  mem _ := []
  pre _ := True
  res _ := flt 0
  mat vs _ := match vs with
    | [.nili] => some ((), [])
    | _ => none
  ok _ _ := fault_nil
theorem same_nil (c : Int) : Tells (C := C0) Tryd.prog (.fn 27) [] [.nili, flt c] (.bool (.tm (decide (0 = c)))) := by
  refine loc_pc (P := Tryd.prog) (E := ⟨[], [pcFault0, pcSameFault], 11, []⟩) (L := []) mix Tryd.func27 rfl (by kernel_rfl) (by kernel_rfl) rfl rfl ?_
  ((conv => (arg 1; reduce)); with_reducible repeat' (first | exact Tr.yes_h | refine Tr.and_h ?_ ?_ | refine Tr.imp_h fun _ => ?_ | refine Tr.all_h fun _ => ?_ | refine Tr.lf_h ?_))
  all_goals try first | (show Region.lexB _ _ = true; kernel_rfl) | (show planned _ _ = true; kernel_rfl) | exact rfl | exact True.intro
def pcSameE0 : Pc Tryd.prog C0 where
  tg := .fn 27
  X := Int
  args c := [.nili, flt c]
  mem _ := []
  pre _ := True
  res c := .bool (.tm (decide (0 = c)))
  mat vs _ := match vs with
    | [.nili, .agg [.int _ c, .nils]] => some (c, [])
    | _ => none
  ok c _ := same_nil c
theorem is_nil (c : Int) : Tells (C := C0) Tryd.prog (.fn 14) [] [.nili, .int .i64 c] (.bool (.tm (decide (0 = c)))) := by
  refine loc_pc (P := Tryd.prog) (E := ⟨[], [pcBare, pcSameE0], 9, []⟩) (L := []) mix Tryd.func14 rfl (by kernel_rfl) (by kernel_rfl) rfl rfl ?_
  ((conv => (arg 1; reduce)); with_reducible repeat' (first | exact Tr.yes_h | refine Tr.and_h ?_ ?_ | refine Tr.imp_h fun _ => ?_ | refine Tr.all_h fun _ => ?_ | refine Tr.lf_h ?_))
  all_goals try first | (show Region.lexB _ _ = true; kernel_rfl) | (show planned _ _ = true; kernel_rfl) | exact rfl | exact True.intro
def pcIs0 : Pc Tryd.prog C0 where
  tg := .fn 14
  X := Int
  args c := [.nili, .int .i64 c]
  mem _ := []
  pre _ := True
  res c := .bool (.tm (decide (0 = c)))
  mat vs _ := match vs with
    | [.nili, .int _ c] => some (c, [])
    | _ => none
  ok c _ := is_nil c
end Go.Vx
