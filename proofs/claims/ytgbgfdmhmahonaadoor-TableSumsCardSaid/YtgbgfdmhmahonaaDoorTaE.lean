/-
  Round 20: what is asked of a slot; slots compared.
  Conditions: none.
-/
import Derived.Test.YtgbgfdmhmahonaaDoorTaD
set_option linter.unusedSectionVars false
set_option maxRecDepth 100000
set_option linter.unusedVariables false
set_option linter.unusedSimpArgs false
namespace Go.Vx
open Go Go.Proofs
variable [Gl]

/-- A slot's numbers are small. -/
structure Sm (s : Slot) : Prop where
  k0 : 0 ≤ s.key
  k1 : s.key ≤ 1073741824
  b0 : 0 ≤ s.pl.1
  b1 : s.pl.1 < 64
  p0 : 0 ≤ s.pl.2
  p1 : s.pl.2 < 64
def cfKey (a b : Slot) : Int := a.key - b.key
def cfPage (a b : Slot) : Int := if a.pl.1 ≠ b.pl.1 then a.pl.1 - b.pl.1 else a.pl.2 - b.pl.2
theorem byKey_ok (a b : Slot) (ha : Sm a) (hb : Sm b) : Tells (C := C0) Tryd.prog (.fn 33) [] [.agg (slotE a), .agg (slotE b)] (.int .i64 (cfKey a b)) := by
  refine loc_pc (P := Tryd.prog) (E := ⟨[], [], 10, []⟩) (L := []) mix Tryd.func33 rfl (by kernel_rfl) (by kernel_rfl) rfl rfl ?_
  ((conv => (arg 1; reduce)); with_reducible repeat' (first | exact Tr.yes_h | refine Tr.and_h ?_ ?_ | refine Tr.imp_h fun _ => ?_ | refine Tr.all_h fun _ => ?_ | refine Tr.lf_h ?_))
  all_goals try (first | first | (show Region.lexB _ _ = true; kernel_rfl) | (show planned _ _ = true; kernel_rfl) | exact rfl | exact True.intro | (first | exact key3 | exact key30 | exact zero3 | exact zero53 | exact eq30 | exact ⟨key3, zero53⟩ | exact ⟨key30, zero3⟩) | ((try dsimp only [imp, C0, cG, cInt, cPl, cSlot, cDo] at *); (try refine inR64 ?_ ?_) <;> (try simp only [List.length_set, List.length_append, List.length_take, List.length_drop]) <;> omega))
  · have := ha.k0; have := ha.k1; have := hb.k0; have := hb.k1
    exact inR64 (by omega) (by omega)
theorem slots1_ok (b q : Nat) (s : Slot) (n : Int) : Tells (C := C0) Tryd.prog (.fn 30) [⟨b, q, 1, false, none, .one [.int .i64 n]⟩] [.agg (slotE s), .ptr 0 0 0] (.bool (.tm (decide (s.pl.1 = n)))) := by
  refine loc_pc (P := Tryd.prog) (E := ⟨[], [], 9, []⟩) (L := []) mix Tryd.func30 rfl (by kernel_rfl) (by kernel_rfl) rfl rfl ?_
  ((conv => (arg 1; reduce)); with_reducible repeat' (first | exact Tr.yes_h | refine Tr.and_h ?_ ?_ | refine Tr.imp_h fun _ => ?_ | refine Tr.all_h fun _ => ?_ | refine Tr.lf_h ?_))
  all_goals try (first | first | (show Region.lexB _ _ = true; kernel_rfl) | (show planned _ _ = true; kernel_rfl) | exact rfl | exact True.intro | (first | exact key3 | exact key30 | exact zero3 | exact zero53 | exact eq30 | exact ⟨key3, zero53⟩ | exact ⟨key30, zero3⟩) | ((try dsimp only [imp, C0, cG, cInt, cPl, cSlot, cDo] at *); (try refine inR64 ?_ ?_) <;> (try simp only [List.length_set, List.length_append, List.length_take, List.length_drop]) <;> omega))
theorem all1_ok (s : Slot) : Tells (C := C0) Tryd.prog (.fn 32) [] [.agg (slotE s)] (.bool .t) := by
  refine loc_pc (P := Tryd.prog) (E := ⟨[], [], 3, []⟩) (L := []) mix Tryd.func32 rfl (by kernel_rfl) (by kernel_rfl) rfl rfl ?_
  ((conv => (arg 1; reduce)); with_reducible repeat' (first | exact Tr.yes_h | refine Tr.and_h ?_ ?_ | refine Tr.imp_h fun _ => ?_ | refine Tr.all_h fun _ => ?_ | refine Tr.lf_h ?_))
  all_goals try (first | first | (show Region.lexB _ _ = true; kernel_rfl) | (show planned _ _ = true; kernel_rfl) | exact rfl | exact True.intro | (first | exact key3 | exact key30 | exact zero3 | exact zero53 | exact eq30 | exact ⟨key3, zero53⟩ | exact ⟨key30, zero3⟩) | ((try dsimp only [imp, C0, cG, cInt, cPl, cSlot, cDo] at *); (try refine inR64 ?_ ?_) <;> (try simp only [List.length_set, List.length_append, List.length_take, List.length_drop]) <;> omega))
end Go.Vx
