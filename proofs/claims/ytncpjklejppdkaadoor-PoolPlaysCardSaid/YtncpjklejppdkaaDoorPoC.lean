/-
  Round 17: the heap's Push and Pop.
  Conditions: none.
-/
import Derived.Test.YtncpjklejppdkaaDoorPoB
set_option linter.unusedSectionVars false
set_option maxRecDepth 100000
set_option linter.unusedVariables false
set_option linter.unusedSimpArgs false
namespace Go.Vx
open Go Go.Proofs
variable [Gl]

theorem popM_ok (bp q b base : Nat) (l : List Ent) (n c : Nat) (h0 : 0 < n) (hn : n ≤ l.length) (hc : n ≤ c) (hb : n < 4611686018427387904) :
    Does (C := C0) Tryd.prog (.inv 62 "Pop") (hp bp q b base true false l n c) [.ptr 0 0 0]
     [⟨Unit, fun _ => True, fun _ => .ifc 60 (.agg [.int .i64 (l.getD ((n : Int) - 1).toNat (0, 0)).1, .int .i64 (l.getD ((n : Int) - 1).toNat (0, 0)).2]), fun _ => hp bp q b base true false l ((n : Int) - 1).toNat c⟩] := by
  refine loc_inv (f := 67) (recv := .ptr 0 0 0) Tryd.func67 rfl (by kernel_rfl) (fun w hm => ?_) ?_
  · exact method_ptr (mm := me62 "Pop") ti62_is (by kernel_rfl) (by kernel_rfl) (by kernel_rfl) un62 _ _
  refine loc_fn (P := Tryd.prog) (E := ⟨[], [], 25, []⟩) (L := []) mix Tryd.func67 rfl (by kernel_rfl) (by kernel_rfl) rfl rfl ?_
  ((conv => (arg 1; reduce)); with_reducible repeat' (first | exact Tr.yes_h | refine Tr.and_h ?_ ?_ | refine Tr.imp_h fun _ => ?_ | refine Tr.all_h fun _ => ?_ | refine Tr.lf_h ?_))
  all_goals try (first | first | (show Region.lexB _ _ = true; kernel_rfl) | (show planned _ _ = true; kernel_rfl) | exact rfl | exact True.intro | ((try dsimp only [imp, C0, cG, cInt2] at *); (try refine inR64 ?_ ?_) <;> (try simp only [List.length_set, List.length_append, List.length_take, List.length_drop]) <;> omega))
  refine Ends.one () trivial ?_
  ((conv => (arg 1; reduce)); with_reducible repeat' (first | exact Tr.yes_h | refine Tr.and_h ?_ ?_ | refine Tr.imp_h fun _ => ?_ | refine Tr.all_h fun _ => ?_ | refine Tr.lf_h ?_))
  all_goals (first | first | (show Region.lexB _ _ = true; kernel_rfl) | (show planned _ _ = true; kernel_rfl) | exact rfl | exact True.intro | ((try dsimp only [imp, C0, cG, cInt2] at *); (try refine inR64 ?_ ?_) <;> (try simp only [List.length_set, List.length_append, List.length_take, List.length_drop]) <;> omega))

theorem by60 : Tryd.prog.types[60].bytes = 16 := by kernel_rfl
/-- One more laid behind a slice. -/
def pushOut (bp q b base n : Nat) (y : Nat × Nat × List Ent × Nat) : List (Ck C0) :=
  [⟨bp, q, 1, true, none, .one [.sl 2 0 (n + 1) y.2.2.2]⟩, ⟨b, base, 2, true, none, .dead⟩, ⟨y.1, y.2.1, 2, true, none, .rows 60 y.2.2.1⟩]
theorem pushM_sl (bp q b base : Nat) (l : List Ent) (n c : Nat) (e : Ent) (hn : n ≤ c) (hl : c ≤ l.length) (hb : n < 1048576) :
    Does (C := C0) Tryd.prog (.inv 62 "Push") (hp bp q b base true true l n c) [.ptr 0 0 0, .ifc 60 (.agg [.int .i64 e.1, .int .i64 e.2])]
     [⟨Nat × Nat × List Ent × Nat, fun y => ∃ sp, y.2.2.1 = l.take n ++ [e] ++ sp ∧ n + 1 ≤ y.2.2.2 ∧ y.2.2.2 ≤ n + 1 + sp.length, fun _ => .tup [], pushOut bp q b base n⟩] := by
  refine loc_inv (f := 68) (recv := .ptr 0 0 0) Tryd.func68 rfl (by kernel_rfl) (fun w hm => ?_) ?_
  · exact method_ptr (mm := me62 "Push") ti62_is (by kernel_rfl) (by kernel_rfl) (by kernel_rfl) un62 _ _
  refine loc_fn (P := Tryd.prog) (E := ⟨[], [], 13, [(0, [0], [.p 0, .p 1, .p 2, .p 4, .p 5, .p 3, .e 6, .e 7, .p 8, .f 9])]⟩) (L := []) mix Tryd.func68 rfl (by kernel_rfl) (by kernel_rfl) rfl rfl ?_
  ((conv => (arg 1; reduce)); with_reducible repeat' (first | exact Tr.yes_h | refine Tr.and_h ?_ ?_ | refine Tr.imp_h fun _ => ?_ | refine Tr.all_h fun _ => ?_ | refine Tr.lf_h ?_))
  rotate_right
  · rename_i b1 b2 base2 sp cap h1 h2
    refine Ends.one (b2, base2, List.append (l.take n ++ [e]) sp, cap) ⟨sp, rfl, h1, h2⟩ ?_
    ((conv => (arg 1; reduce)); with_reducible repeat' (first | exact Tr.yes_h | refine Tr.and_h ?_ ?_ | refine Tr.imp_h fun _ => ?_ | refine Tr.all_h fun _ => ?_ | refine Tr.lf_h ?_))
    all_goals (first | first | (show Region.lexB _ _ = true; kernel_rfl) | (show planned _ _ = true; kernel_rfl) | exact rfl | exact True.intro | ((try dsimp only [imp, C0, cG, cInt2] at *); (try refine inR64 ?_ ?_) <;> (try simp only [List.length_set, List.length_append, List.length_take, List.length_drop]) <;> omega))
  all_goals first | (first | first | (show Region.lexB _ _ = true; kernel_rfl) | (show planned _ _ = true; kernel_rfl) | exact rfl | exact True.intro | ((try dsimp only [imp, C0, cG, cInt2] at *); (try refine inR64 ?_ ?_) <;> (try simp only [List.length_set, List.length_append, List.length_take, List.length_drop]) <;> omega)) | skip
  · rw [by60]
    dsimp only
    refine ⟨hn, by rw [Nat.zero_add]; exact hl, Nat.le_refl 1, by omega⟩

theorem pushM_nil (bp q : Nat) (e : Ent) :
    Does (C := C0) Tryd.prog (.inv 62 "Push") [⟨bp, q, 1, true, none, .one [.nils]⟩] [.ptr 0 0 0, .ifc 60 (.agg [.int .i64 e.1, .int .i64 e.2])]
     [⟨Nat × List Ent × Nat, fun y => ∃ sp, y.2.1 = [e] ++ sp ∧ y.2.2 = 1 + sp.length, fun _ => .tup [],
       fun y => [⟨bp, q, 1, true, none, .one [.sl 1 0 1 y.2.2]⟩, ⟨y.1, 0, 2, true, none, .rows 60 y.2.1⟩]⟩] := by
  refine loc_inv (f := 68) (recv := .ptr 0 0 0) Tryd.func68 rfl (by kernel_rfl) (fun w hm => ?_) ?_
  · exact method_ptr (mm := me62 "Push") ti62_is (by kernel_rfl) (by kernel_rfl) (by kernel_rfl) un62 _ _
  refine loc_fn (P := Tryd.prog) (E := ⟨[], [], 13, [(0, [0], [.p 0, .p 1, .p 2, .p 4, .p 5, .p 3, .e 6, .e 7, .p 8, .f 9])]⟩) (L := []) mix Tryd.func68 rfl (by kernel_rfl) (by kernel_rfl) rfl rfl ?_
  ((conv => (arg 1; reduce)); with_reducible repeat' (first | exact Tr.yes_h | refine Tr.and_h ?_ ?_ | refine Tr.imp_h fun _ => ?_ | refine Tr.all_h fun _ => ?_ | refine Tr.lf_h ?_))
  all_goals try (first | first | (show Region.lexB _ _ = true; kernel_rfl) | (show planned _ _ = true; kernel_rfl) | exact rfl | exact True.intro | ((try dsimp only [imp, C0, cG, cInt2] at *); (try refine inR64 ?_ ?_) <;> (try simp only [List.length_set, List.length_append, List.length_take, List.length_drop]) <;> omega))
  · rw [by60]
    exact ⟨Nat.le_refl 1, by omega⟩
  · rename_i b1 h b2 sp
    refine Ends.one (b2, List.append [e] sp, 1 + sp.length) ⟨sp, rfl, rfl⟩ ?_
    ((conv => (arg 1; reduce)); with_reducible repeat' (first | exact Tr.yes_h | refine Tr.and_h ?_ ?_ | refine Tr.imp_h fun _ => ?_ | refine Tr.all_h fun _ => ?_ | refine Tr.lf_h ?_))
    all_goals (first | first | (show Region.lexB _ _ = true; kernel_rfl) | (show planned _ _ = true; kernel_rfl) | exact rfl | exact True.intro | ((try dsimp only [imp, C0, cG, cInt2] at *); (try refine inR64 ?_ ?_) <;> (try simp only [List.length_set, List.length_append, List.length_take, List.length_drop]) <;> omega))
end Go.Vx
