/-
  Round 20: New, Drop, At, Len, Get, SamePlace.
  Conditions: none.
-/
import Derived.Test.YtgbgfdmhmahonaaDoorTaA
set_option linter.unusedSectionVars false
set_option maxRecDepth 100000
set_option linter.unusedVariables false
set_option linter.unusedSimpArgs false
namespace Go.Vx
open Go Go.Proofs
variable [Gl]

abbrev er (a : Addr) : SV := .ifc 123 (.val (.pointer (some a)))
abbrev Ks := List (Int × Slot × Nat)
abbrev Ps := List (Pl × Int × Nat)
/-- A table in memory: where, how many, what the two maps hold. -/
structure Tb where
  tp : Nat
  tq : Nat
  bs : Int
  ps : Int
  kb : Nat
  kl : Ks
  kc : Nat
  pb : Nat
  pl : Ps
  pc : Nat
abbrev tbm : Tb → List (Ck C0)
  | ⟨tp, tq, bs, ps, kb, kl, kc, pb, pl, pc⟩ => [⟨tp, tq, 4, true, none, .one [.int .i64 bs, .int .i64 ps, .mp 1, .mp 2]⟩, ⟨kb, 0, 0, true, none, .mp 3 53 kl kc⟩, ⟨pb, 0, 0, true, none, .mp 30 3 pl pc⟩]
/-- The same, to be read. -/
abbrev tbr : Tb → List (Ck C0)
  | ⟨tp, tq, bs, ps, kb, kl, kc, pb, pl, pc⟩ => [⟨tp, tq, 4, false, none, .one [.int .i64 bs, .int .i64 ps, .mp 1, .mp 2]⟩, ⟨kb, 0, 0, false, none, .mp 3 53 kl kc⟩, ⟨pb, 0, 0, false, none, .mp 30 3 pl pc⟩]
abbrev kget (l : Ks) (k : Int) : Slot := mget (C0 3) (C0 53) l k
abbrev khas (l : Ks) (k : Int) : Bool := mhas (C0 3) (C0 53) l k
abbrev kdel (l : Ks) (k : Int) : Ks := mdel (C0 3) (C0 53) l k
abbrev pget (l : Ps) (p : Pl) : Int := mget (C0 30) (C0 3) l p
abbrev phas (l : Ps) (p : Pl) : Bool := mhas (C0 30) (C0 3) l p
abbrev pdel (l : Ps) (p : Pl) : Ps := mdel (C0 30) (C0 3) l p

theorem samePlace_ok (a b : Pl) : Tells (C := C0) Tryd.prog (.fn 9) [] [.agg (plE a), .agg (plE b)] (.bool (.tm (decide (a.1 = b.1) && decide (a.2 = b.2)))) := by
  refine loc_pc (P := Tryd.prog) (E := ⟨[], [], 17, []⟩) (L := []) mix Tryd.func9 rfl (by kernel_rfl) (by kernel_rfl) rfl rfl ?_
  ((conv => (arg 1; reduce)); with_reducible repeat' (first | exact Tr.yes_h | refine Tr.and_h ?_ ?_ | refine Tr.imp_h fun _ => ?_ | refine Tr.all_h fun _ => ?_ | refine Tr.lf_h ?_))
  all_goals (first | first | (show Region.lexB _ _ = true; kernel_rfl) | (show planned _ _ = true; kernel_rfl) | exact rfl | exact True.intro | (first | exact key3 | exact key30 | exact zero3 | exact zero53 | exact eq30 | exact ⟨key3, zero53⟩ | exact ⟨key30, zero3⟩) | ((try dsimp only [imp, C0, cG, cInt, cPl, cSlot, cDo] at *); (try refine inR64 ?_ ?_) <;> (try simp only [List.length_set, List.length_append, List.length_take, List.length_drop]) <;> omega))
theorem len_ok (x : Tb) : Tells (C := C0) Tryd.prog (.fn 11) (tbr x) [.ptr 0 0 0] (.int .i64 (x.kl.length : Int)) := by
  refine loc_pc (P := Tryd.prog) (E := ⟨[], [], 8, []⟩) (L := []) mix Tryd.func11 rfl (by kernel_rfl) (by kernel_rfl) rfl rfl ?_
  ((conv => (arg 1; reduce)); with_reducible repeat' (first | exact Tr.yes_h | refine Tr.and_h ?_ ?_ | refine Tr.imp_h fun _ => ?_ | refine Tr.all_h fun _ => ?_ | refine Tr.lf_h ?_))
  all_goals (first | first | (show Region.lexB _ _ = true; kernel_rfl) | (show planned _ _ = true; kernel_rfl) | exact rfl | exact True.intro | (first | exact key3 | exact key30 | exact zero3 | exact zero53 | exact eq30 | exact ⟨key3, zero53⟩ | exact ⟨key30, zero3⟩) | ((try dsimp only [imp, C0, cG, cInt, cPl, cSlot, cDo] at *); (try refine inR64 ?_ ?_) <;> (try simp only [List.length_set, List.length_append, List.length_take, List.length_drop]) <;> omega))
theorem at_ok (x : Tb) (p : Pl) : Tells (C := C0) Tryd.prog (.fn 10) (tbr x) [.ptr 0 0 0, .agg (plE p)] (.tup [.int .i64 (pget x.pl p), .bool (.tm (phas x.pl p))]) := by
  refine loc_pc (P := Tryd.prog) (E := ⟨[], [], 19, []⟩) (L := []) mix Tryd.func10 rfl (by kernel_rfl) (by kernel_rfl) rfl rfl ?_
  ((conv => (arg 1; reduce)); with_reducible repeat' (first | exact Tr.yes_h | refine Tr.and_h ?_ ?_ | refine Tr.imp_h fun _ => ?_ | refine Tr.all_h fun _ => ?_ | refine Tr.lf_h ?_))
  all_goals (first | first | (show Region.lexB _ _ = true; kernel_rfl) | (show planned _ _ = true; kernel_rfl) | exact rfl | exact True.intro | (first | exact key3 | exact key30 | exact zero3 | exact zero53 | exact eq30 | exact ⟨key3, zero53⟩ | exact ⟨key30, zero3⟩) | ((try dsimp only [imp, C0, cG, cInt, cPl, cSlot, cDo] at *); (try refine inR64 ?_ ?_) <;> (try simp only [List.length_set, List.length_append, List.length_take, List.length_drop]) <;> omega))
theorem get_ok (x : Tb) (k : Int) : Tells (C := C0) Tryd.prog (.fn 17) (tbr x) [.ptr 0 0 0, .int .i64 k] (.tup [.agg (slotE (kget x.kl k)), .bool (.tm (khas x.kl k))]) := by
  refine loc_pc (P := Tryd.prog) (E := ⟨[], [], 19, []⟩) (L := []) mix Tryd.func17 rfl (by kernel_rfl) (by kernel_rfl) rfl rfl ?_
  ((conv => (arg 1; reduce)); with_reducible repeat' (first | exact Tr.yes_h | refine Tr.and_h ?_ ?_ | refine Tr.imp_h fun _ => ?_ | refine Tr.all_h fun _ => ?_ | refine Tr.lf_h ?_))
  all_goals (first | first | (show Region.lexB _ _ = true; kernel_rfl) | (show planned _ _ = true; kernel_rfl) | exact rfl | exact True.intro | (first | exact key3 | exact key30 | exact zero3 | exact zero53 | exact eq30 | exact ⟨key3, zero53⟩ | exact ⟨key30, zero3⟩) | ((try dsimp only [imp, C0, cG, cInt, cPl, cSlot, cDo] at *); (try refine inR64 ?_ ?_) <;> (try simp only [List.length_set, List.length_append, List.length_take, List.length_drop]) <;> omega))
def pcSamePlace : Pc Tryd.prog C0 where
  tg := .fn 9
  X := Pl × Pl
  args x := [.agg (plE x.1), .agg (plE x.2)]
  mem _ := []
  pre _ := True
  res x := .bool (.tm (decide (x.1.1 = x.2.1) && decide (x.1.2 = x.2.2)))
  mat vs _ := match vs with
    | [.agg [.int _ a, .int _ b], .agg [.int _ c, .int _ d]] => some (((a, b), (c, d)), [])
    | _ => none
  ok x _ := samePlace_ok x.1 x.2
/-- The table behind an address. -/
abbrev tbOf (m : List (Ck C0)) (p : Nat) : Option (Tb × List Nat) := match nth m p with
  | ⟨tp, tq, _, _, _, .one [.int _ b, .int _ q, .mp k, .mp l]⟩ => match nth m k, nth m l with
    | ⟨kb, _, _, _, _, .mp 3 53 kl kc⟩, ⟨pb, _, _, _, _, .mp 30 3 pl pc⟩ => some (⟨tp, tq, b, q, kb, kl, kc, pb, pl, pc⟩, [p, k, l])
    | _, _ => none
  | _ => none
def pcLen : Pc Tryd.prog C0 where
  tg := .fn 11
  X := Tb
  args _ := [.ptr 0 0 0]
  mem x := tbr x
  pre _ := True
  res x := .int .i64 (x.kl.length : Int)
  mat vs m := match vs with
    | [.ptr p 0 0] => tbOf m p
    | _ => none
  ok x _ := len_ok x
def pcAt : Pc Tryd.prog C0 where
  tg := .fn 10
  X := Tb × Pl
  args x := [.ptr 0 0 0, .agg (plE x.2)]
  mem x := tbr x.1
  pre _ := True
  res x := .tup [.int .i64 (pget x.1.pl x.2), .bool (.tm (phas x.1.pl x.2))]
  mat vs m := match vs with
    | [.ptr p 0 0, .agg [.int _ a, .int _ b]] => match tbOf m p with
      | some (x, l) => some ((x, (a, b)), l)
      | none => none
    | _ => none
  ok x _ := at_ok x.1 x.2
def pcGet : Pc Tryd.prog C0 where
  tg := .fn 17
  X := Tb × Int
  args x := [.ptr 0 0 0, .int .i64 x.2]
  mem x := tbr x.1
  pre _ := True
  res x := .tup [.agg (slotE (kget x.1.kl x.2)), .bool (.tm (khas x.1.kl x.2))]
  mat vs m := match vs with
    | [.ptr p 0 0, .int _ k] => match tbOf m p with
      | some (x, l) => some ((x, k), l)
      | none => none
    | _ => none
  ok x _ := get_ok x.1 x.2
/-- A key's page taken away. -/
abbrev tdrop (x : Tb) (k : Int) : Tb := ⟨x.tp, x.tq, x.bs, x.ps, x.kb, kdel x.kl k, x.kc, x.pb, bif khas x.kl k then pdel x.pl (kget x.kl k).pl else x.pl, x.pc⟩
theorem kdel_no {l : Ks} {k : Int} (h : khas l k = false) : kdel l k = l := by
  unfold khas mhas at h
  unfold kdel mdel
  cases hm : mfix (C0 3) (C0 53) k l 0 with
  | none => rfl
  | some p => rw [hm] at h; cases h
theorem drop_ok (x : Tb) (k : Int) : Does (C := C0) Tryd.prog (.fn 13) (tbm x) [.ptr 0 0 0, .int .i64 k] [⟨Unit, fun _ => True, fun _ => .bool (.tm (khas x.kl k)), fun _ => tbm (tdrop x k)⟩] := by
  refine loc_fn (P := Tryd.prog) (E := ⟨[], [], 29, [(3, [], [.p 0, .p 1, .p 2, .p 4, .q 3, .q 5, .e 6])]⟩) (L := []) mix Tryd.func13 rfl (by kernel_rfl) (by kernel_rfl) rfl rfl ?_
  ((conv => (arg 1; reduce)); with_reducible repeat' (first | exact Tr.yes_h | refine Tr.and_h ?_ ?_ | refine Tr.imp_h fun _ => ?_ | refine Tr.all_h fun _ => ?_ | refine Tr.lf_h ?_))
  all_goals try (first | first | (show Region.lexB _ _ = true; kernel_rfl) | (show planned _ _ = true; kernel_rfl) | exact rfl | exact True.intro | (first | exact key3 | exact key30 | exact zero3 | exact zero53 | exact eq30 | exact ⟨key3, zero53⟩ | exact ⟨key30, zero3⟩) | ((try dsimp only [imp, C0, cG, cInt, cPl, cSlot, cDo] at *); (try refine inR64 ?_ ?_) <;> (try simp only [List.length_set, List.length_append, List.length_take, List.length_drop]) <;> omega))
  · rename_i b h
    have h : khas x.kl k = true := h
    refine Ends.one () trivial ?_
    ((conv => (arg 1; reduce)); with_reducible repeat' (first | exact Tr.yes_h | refine Tr.and_h ?_ ?_ | refine Tr.imp_h fun _ => ?_ | refine Tr.all_h fun _ => ?_ | refine Tr.lf_h ?_))
    all_goals try (first | first | (show Region.lexB _ _ = true; kernel_rfl) | (show planned _ _ = true; kernel_rfl) | exact rfl | exact True.intro | (first | exact key3 | exact key30 | exact zero3 | exact zero53 | exact eq30 | exact ⟨key3, zero53⟩ | exact ⟨key30, zero3⟩) | ((try dsimp only [imp, C0, cG, cInt, cPl, cSlot, cDo] at *); (try refine inR64 ?_ ?_) <;> (try simp only [List.length_set, List.length_append, List.length_take, List.length_drop]) <;> omega))
    all_goals (simp only [h]; rfl)
  · rename_i b h
    have h : khas x.kl k = false := h
    refine Ends.one () trivial ?_
    ((conv => (arg 1; reduce)); with_reducible repeat' (first | exact Tr.yes_h | refine Tr.and_h ?_ ?_ | refine Tr.imp_h fun _ => ?_ | refine Tr.all_h fun _ => ?_ | refine Tr.lf_h ?_))
    all_goals try (first | first | (show Region.lexB _ _ = true; kernel_rfl) | (show planned _ _ = true; kernel_rfl) | exact rfl | exact True.intro | (first | exact key3 | exact key30 | exact zero3 | exact zero53 | exact eq30 | exact ⟨key3, zero53⟩ | exact ⟨key30, zero3⟩) | ((try dsimp only [imp, C0, cG, cInt, cPl, cSlot, cDo] at *); (try refine inR64 ?_ ?_) <;> (try simp only [List.length_set, List.length_append, List.length_take, List.length_drop]) <;> omega))
    all_goals (simp only [h, kdel_no h]; rfl)
def fcDrop : Fc Tryd.prog C0 where
  tg := .fn 13
  X := Tb × Int
  args := fun (_, k) => [.ptr 0 0 0, .int .i64 k]
  mem := fun (x, _) => tbm x
  pre := fun _ => True
  alts := fun (x, k) => [⟨Unit, fun _ => True, fun _ => .bool (.tm (khas x.kl k)), fun _ => tbm (tdrop x k)⟩]
  mat vs m := match vs with
    | [.ptr p 0 0, .int _ k] => match tbOf m p with
      | some (x, l) => some ((x, k), l)
      | none => none
    | _ => none
  ok := fun (x, k) _ => drop_ok x k
/-- The sizes that may be. -/
abbrev MayT (b p : Int) : Prop := 1 ≤ b ∧ b ≤ 64 ∧ 1 ≤ p ∧ p ≤ 64
theorem new_ok (b p : Int) : Does (C := C0) Tryd.prog (.fn 7) [] [.int .i64 b, .int .i64 p]
    [⟨Unit, fun _ => ¬ MayT b p, fun _ => .tup [.nilp, er (Gl.A 1)], fun _ => []⟩,
     ⟨Nat × Nat × Nat, fun _ => MayT b p, fun _ => .tup [.ptr 0 0 0, .nili], fun y => tbm ⟨y.1, 0, b, p, y.2.1, [], 0, y.2.2, [], 0⟩⟩] := by
  refine loc_fn (P := Tryd.prog) (E := ⟨[], [], 27, []⟩) (L := []) mix Tryd.func7 rfl (by kernel_rfl) (by kernel_rfl) rfl rfl ?_
  ((conv => (arg 1; reduce)); with_reducible repeat' (first | exact Tr.yes_h | refine Tr.and_h ?_ ?_ | refine Tr.imp_h fun _ => ?_ | refine Tr.all_h fun _ => ?_ | refine Tr.lf_h ?_))
  all_goals try (first | first | (show Region.lexB _ _ = true; kernel_rfl) | (show planned _ _ = true; kernel_rfl) | exact rfl | exact True.intro | (first | exact key3 | exact key30 | exact zero3 | exact zero53 | exact eq30 | exact ⟨key3, zero53⟩ | exact ⟨key30, zero3⟩) | ((try dsimp only [imp, C0, cG, cInt, cPl, cSlot, cDo] at *); (try refine inR64 ?_ ?_) <;> (try simp only [List.length_set, List.length_append, List.length_take, List.length_drop]) <;> omega))
  · rename_i h
    simp only [SB.val, Bool.or_eq_true, decide_eq_true_eq] at h
    refine Ends.one () (by rintro ⟨h1, h2, h3, h4⟩; omega) ?_
    ((conv => (arg 1; reduce)); with_reducible repeat' (first | exact Tr.yes_h | refine Tr.and_h ?_ ?_ | refine Tr.imp_h fun _ => ?_ | refine Tr.all_h fun _ => ?_ | refine Tr.lf_h ?_))
    all_goals (first | first | (show Region.lexB _ _ = true; kernel_rfl) | (show planned _ _ = true; kernel_rfl) | exact rfl | exact True.intro | (first | exact key3 | exact key30 | exact zero3 | exact zero53 | exact eq30 | exact ⟨key3, zero53⟩ | exact ⟨key30, zero3⟩) | ((try dsimp only [imp, C0, cG, cInt, cPl, cSlot, cDo] at *); (try refine inR64 ?_ ?_) <;> (try simp only [List.length_set, List.length_append, List.length_take, List.length_drop]) <;> omega))
  · rename_i h b1 b2 b3
    simp only [SB.val, Bool.or_eq_false_iff, decide_eq_false_iff_not] at h
    refine Ends.next (Ends.one (b3, b1, b2) (by show 1 ≤ b ∧ b ≤ 64 ∧ 1 ≤ p ∧ p ≤ 64; omega) ?_)
    ((conv => (arg 1; reduce)); with_reducible repeat' (first | exact Tr.yes_h | refine Tr.and_h ?_ ?_ | refine Tr.imp_h fun _ => ?_ | refine Tr.all_h fun _ => ?_ | refine Tr.lf_h ?_))
    all_goals (first | first | (show Region.lexB _ _ = true; kernel_rfl) | (show planned _ _ = true; kernel_rfl) | exact rfl | exact True.intro | (first | exact key3 | exact key30 | exact zero3 | exact zero53 | exact eq30 | exact ⟨key3, zero53⟩ | exact ⟨key30, zero3⟩) | ((try dsimp only [imp, C0, cG, cInt, cPl, cSlot, cDo] at *); (try refine inR64 ?_ ?_) <;> (try simp only [List.length_set, List.length_append, List.length_take, List.length_drop]) <;> omega))
noncomputable def fcNew : Fc Tryd.prog C0 where
  tg := .fn 7
  X := Int × Int
  args := fun (b, p) => [.int .i64 b, .int .i64 p]
  mem := fun _ => []
  pre := fun _ => True
  alts := fun (b, p) => [⟨Unit, fun _ => ¬ MayT b p, fun _ => .tup [.nilp, er (Gl.A 1)], fun _ => []⟩,
     ⟨Nat × Nat × Nat, fun _ => MayT b p, fun _ => .tup [.ptr 0 0 0, .nili], fun y => tbm ⟨y.1, 0, b, p, y.2.1, [], 0, y.2.2, [], 0⟩⟩]
  mat vs _ := match vs with
    | [.int _ b, .int _ p] => some ((b, p), [])
    | _ => none
  ok := fun (b, p) _ => new_ok b p
end Go.Vx
