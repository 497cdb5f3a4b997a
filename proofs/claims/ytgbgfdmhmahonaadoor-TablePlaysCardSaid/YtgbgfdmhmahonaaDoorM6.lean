/-
  Round 20: errors as plain data; all nineteen laid.
  Conditions: none.
-/
import Derived.Test.YtgbgfdmhmahonaaDoorM4
set_option linter.unusedSectionVars false
set_option maxRecDepth 100000
set_option linter.unusedVariables false
set_option linter.unusedSimpArgs false
namespace Go.Vx
open Go Go.Proofs

/-- Where all nineteen errors lie. -/
class Gl0 where
  A : Nat → Addr
  c : Nat → Array Value
  t : Nat → TypeId
@[reducible] instance glAll [Gl0] : Gl := ⟨Gl0.A, Gl0.c, Gl0.t, true⟩
variable [Gl0]
abbrev flt (n : Int) : SV := .agg [.int .i64 n, .nils]
theorem bare_ok (n : Int) : Tells (C := C0) Tryd.prog (.fn 27) [] [.int .i64 n] (flt n) := by
  refine loc_pc (P := Tryd.prog) (E := ⟨[], [], 5, []⟩) (L := []) mix Tryd.func27 rfl (by kernel_rfl) (by kernel_rfl) rfl rfl ?_
  ((conv => (arg 1; reduce)); with_reducible repeat' (first | exact Tr.yes_h | refine Tr.and_h ?_ ?_ | refine Tr.imp_h fun _ => ?_ | refine Tr.all_h fun _ => ?_ | refine Tr.lf_h ?_))
  all_goals (first | first | (show Region.lexB _ _ = true; kernel_rfl) | (show planned _ _ = true; kernel_rfl) | exact rfl | exact True.intro | (first | exact key3 | exact key30 | exact zero3 | exact zero53 | exact eq30 | exact ⟨key3, zero53⟩ | exact ⟨key30, zero3⟩) | ((try dsimp only [imp, C0, cG, cInt, cPl, cSlot, cDo] at *); (try refine inR64 ?_ ?_) <;> (try simp only [List.length_set, List.length_append, List.length_take, List.length_drop]) <;> omega))
theorem none_ok : Tells (C := C0) Tryd.prog (.fn 40) [] [] (flt 0) := by
  refine loc_pc (P := Tryd.prog) (E := ⟨[], [], 2, []⟩) (L := []) mix Tryd.func40 rfl (by kernel_rfl) (by kernel_rfl) rfl rfl ?_
  ((conv => (arg 1; reduce)); with_reducible repeat' (first | exact Tr.yes_h | refine Tr.and_h ?_ ?_ | refine Tr.imp_h fun _ => ?_ | refine Tr.all_h fun _ => ?_ | refine Tr.lf_h ?_))
  all_goals (first | first | (show Region.lexB _ _ = true; kernel_rfl) | (show planned _ _ = true; kernel_rfl) | exact rfl | exact True.intro | (first | exact key3 | exact key30 | exact zero3 | exact zero53 | exact eq30 | exact ⟨key3, zero53⟩ | exact ⟨key30, zero3⟩) | ((try dsimp only [imp, C0, cG, cInt, cPl, cSlot, cDo] at *); (try refine inR64 ?_ ?_) <;> (try simp only [List.length_set, List.length_append, List.length_take, List.length_drop]) <;> omega))
def Si0 : Inv' C0 := ⟨4, Unit, fun _ => [(5, .int .i64 0)], fun _ m => m, fun _ => True, fun _ => 0⟩
theorem sameInts0 : Tells (C := C0) Tryd.prog (.fn 42) [] [.nils, .nils] (.bool .t) := by
  refine loc_pc (P := Tryd.prog) (E := ⟨[], [], 29, []⟩) (L := [Si0]) mix Tryd.func42 rfl (by kernel_rfl) (by kernel_rfl) rfl rfl ?_
  ((conv => (arg 1; reduce)); with_reducible repeat' (first | exact Tr.yes_h | refine Tr.and_h ?_ ?_ | refine Tr.imp_h fun _ => ?_ | refine Tr.all_h fun _ => ?_ | refine Tr.lf_h ?_))
  all_goals try first | (show Region.lexB _ _ = true; kernel_rfl) | (show planned _ _ = true; kernel_rfl) | exact rfl | exact True.intro
  all_goals try exact absurd (by with_reducible assumption : decide ((0 : Int) < 0) = true) (by decide)
  all_goals try exact absurd (by with_reducible assumption : decide ((0 : Int) ≠ 0) = true) (by decide)
  · refine Stands.one () ⟨trivial, ?_⟩
    ((conv => (arg 1; reduce)); with_reducible repeat' (first | exact Tr.yes_h | refine Tr.and_h ?_ ?_ | refine Tr.imp_h fun _ => ?_ | refine Tr.all_h fun _ => ?_ | refine Tr.lf_h ?_))
    all_goals (first | first | (show Region.lexB _ _ = true; kernel_rfl) | (show planned _ _ = true; kernel_rfl) | exact rfl | exact True.intro | (first | exact key3 | exact key30 | exact zero3 | exact zero53 | exact eq30 | exact ⟨key3, zero53⟩ | exact ⟨key30, zero3⟩) | ((try dsimp only [imp, C0, cG, cInt, cPl, cSlot, cDo] at *); (try refine inR64 ?_ ?_) <;> (try simp only [List.length_set, List.length_append, List.length_take, List.length_drop]) <;> omega))
def pcBare : Pc Tryd.prog C0 where
  tg := .fn 27
  X := Int
  args n := [.int .i64 n]
  mem _ := []
  pre _ := True
  res n := flt n
  mat vs _ := match vs with
    | [.int _ n] => some (n, [])
    | _ => none
  ok n _ := bare_ok n
def pcNone : Pc Tryd.prog C0 where
  tg := .fn 40
  X := Unit
  args _ := []
  mem _ := []
  pre _ := True
  res _ := flt 0
  mat _ _ := some ((), [])
  ok _ _ := none_ok
def pcSameInts0 : Pc Tryd.prog C0 where
  tg := .fn 42
  X := Unit
  args _ := [.nils, .nils]
  mem _ := []
  pre _ := True
  res _ := .bool .t
  mat vs _ := match vs with
    | [.nils, .nils] => some ((), [])
    | _ => none
  ok _ _ := sameInts0
theorem sameFault_ok (a b : Int) : Tells (C := C0) Tryd.prog (.fn 38) [] [flt a, flt b] (.bool (.tm (decide (a = b)))) := by
  refine loc_pc (P := Tryd.prog) (E := ⟨[], [pcSameInts0], 19, []⟩) (L := []) mix Tryd.func38 rfl (by kernel_rfl) (by kernel_rfl) rfl rfl ?_
  ((conv => (arg 1; reduce)); with_reducible repeat' (first | exact Tr.yes_h | refine Tr.and_h ?_ ?_ | refine Tr.imp_h fun _ => ?_ | refine Tr.all_h fun _ => ?_ | refine Tr.lf_h ?_))
  all_goals try first | (show Region.lexB _ _ = true; kernel_rfl) | (show planned _ _ = true; kernel_rfl) | exact rfl | exact True.intro
def pcSameFault : Pc Tryd.prog C0 where
  tg := .fn 38
  X := Int × Int
  args x := [flt x.1, flt x.2]
  mem _ := []
  pre _ := True
  res x := .bool (.tm (decide (x.1 = x.2)))
  mat vs _ := match vs with
    | [.agg [.int _ a, .nils], .agg [.int _ b, .nils]] => some ((a, b), [])
    | _ => none
  ok x _ := sameFault_ok x.1 x.2
theorem fault_nil : Tells (C := C0) Tryd.prog (.fn 37) [] [.nili] (flt 0) := by
  refine loc_pc (P := Tryd.prog) (E := ⟨[], [pcNone], 8, []⟩) (L := []) mix Tryd.func37 rfl (by kernel_rfl) (by kernel_rfl) rfl rfl ?_
  ((conv => (arg 1; reduce)); with_reducible repeat' (first | exact Tr.yes_h | refine Tr.and_h ?_ ?_ | refine Tr.imp_h fun _ => ?_ | refine Tr.all_h fun _ => ?_ | refine Tr.lf_h ?_))
  all_goals try first | (show Region.lexB _ _ = true; kernel_rfl) | (show planned _ _ = true; kernel_rfl) | exact rfl | exact True.intro
def pcFault0 : Pc Tryd.prog C0 where
  tg := .fn 37
  X := Unit
  args _ := [.nili]
  mem _ := []
  pre _ := True
  res _ := flt 0
  mat vs _ := match vs with
    | [.nili] => some ((), [])
    | _ => none
  ok _ _ := fault_nil
theorem same_nil (c : Int) : Tells (C := C0) Tryd.prog (.fn 26) [] [.nili, flt c] (.bool (.tm (decide (0 = c)))) := by
  refine loc_pc (P := Tryd.prog) (E := ⟨[], [pcFault0, pcSameFault], 11, []⟩) (L := []) mix Tryd.func26 rfl (by kernel_rfl) (by kernel_rfl) rfl rfl ?_
  ((conv => (arg 1; reduce)); with_reducible repeat' (first | exact Tr.yes_h | refine Tr.and_h ?_ ?_ | refine Tr.imp_h fun _ => ?_ | refine Tr.all_h fun _ => ?_ | refine Tr.lf_h ?_))
  all_goals try first | (show Region.lexB _ _ = true; kernel_rfl) | (show planned _ _ = true; kernel_rfl) | exact rfl | exact True.intro
def pcSameE0 : Pc Tryd.prog C0 where
  tg := .fn 26
  X := Int
  args c := [.nili, flt c]
  mem _ := []
  pre _ := True
  res c := .bool (.tm (decide (0 = c)))
  mat vs _ := match vs with
    | [.nili, .agg [.int _ c, .nils]] => some (c, [])
    | _ => none
  ok c _ := same_nil c
theorem is_nil (c : Int) : Tells (C := C0) Tryd.prog (.fn 16) [] [.nili, .int .i64 c] (.bool (.tm (decide (0 = c)))) := by
  refine loc_pc (P := Tryd.prog) (E := ⟨[], [pcBare, pcSameE0], 9, []⟩) (L := []) mix Tryd.func16 rfl (by kernel_rfl) (by kernel_rfl) rfl rfl ?_
  ((conv => (arg 1; reduce)); with_reducible repeat' (first | exact Tr.yes_h | refine Tr.and_h ?_ ?_ | refine Tr.imp_h fun _ => ?_ | refine Tr.all_h fun _ => ?_ | refine Tr.lf_h ?_))
  all_goals try first | (show Region.lexB _ _ = true; kernel_rfl) | (show planned _ _ = true; kernel_rfl) | exact rfl | exact True.intro
def pcIs0 : Pc Tryd.prog C0 where
  tg := .fn 16
  X := Int
  args c := [.nili, .int .i64 c]
  mem _ := []
  pre _ := True
  res c := .bool (.tm (decide (0 = c)))
  mat vs _ := match vs with
    | [.nili, .int _ c] => some (c, [])
    | _ => none
  ok c _ := is_nil c
/-- The same values handed. -/
theorem LocG.args {C : Nat → Codec} {P : Program} {tg : Tg} {m : List (Ck C)} {args args' : List SV} {post : SV → List (Ck C) → Prop} (h : LocG P tg m args post) (he : SV.vas (ads m) args = SV.vas (ads m) args') : LocG P tg m args' post := by
  intro w hm
  rw [← he]
  exact h w hm
theorem Tells.res {C : Nat → Codec} {P : Program} {tg : Tg} {mem : List (Ck C)} {args : List SV} {res res' : SV} (h : Tells P tg mem args res) (he : res.va (ads mem) = res'.va (ads mem)) : Tells P tg mem args res' := by
  intro w hm
  obtain ⟨f, vals, h1, h2⟩ := h w hm
  refine ⟨f, vals, h1, h2.mono ?_⟩
  rintro e w' ⟨r, m', rfl, hm', hx, rfl, rfl⟩
  exact ⟨res', m', by rw [he], hm', hx, rfl, rfl⟩

theorem plainN : ∀ g, g < 19 → Plain C0 (Gl.A g)
  | 0, _ => ⟨0, _, _, List.Mem.head _⟩
  | 1, _ => ⟨1, _, _, List.Mem.head _⟩
  | 2, _ => ⟨2, _, _, List.Mem.head _⟩
  | 3, _ => ⟨3, _, _, List.Mem.head _⟩
  | 4, _ => ⟨4, _, _, List.Mem.head _⟩
  | 5, _ => ⟨5, _, _, List.Mem.head _⟩
  | 6, _ => ⟨6, _, _, List.Mem.head _⟩
  | 7, _ => ⟨7, _, _, List.Mem.head _⟩
  | 8, _ => ⟨8, _, _, List.Mem.head _⟩
  | 9, _ => ⟨9, _, _, List.Mem.head _⟩
  | 10, _ => ⟨10, _, _, List.Mem.head _⟩
  | 11, _ => ⟨11, _, _, List.Mem.head _⟩
  | 12, _ => ⟨12, _, _, List.Mem.head _⟩
  | 13, _ => ⟨13, _, _, List.Mem.head _⟩
  | 14, _ => ⟨14, _, _, List.Mem.head _⟩
  | 15, _ => ⟨15, _, _, List.Mem.head _⟩
  | 16, _ => ⟨16, _, _, List.Mem.head _⟩
  | 17, _ => ⟨17, _, _, List.Mem.head _⟩
  | 18, _ => ⟨18, _, _, List.Mem.head _⟩
  | g + 19, h => absurd h (by omega)
/-- The errors, in the order of their numbers. -/
@[irreducible] def sentL : List (Option Addr) := [some (Gl.A 3), some (Gl.A 2), some (Gl.A 4), some (Gl.A 5), some (Gl.A 6), some (Gl.A 7), some (Gl.A 8), some (Gl.A 1), some (Gl.A 9), some (Gl.A 0), some (Gl.A 10), some (Gl.A 11), some (Gl.A 12), some (Gl.A 13), some (Gl.A 14), some (Gl.A 15), some (Gl.A 16), some (Gl.A 17), some (Gl.A 18)]
set_option maxHeartbeats 4000000 in
theorem sent_ok : Does (C := C0) Tryd.prog (.fn 57) [] [] [⟨Nat, fun _ => True, fun _ => .sl 0 0 19 19, fun y => [⟨y, 0, 1, true, none, .rows 26 sentL⟩]⟩] := by
  refine loc_fn (P := Tryd.prog) (E := ⟨[], [], 21, []⟩) (L := []) mix Tryd.func57 rfl (by kernel_rfl) (by kernel_rfl) rfl rfl ?_
  ((conv => (arg 1; reduce)); with_reducible repeat' (first | exact Tr.yes_h | refine Tr.and_h ?_ ?_ | refine Tr.imp_h fun _ => ?_ | refine Tr.all_h fun _ => ?_ | refine Tr.lf_h ?_))
  all_goals try first | (show Region.lexB _ _ = true; kernel_rfl) | (show planned _ _ = true; kernel_rfl) | exact rfl | exact True.intro
  · rename_i b
    refine Ends.one b trivial ?_
    ((conv => (arg 1; reduce)); with_reducible repeat' (first | exact Tr.yes_h | refine Tr.and_h ?_ ?_ | refine Tr.imp_h fun _ => ?_ | refine Tr.all_h fun _ => ?_ | refine Tr.lf_h ?_))
    all_goals first | (first | first | (show Region.lexB _ _ = true; kernel_rfl) | (show planned _ _ = true; kernel_rfl) | exact rfl | exact True.intro | (first | exact key3 | exact key30 | exact zero3 | exact zero53 | exact eq30 | exact ⟨key3, zero53⟩ | exact ⟨key30, zero3⟩) | ((try dsimp only [imp, C0, cG, cInt, cPl, cSlot, cDo] at *); (try refine inR64 ?_ ?_) <;> (try simp only [List.length_set, List.length_append, List.length_take, List.length_drop]) <;> omega)) | (unfold sentL; rfl)
noncomputable def fcSent : Fc Tryd.prog C0 where
  tg := .fn 57
  X := Unit
  args _ := []
  mem _ := []
  pre _ := True
  alts _ := [⟨Nat, fun _ => True, fun _ => .sl 0 0 19 19, fun y => [⟨y, 0, 1, true, none, .rows 26 sentL⟩]⟩]
  mat _ _ := some ((), [])
  ok _ _ := sent_ok

theorem alike_nil (a : Addr) : Tells (C := C0) Tryd.prog (.fn 58) [] [er a, .nili] (.bool .f) := by
  refine loc_pc (P := Tryd.prog) (E := ⟨[], [], 20, []⟩) (L := []) mix Tryd.func58 rfl (by kernel_rfl) (by kernel_rfl) rfl rfl ?_
  ((conv => (arg 1; reduce)); with_reducible repeat' (first | exact Tr.yes_h | refine Tr.and_h ?_ ?_ | refine Tr.imp_h fun _ => ?_ | refine Tr.all_h fun _ => ?_ | refine Tr.lf_h ?_))
  all_goals (first | first | (show Region.lexB _ _ = true; kernel_rfl) | (show planned _ _ = true; kernel_rfl) | exact rfl | exact True.intro | (first | exact key3 | exact key30 | exact zero3 | exact zero53 | exact eq30 | exact ⟨key3, zero53⟩ | exact ⟨key30, zero3⟩) | ((try dsimp only [imp, C0, cG, cInt, cPl, cSlot, cDo] at *); (try refine inR64 ?_ ?_) <;> (try simp only [List.length_set, List.length_append, List.length_take, List.length_drop]) <;> omega))
theorem alike_er (a b : Addr) (ha : Plain C0 a) (hb : Plain C0 b) : Tells (C := C0) Tryd.prog (.fn 58) [] [er a, er b] (.bool (.tm (decide (a = b)))) := by
  refine loc_pc (P := Tryd.prog) (E := ⟨[], [], 20, []⟩) (L := []) mix Tryd.func58 rfl (by kernel_rfl) (by kernel_rfl) rfl rfl ?_
  ((conv => (arg 1; reduce)); with_reducible repeat' (first | exact Tr.yes_h | refine Tr.and_h ?_ ?_ | refine Tr.imp_h fun _ => ?_ | refine Tr.all_h fun _ => ?_ | refine Tr.lf_h ?_))
  all_goals first | first | (show Region.lexB _ _ = true; kernel_rfl) | (show planned _ _ = true; kernel_rfl) | exact rfl | exact True.intro | exact ha | exact hb
@[irreducible] def isErr (v : Value) (a : Addr) : Bool := match v with
  | .iface 123 (.pointer (some b)) => decide (a = b)
  | _ => false
theorem isErr_V (y : Option Addr) (a : Addr) : isErr (errV y) a = decide (y = some a) := by
  unfold isErr errV
  cases y with
  | none => simp
  | some b => simp [eq_comm]
structure ErrIs (v : Value) : Prop where
  ex : ∃ y, v = errV y ∧ ∀ b, y = some b → Plain C0 b
theorem alike_ok (a : Addr) (v : Value) (ha : Plain C0 a) (hv : ErrIs v) : Tells (C := C0) Tryd.prog (.fn 58) [] [er a, .val v] (.bool (.tm (isErr v a))) := by
  obtain ⟨y, rfl, hy⟩ := hv
  rw [isErr_V]
  cases y with
  | none =>
    refine Tells.res (res := .bool .f) (LocG.args (args := [er a, .nili]) (alike_nil a) ?_) ?_
    · simp [SV.vas, SV.va, errV]
    · simp [SV.va, SB.val]
  | some b =>
    refine Tells.res (res := .bool (.tm (decide (a = b)))) (LocG.args (args := [er a, er b]) (alike_er a b ha (hy b rfl)) ?_) ?_
    · simp [SV.vas, SV.va, errV]
    · simp [SV.va, SB.val, eq_comm]
noncomputable def pcAlikeE : Pc Tryd.prog C0 where
  tg := .fn 58
  X := Addr × Value
  args x := [er x.1, .val x.2]
  mem _ := []
  pre x := Plain C0 x.1 ∧ ErrIs x.2
  res x := .bool (.tm (isErr x.2 x.1))
  mat vs _ := match vs with
    | [.ifc 123 (.val (.pointer (some a))), .val v] => some ((a, v), [])
    | _ => none
  ok x h := alike_ok x.1 x.2 h.1 h.2

def idxE : List (Option Addr) → Addr → Int → Int
  | [], _, _ => -1
  | x :: r, a, n => if x = some a then n else idxE r a (n + 1)
theorem idxE_at : ∀ (l : List (Option Addr)) (a : Addr) (n : Int) (i : Nat), i < l.length → l.getD i none = some a → (∀ j, j < i → l.getD j none ≠ some a) → idxE l a n = n + i
  | [], _, _, _, h, _, _ => by simp at h
  | x :: r, a, n, 0, _, h, _ => by
    have : x = some a := by simpa using h
    simp [idxE, this]
  | x :: r, a, n, i + 1, h, h1, h2 => by
    have hx : ¬ x = some a := by simpa using h2 0 (by omega)
    simp only [idxE, if_neg hx]
    rw [idxE_at r a (n + 1) i (by simpa using h) (by simpa using h1) (fun j hj => by simpa using h2 (j + 1) (by omega))]
    omega
theorem idxE_no : ∀ (l : List (Option Addr)) (a : Addr) (n : Int), (∀ j, j < l.length → l.getD j none ≠ some a) → idxE l a n = -1
  | [], _, _, _ => rfl
  | x :: r, a, n, h => by
    have hx : ¬ x = some a := by simpa using h 0 (by simp)
    simp only [idxE, if_neg hx]
    exact idxE_no r a (n + 1) fun j hj => by simpa using h (j + 1) (by simpa using hj)
/-- The number of an error; -1: it is none of them. -/
@[irreducible] def codeOf (a : Addr) : Int := idxE sentL a 101
theorem sentL_len : sentL.length = 19 := by unfold sentL; rfl
theorem sentL_in (j : Nat) (hj : j < 19) : ∃ g, g < 19 ∧ sentL.getD j none = some (Gl.A g) := by
  unfold sentL
  rcases j with _ | _ | _ | _ | _ | _ | _ | _ | _ | _ | _ | _ | _ | _ | _ | _ | _ | _ | _ | j
  all_goals first | exact ⟨_, by omega, rfl⟩ | exact ⟨_, by decide, rfl⟩ | omega
theorem sent_is (j : Nat) : ErrIs (errV (sentL.getD j none)) := by
  refine ⟨_, rfl, fun b hb => ?_⟩
  by_cases hj : j < 19
  · obtain ⟨g, hg, he⟩ := sentL_in j hj
    rw [he] at hb
    simp only [Option.some.injEq] at hb; subst hb
    exact plainN g hg
  · rw [List.getD_eq_getElem?_getD, List.getElem?_eq_none (by rw [sentL_len]; omega)] at hb
    cases hb
attribute [local irreducible] errV
def Se (a : Addr) : Inv' C0 := ⟨3, Nat, fun i => [(4, .int .i64 i)], fun _ m => m, fun i => i ≤ 19 ∧ ∀ j, j < i → sentL.getD j none ≠ some a, fun i => 19 - i⟩
theorem Se.at {a : Addr} {i : Nat} (hi : (Se a).inv i) (hc : i < 19) (he : isErr (errV (sentL.getD i none)) a = true) : codeOf a = 101 + i := by
  rw [isErr_V] at he
  unfold codeOf
  exact idxE_at _ _ _ i (by rw [sentL_len]; exact hc) (of_decide_eq_true he) hi.2
theorem Se.more {a : Addr} {i : Nat} (hi : (Se a).inv i) (hc : i < 19) (he : isErr (errV (sentL.getD i none)) a = false) : (Se a).inv (Nat.succ i) ∧ (Se a).meas (Nat.succ i) < (Se a).meas i := by
  rw [isErr_V] at he
  refine ⟨⟨hc, fun j hj => ?_⟩, by show 19 - (i + 1) < 19 - i; omega⟩
  rcases Nat.lt_succ_iff_lt_or_eq.1 hj with h1 | h1
  · exact hi.2 j h1
  · rw [h1]; exact of_decide_eq_false he
theorem Se.no {a : Addr} {i : Nat} (hi : (Se a).inv i) (hc : ¬ (i : Int) < 19) : codeOf a = -1 := by
  unfold codeOf
  exact idxE_no _ _ _ fun j hj => hi.2 j (by rw [sentL_len] at hj; omega)
theorem sentinel_ok (a : Addr) (ha : Plain C0 a) : Tells (C := C0) Tryd.prog (.fn 46) [] [er a] (.int .i64 (codeOf a)) := by
  refine loc_pc (P := Tryd.prog) (E := ⟨[fcSent], [pcAlikeE], 20, []⟩) (L := [Se a]) mix Tryd.func46 rfl (by kernel_rfl) (by kernel_rfl) rfl rfl ?_
  ((conv => (arg 1; reduce)); with_reducible repeat' (first | exact Tr.yes_h | refine Tr.and_h ?_ ?_ | refine Tr.imp_h fun _ => ?_ | refine Tr.all_h fun _ => ?_ | refine Tr.lf_h ?_))
  all_goals try first | (show Region.lexB _ _ = true; kernel_rfl) | (show planned _ _ = true; kernel_rfl) | exact rfl | exact True.intro
  · refine Stands.one (0 : Nat) ⟨⟨Nat.zero_le _, fun j hj => absurd hj (Nat.not_lt_zero _)⟩, ?_⟩
    ((conv => (arg 1; reduce)); with_reducible repeat' (first | exact Tr.yes_h | refine Tr.and_h ?_ ?_ | refine Tr.imp_h fun _ => ?_ | refine Tr.all_h fun _ => ?_ | refine Tr.lf_h ?_))
    all_goals (first | first | (show Region.lexB _ _ = true; kernel_rfl) | (show planned _ _ = true; kernel_rfl) | exact rfl | exact True.intro | (first | exact key3 | exact key30 | exact zero3 | exact zero53 | exact eq30 | exact ⟨key3, zero53⟩ | exact ⟨key30, zero3⟩) | ((try dsimp only [imp, C0, cG, cInt, cPl, cSlot, cDo] at *); (try refine inR64 ?_ ?_) <;> (try simp only [List.length_set, List.length_append, List.length_take, List.length_drop]) <;> omega))
  · rename_i i hi hc
    change Nat at i
    omega
  · rename_i i hi hc
    exact of_decide_eq_true hc
  · rename_i i hi hc
    change Nat at i
    have hc := of_decide_eq_true hc
    rw [sentL_len]; omega
  · exact ⟨ha, sent_is _⟩
  · rename_i i hi hc he
    change Nat at i
    have hc := of_decide_eq_true hc
    exact inR64 (by omega) (by omega)
  · rename_i i hi hc he
    change Nat at i
    have hc := of_decide_eq_true hc
    exact (Se.at hi (by omega) he).symm
  · rename_i i hi hc he
    change Nat at i
    have hc := of_decide_eq_true hc
    exact inR64 (by omega) (by omega)
  · rename_i i hi hc he
    change Nat at i
    have hc := of_decide_eq_true hc
    obtain ⟨k1, k2⟩ := Se.more hi (by omega) he
    refine Stands.one (Nat.succ i) ⟨k1, k2, ?_⟩
    ((conv => (arg 1; reduce)); with_reducible repeat' (first | exact Tr.yes_h | refine Tr.and_h ?_ ?_ | refine Tr.imp_h fun _ => ?_ | refine Tr.all_h fun _ => ?_ | refine Tr.lf_h ?_))
    all_goals (first | first | (show Region.lexB _ _ = true; kernel_rfl) | (show planned _ _ = true; kernel_rfl) | exact rfl | exact True.intro | (first | exact key3 | exact key30 | exact zero3 | exact zero53 | exact eq30 | exact ⟨key3, zero53⟩ | exact ⟨key30, zero3⟩) | ((try dsimp only [imp, C0, cG, cInt, cPl, cSlot, cDo] at *); (try refine inR64 ?_ ?_) <;> (try simp only [List.length_set, List.length_append, List.length_take, List.length_drop]) <;> omega))
  · rename_i i hi hc
    exact (Se.no hi (of_decide_eq_false hc)).symm
def pcSentinel : Pc Tryd.prog C0 where
  tg := .fn 46
  X := Addr
  args a := [er a]
  mem _ := []
  pre a := Plain C0 a
  res a := .int .i64 (codeOf a)
  mat vs _ := match vs with
    | [.ifc 123 (.val (.pointer (some a)))] => some (a, [])
    | _ => none
  ok a h := sentinel_ok a h
theorem faultE_ok (a : Addr) (ha : Plain C0 a) : Tells (C := C0) Tryd.prog (.fn 41) [] [er a, .int .i64 9] (flt (codeOf a)) := by
  refine loc_pc (P := Tryd.prog) (E := ⟨[], [pcSentinel, pcBare], 37, []⟩) (L := []) mix Tryd.func41 rfl (by kernel_rfl) (by kernel_rfl) rfl rfl ?_
  ((conv => (arg 1; reduce)); with_reducible repeat' (first | exact Tr.yes_h | refine Tr.and_h ?_ ?_ | refine Tr.imp_h fun _ => ?_ | refine Tr.all_h fun _ => ?_ | refine Tr.lf_h ?_))
  all_goals try first | (show Region.lexB _ _ = true; kernel_rfl) | (show planned _ _ = true; kernel_rfl) | exact rfl | exact True.intro
  all_goals first | exact ha | exact absurd (by with_reducible assumption : decide ((9 : Int) = 0) = true) (by decide)
def pcFaultE9 : Pc Tryd.prog C0 where
  tg := .fn 41
  X := Addr
  args a := [er a, .int .i64 9]
  mem _ := []
  pre a := Plain C0 a
  res a := flt (codeOf a)
  mat vs _ := match vs with
    | [.ifc 123 (.val (.pointer (some a))), _] => some (a, [])
    | _ => none
  ok a h := faultE_ok a h
theorem faultT_ok (a : Addr) (ha : Plain C0 a) : Tells (C := C0) Tryd.prog (.fn 37) [] [er a] (flt (codeOf a)) := by
  refine loc_pc (P := Tryd.prog) (E := ⟨[], [pcFaultE9], 8, []⟩) (L := []) mix Tryd.func37 rfl (by kernel_rfl) (by kernel_rfl) rfl rfl ?_
  ((conv => (arg 1; reduce)); with_reducible repeat' (first | exact Tr.yes_h | refine Tr.and_h ?_ ?_ | refine Tr.imp_h fun _ => ?_ | refine Tr.all_h fun _ => ?_ | refine Tr.lf_h ?_))
  all_goals try first | (show Region.lexB _ _ = true; kernel_rfl) | (show planned _ _ = true; kernel_rfl) | exact rfl | exact True.intro
  all_goals exact ha
def pcFaultT : Pc Tryd.prog C0 where
  tg := .fn 37
  X := Addr
  args a := [er a]
  mem _ := []
  pre a := Plain C0 a
  res a := flt (codeOf a)
  mat vs _ := match vs with
    | [.ifc 123 (.val (.pointer (some a)))] => some (a, [])
    | _ => none
  ok a h := faultT_ok a h
theorem sameE_ok (a : Addr) (c : Int) (ha : Plain C0 a) : Tells (C := C0) Tryd.prog (.fn 26) [] [er a, flt c] (.bool (.tm (decide (codeOf a = c)))) := by
  refine loc_pc (P := Tryd.prog) (E := ⟨[], [pcFaultT, pcSameFault], 11, []⟩) (L := []) mix Tryd.func26 rfl (by kernel_rfl) (by kernel_rfl) rfl rfl ?_
  ((conv => (arg 1; reduce)); with_reducible repeat' (first | exact Tr.yes_h | refine Tr.and_h ?_ ?_ | refine Tr.imp_h fun _ => ?_ | refine Tr.all_h fun _ => ?_ | refine Tr.lf_h ?_))
  all_goals try first | (show Region.lexB _ _ = true; kernel_rfl) | (show planned _ _ = true; kernel_rfl) | exact rfl | exact True.intro
  all_goals exact ha
def pcSameE : Pc Tryd.prog C0 where
  tg := .fn 26
  X := Addr × Int
  args x := [er x.1, flt x.2]
  mem _ := []
  pre x := Plain C0 x.1
  res x := .bool (.tm (decide (codeOf x.1 = x.2)))
  mat vs _ := match vs with
    | [.ifc 123 (.val (.pointer (some a))), .agg [.int _ c, .nils]] => some ((a, c), [])
    | _ => none
  ok x h := sameE_ok x.1 x.2 h
theorem isE_ok (a : Addr) (c : Int) (ha : Plain C0 a) : Tells (C := C0) Tryd.prog (.fn 16) [] [er a, .int .i64 c] (.bool (.tm (decide (codeOf a = c)))) := by
  refine loc_pc (P := Tryd.prog) (E := ⟨[], [pcBare, pcSameE], 9, []⟩) (L := []) mix Tryd.func16 rfl (by kernel_rfl) (by kernel_rfl) rfl rfl ?_
  ((conv => (arg 1; reduce)); with_reducible repeat' (first | exact Tr.yes_h | refine Tr.and_h ?_ ?_ | refine Tr.imp_h fun _ => ?_ | refine Tr.all_h fun _ => ?_ | refine Tr.lf_h ?_))
  all_goals try first | (show Region.lexB _ _ = true; kernel_rfl) | (show planned _ _ = true; kernel_rfl) | exact rfl | exact True.intro
  all_goals exact ha
def pcIsE : Pc Tryd.prog C0 where
  tg := .fn 16
  X := Addr × Int
  args x := [er x.1, .int .i64 x.2]
  mem _ := []
  pre x := Plain C0 x.1
  res x := .bool (.tm (decide (codeOf x.1 = x.2)))
  mat vs _ := match vs with
    | [.ifc 123 (.val (.pointer (some a))), .int _ c] => some ((a, c), [])
    | _ => none
  ok x h := isE_ok x.1 x.2 h
end Go.Vx
