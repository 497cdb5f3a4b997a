/-
  Round 21: the queue's ways: Len, Next; the first one.
  Conditions: none.
-/
import Derived.Test.YtoiiehjnfdhciaaViE
set_option maxRecDepth 100000
set_option linter.unusedVariables false
set_option linter.unusedSimpArgs false
namespace Go.Vi
open Go Go.Vx Go.Proofs

/-- What a made list is named by. -/
noncomputable def fcMade : Fc Try.prog C1 where
  tg := .fn 7
  X := Nat × Nat × List Blk × Nat × Nat
  args := fun (_, _, _, N, m) => [.sl 0 0 N m]
  mem := fun (b, q, bl, _, _) => [⟨b, q, 4, false, none, .rows 39 bl⟩]
  pre := fun (_, _, bl, N, _) => N ≤ bl.length ∧ N < 1048576
  alts := fun (b, q, bl, N, m) => [⟨Unit, fun _ => N = 0, fun _ => .nils, fun _ => [⟨b, q, 4, false, none, .rows 39 bl⟩]⟩,
      ⟨Nat × Nat × List Blk × Nat, fun y => 0 < N ∧ N ≤ y.2.2.2 ∧ y.2.2.2 ≤ y.2.2.1.length ∧ y.2.2.1.take N = bl.take N, fun y => .sl 1 0 N y.2.2.2, fun y => [⟨b, q, 4, false, none, .rows 39 bl⟩, ⟨y.1, y.2.1, 4, true, none, .rows 27 y.2.2.1⟩]⟩]
  mat vs m := match vs with
    | [.sl k _ n c] => match nth m k with
      | ⟨b, q, _, _, _, .rows 39 l⟩ => some ((b, q, l, n, c), [k])
      | _ => none
    | _ => none
  ok := fun (_, _, _, _, _) h => made_ok _ _ _ _ _ h.1 h.2
noncomputable def fcMade0 : Fc Try.prog C1 where
  tg := .fn 7
  X := Unit
  args := fun _ => [.nils]
  mem := fun _ => []
  pre := fun _ => True
  alts := fun _ => [⟨Unit, fun _ => True, fun _ => .nils, fun _ => []⟩]
  mat vs m := match vs with
    | [.nils] => some ((), [])
    | _ => none
  ok := fun _ _ => made_nil
noncomputable def fcOf : Fc Try.prog C1 where
  tg := .fn 8
  X := Nat × Nat × List Blk × Nat × Nat
  args := fun (_, _, _, N, m) => [.sl 0 0 N m]
  mem := fun (b, q, bl, _, _) => [⟨b, q, 4, false, none, .rows 27 bl⟩]
  pre := fun (_, _, bl, N, _) => N ≤ bl.length ∧ N < 1048576
  alts := fun (b, q, bl, N, m) => [⟨Nat × Nat × Nat × Nat, fun y => N = 0, fun y => .ptr 1 0 0, fun y => [⟨b, q, 4, false, none, .rows 27 bl⟩, ⟨y.1, y.2.1, 1, true, none, .one [.ptr 2 0 0]⟩, ⟨y.2.2.1, y.2.2.2, 2, true, none, .one [.nils, lsSV]⟩]⟩,
      ⟨Nat × Nat × Nat × Nat × Nat × Nat × List Itm × Nat, fun y => 0 < N ∧ hOf (itms bl N) y.2.2.2.2.2.2.1 N y.2.2.2.2.2.2.2, fun y => .ptr 1 0 0,
        fun y => [⟨b, q, 4, false, none, .rows 27 bl⟩, ⟨y.1, y.2.1, 1, true, none, .one [.ptr 2 0 0]⟩, ⟨y.2.2.1, y.2.2.2.1, 2, true, none, .one [.sl 3 0 N y.2.2.2.2.2.2.2, lsSV]⟩, ⟨y.2.2.2.2.1, y.2.2.2.2.2.1, 5, true, none, .rows 57 y.2.2.2.2.2.2.1⟩]⟩]
  mat vs m := match vs with
    | [.sl k _ n c] => match nth m k with
      | ⟨b, q, _, _, _, .rows 27 l⟩ => some ((b, q, l, n, c), [k])
      | _ => none
    | _ => none
  ok := fun (_, _, _, _, _) h => of_ok _ _ _ _ _ h.1 h.2
theorem of_nil : Does (C := C1) Try.prog (.fn 8) [] [.nils]
     [⟨Nat × Nat × Nat × Nat, fun y => True, fun y => .ptr 0 0 0, fun y => [⟨y.1, y.2.1, 1, true, none, .one [.ptr 1 0 0]⟩, ⟨y.2.2.1, y.2.2.2, 2, true, none, .one [.nils, lsSV]⟩]⟩] := by
  refine loc_fn (P := Try.prog) (E := ⟨[fcInit, fcInit0], [], 36, [(5, [0], [.p 0, .p 1, .p 2, .p 3, .p 4, .p 6, .q 5, .p 7, .e 8, .e 9, .p 10, .p 11, .f 12])]⟩) (L := [Oa 0]) mix Try.func8 rfl (by kernel_rfl) (by kernel_rfl) rfl rfl ?_
  ((conv => (arg 1; reduce)); with_reducible repeat' (first | exact Tr.yes_h | refine Tr.and_h ?_ ?_ | refine Tr.imp_h fun _ => ?_ | refine Tr.all_h fun _ => ?_ | refine Tr.lf_h ?_))
  all_goals try first | (show Region.lexB _ _ = true; kernel_rfl) | (show planned _ _ = true; kernel_rfl) | exact rfl | exact True.intro
  all_goals try (have h3 : (0 : Int) < 0 := of_decide_eq_true ‹decide ((0 : Int) < 0) = true›; omega)
  · refine Stands.one () ⟨trivial, ?_⟩
    ((conv => (arg 1; reduce)); with_reducible repeat' (first | exact Tr.yes_h | refine Tr.and_h ?_ ?_ | refine Tr.imp_h fun _ => ?_ | refine Tr.all_h fun _ => ?_ | refine Tr.lf_h ?_))
    all_goals (first | first | (show Region.lexB _ _ = true; kernel_rfl) | (show planned _ _ = true; kernel_rfl) | exact rfl | exact True.intro | ((try dsimp only [imp, C1, cBlk, cItm] at *); (try refine inR64 ?_ ?_) <;> (try simp only [List.length_set, List.length_append, List.length_take, List.length_drop]) <;> omega))
  · rename_i q1 x hx hc u hu b2
    refine Ends.one (b2, 0, q1, 0) trivial ?_
    ((conv => (arg 1; reduce)); with_reducible repeat' (first | exact Tr.yes_h | refine Tr.and_h ?_ ?_ | refine Tr.imp_h fun _ => ?_ | refine Tr.all_h fun _ => ?_ | refine Tr.lf_h ?_))
    all_goals (first | first | (show Region.lexB _ _ = true; kernel_rfl) | (show planned _ _ = true; kernel_rfl) | exact rfl | exact True.intro | ((try dsimp only [imp, C1, cBlk, cItm] at *); (try refine inR64 ?_ ?_) <;> (try simp only [List.length_set, List.length_append, List.length_take, List.length_drop]) <;> omega))
noncomputable def fcOf0 : Fc Try.prog C1 where
  tg := .fn 8
  X := Unit
  args := fun _ => [.nils]
  mem := fun _ => []
  pre := fun _ => True
  alts := fun _ => [⟨Nat × Nat × Nat × Nat, fun y => True, fun y => .ptr 0 0 0, fun y => [⟨y.1, y.2.1, 1, true, none, .one [.ptr 1 0 0]⟩, ⟨y.2.2.1, y.2.2.2, 2, true, none, .one [.nils, lsSV]⟩]⟩]
  mat vs m := match vs with
    | [.nils] => some ((), [])
    | _ => none
  ok := fun _ _ => of_nil

def qz (bb bq bp q : Nat) : List (Ck C1) := [⟨bb, bq, 1, false, none, .one [.ptr 1 0 0]⟩, ⟨bp, q, 2, false, none, .one [.nils, lsSV]⟩]
structure Qy where
  bb : Nat
  bq : Nat
  bp : Nat
  q : Nat
  b : Nat
  base : Nat
  l : List Itm
  n : Nat
  c : Nat
def matQQ (p : SV) (m : List (Ck C1)) : Option (Qy × List Nat) :=
  match p with
  | .ptr k _ _ => match nth m k with
    | ⟨bb, bq, _, _, _, .one [.ptr v _ _]⟩ => match nth m v with
      | ⟨bp, q, _, _, _, .one [.sl a _ n c, _]⟩ => match nth m a with
        | ⟨b, base, _, _, _, .rows 57 l⟩ => some (⟨bb, bq, bp, q, b, base, l, n, c⟩, [k, v, a])
        | _ => none
      | _ => none
    | _ => none
  | _ => none
def matQZ (p : SV) (m : List (Ck C1)) : Option ((Nat × Nat × Nat × Nat) × List Nat) :=
  match p with
  | .ptr k _ _ => match nth m k with
    | ⟨bb, bq, _, _, _, .one [.ptr v _ _]⟩ => match nth m v with
      | ⟨bp, q, _, _, _, .one [.nils, _]⟩ => some ((bb, bq, bp, q), [k, v])
      | _ => none
    | _ => none
  | _ => none
theorem len10 (bb bq bp q b base : Nat) (l : List Itm) (n c : Nat) :
    Tells (C := C1) Try.prog (.fn 10) (qq bb bq bp q b base false l n c) [.ptr 0 0 0] (.int .i64 n) := by
  refine loc_pc (P := Try.prog) (E := ⟨[], [pcLenF, pcLenF0], 8, []⟩) (L := []) mix Try.func10 rfl (by kernel_rfl) (by kernel_rfl) rfl rfl ?_
  ((conv => (arg 1; reduce)); with_reducible repeat' (first | exact Tr.yes_h | refine Tr.and_h ?_ ?_ | refine Tr.imp_h fun _ => ?_ | refine Tr.all_h fun _ => ?_ | refine Tr.lf_h ?_))
  all_goals (first | first | (show Region.lexB _ _ = true; kernel_rfl) | (show planned _ _ = true; kernel_rfl) | exact rfl | exact True.intro | ((try dsimp only [imp, C1, cBlk, cItm] at *); (try refine inR64 ?_ ?_) <;> (try simp only [List.length_set, List.length_append, List.length_take, List.length_drop]) <;> omega))
theorem len10z (bb bq bp q : Nat) :
    Tells (C := C1) Try.prog (.fn 10) (qz bb bq bp q) [.ptr 0 0 0] (.int .i64 0) := by
  refine loc_pc (P := Try.prog) (E := ⟨[], [pcLenF, pcLenF0], 8, []⟩) (L := []) mix Try.func10 rfl (by kernel_rfl) (by kernel_rfl) rfl rfl ?_
  ((conv => (arg 1; reduce)); with_reducible repeat' (first | exact Tr.yes_h | refine Tr.and_h ?_ ?_ | refine Tr.imp_h fun _ => ?_ | refine Tr.all_h fun _ => ?_ | refine Tr.lf_h ?_))
  all_goals (first | first | (show Region.lexB _ _ = true; kernel_rfl) | (show planned _ _ = true; kernel_rfl) | exact rfl | exact True.intro | ((try dsimp only [imp, C1, cBlk, cItm] at *); (try refine inR64 ?_ ?_) <;> (try simp only [List.length_set, List.length_append, List.length_take, List.length_drop]) <;> omega))
noncomputable def pcQLen : Pc Try.prog C1 where
  tg := .fn 10
  X := Qy
  args _ := [.ptr 0 0 0]
  mem := fun ⟨bb, bq, bp, q, b, base, l, n, c⟩ => qq bb bq bp q b base false l n c
  pre _ := True
  res := fun ⟨_, _, _, _, _, _, _, n, _⟩ => .int .i64 n
  mat vs m := match vs with
    | [p] => matQQ p m
    | _ => none
  ok := fun ⟨_, _, _, _, _, _, _, _, _⟩ _ => len10 _ _ _ _ _ _ _ _ _
noncomputable def pcQLen0 : Pc Try.prog C1 where
  tg := .fn 10
  X := Nat × Nat × Nat × Nat
  args _ := [.ptr 0 0 0]
  mem := fun (bb, bq, bp, q) => qz bb bq bp q
  pre _ := True
  res := fun _ => .int .i64 0
  mat vs m := match vs with
    | [p] => matQZ p m
    | _ => none
  ok := fun (_, _, _, _) _ => len10z _ _ _ _
/-- No block. -/
abbrev zSV : SV := .agg [.int .i64 0, .int .i64 0, .int .i64 0, .bool .f]
theorem next_ok (bb bq bp q b base : Nat) (l : List Itm) (n c : Nat) (h : Hg.HOK d0 lessI l n c) (hb : n < 1048576) :
    Does (C := C1) Try.prog (.fn 9) (qq bb bq bp q b base true l n c) [.ptr 0 0 0]
     [⟨Unit, fun _ => n = 0, fun _ => .tup [zSV, .bool .f], fun _ => qq bb bq bp q b base true l n c⟩,
      ⟨List Itm, fun l' => 0 < n ∧ cutPost l (n - 1) c 0 l', fun l' => .tup [bSV (at_ l' (n - 1)).1, .bool .t], fun l' => qq bb bq bp q b base true l' (n - 1) c⟩] := by
  refine loc_fn (P := Try.prog) (E := ⟨[fcPop], [pcQLen, pcQLen0], 16, []⟩) (L := []) mix Try.func9 rfl (by kernel_rfl) (by kernel_rfl) rfl rfl ?_
  ((conv => (arg 1; reduce)); with_reducible repeat' (first | exact Tr.yes_h | refine Tr.and_h ?_ ?_ | refine Tr.imp_h fun _ => ?_ | refine Tr.all_h fun _ => ?_ | refine Tr.lf_h ?_))
  all_goals try first | (show Region.lexB _ _ = true; kernel_rfl) | (show planned _ _ = true; kernel_rfl) | exact rfl | exact True.intro
  · rename_i x hx
    have hx := of_decide_eq_true hx
    refine Ends.one () (by show n = 0; omega) ?_
    ((conv => (arg 1; reduce)); with_reducible repeat' (first | exact Tr.yes_h | refine Tr.and_h ?_ ?_ | refine Tr.imp_h fun _ => ?_ | refine Tr.all_h fun _ => ?_ | refine Tr.lf_h ?_))
    all_goals (first | first | (show Region.lexB _ _ = true; kernel_rfl) | (show planned _ _ = true; kernel_rfl) | exact rfl | exact True.intro | ((try dsimp only [imp, C1, cBlk, cItm] at *); (try refine inR64 ?_ ?_) <;> (try simp only [List.length_set, List.length_append, List.length_take, List.length_drop]) <;> omega))
  · rename_i x hx
    have hx := of_decide_eq_false hx
    omega
  · rename_i x hx
    have hx := of_decide_eq_false hx
    show Hg.HOK d0 lessI l (n - 1 + 1) c ∧ n - 1 < 1048576
    rw [show n - 1 + 1 = n by omega]
    exact ⟨h, by omega⟩
  · rename_i x hx y hy
    have hx := of_decide_eq_false hx
    refine Ends.next (Ends.one y ⟨by omega, hy⟩ ?_)
    ((conv => (arg 1; reduce)); with_reducible repeat' (first | exact Tr.yes_h | refine Tr.and_h ?_ ?_ | refine Tr.imp_h fun _ => ?_ | refine Tr.all_h fun _ => ?_ | refine Tr.lf_h ?_))
    all_goals (first | first | (show Region.lexB _ _ = true; kernel_rfl) | (show planned _ _ = true; kernel_rfl) | exact rfl | exact True.intro | ((try dsimp only [imp, C1, cBlk, cItm] at *); (try refine inR64 ?_ ?_) <;> (try simp only [List.length_set, List.length_append, List.length_take, List.length_drop]) <;> omega))
theorem next_nil (bb bq bp q : Nat) :
    Does (C := C1) Try.prog (.fn 9) (qz bb bq bp q) [.ptr 0 0 0] [⟨Unit, fun _ => True, fun _ => .tup [zSV, .bool .f], fun _ => qz bb bq bp q⟩] := by
  refine loc_fn (P := Try.prog) (E := ⟨[fcPop], [pcQLen, pcQLen0], 16, []⟩) (L := []) mix Try.func9 rfl (by kernel_rfl) (by kernel_rfl) rfl rfl ?_
  ((conv => (arg 1; reduce)); with_reducible repeat' (first | exact Tr.yes_h | refine Tr.and_h ?_ ?_ | refine Tr.imp_h fun _ => ?_ | refine Tr.all_h fun _ => ?_ | refine Tr.lf_h ?_))
  all_goals try first | (show Region.lexB _ _ = true; kernel_rfl) | (show planned _ _ = true; kernel_rfl) | exact rfl | exact True.intro
  all_goals try (rename_i h; exact absurd h (by decide))
  · refine Ends.one () trivial ?_
    ((conv => (arg 1; reduce)); with_reducible repeat' (first | exact Tr.yes_h | refine Tr.and_h ?_ ?_ | refine Tr.imp_h fun _ => ?_ | refine Tr.all_h fun _ => ?_ | refine Tr.lf_h ?_))
    all_goals (first | first | (show Region.lexB _ _ = true; kernel_rfl) | (show planned _ _ = true; kernel_rfl) | exact rfl | exact True.intro | ((try dsimp only [imp, C1, cBlk, cItm] at *); (try refine inR64 ?_ ?_) <;> (try simp only [List.length_set, List.length_append, List.length_take, List.length_drop]) <;> omega))
noncomputable def fcNext : Fc Try.prog C1 where
  tg := .fn 9
  X := Qy
  args := fun _ => [.ptr 0 0 0]
  mem := fun ⟨bb, bq, bp, q, b, base, l, n, c⟩ => qq bb bq bp q b base true l n c
  pre := fun ⟨_, _, _, _, _, _, l, n, c⟩ => Hg.HOK d0 lessI l n c ∧ n < 1048576
  alts := fun ⟨bb, bq, bp, q, b, base, l, n, c⟩ => [⟨Unit, fun _ => n = 0, fun _ => .tup [zSV, .bool .f], fun _ => qq bb bq bp q b base true l n c⟩,
      ⟨List Itm, fun l' => 0 < n ∧ cutPost l (n - 1) c 0 l', fun l' => .tup [bSV (at_ l' (n - 1)).1, .bool .t], fun l' => qq bb bq bp q b base true l' (n - 1) c⟩]
  mat vs m := match vs with
    | [p] => matQQ p m
    | _ => none
  ok := fun ⟨_, _, _, _, _, _, _, _, _⟩ h => next_ok _ _ _ _ _ _ _ _ _ h.1 h.2
noncomputable def fcNext0 : Fc Try.prog C1 where
  tg := .fn 9
  X := Nat × Nat × Nat × Nat
  args := fun _ => [.ptr 0 0 0]
  mem := fun (bb, bq, bp, q) => qz bb bq bp q
  pre := fun _ => True
  alts := fun (bb, bq, bp, q) => [⟨Unit, fun _ => True, fun _ => .tup [zSV, .bool .f], fun _ => qz bb bq bp q⟩]
  mat vs m := match vs with
    | [p] => matQZ p m
    | _ => none
  ok := fun (_, _, _, _) _ => next_nil _ _ _ _

/-! What comes out: one behind the other. -/
abbrev leI (a b : Itm) : Prop := lessI b a = false
/-- Those taken, and the heap of the rest. -/
structure Popd (its D l : List Itm) (n c : Nat) : Prop where
  hok : Hg.HOK d0 lessI l n c
  perm : (D ++ l.take n).Perm its
  srt : D.Pairwise leI
  low : ∀ x ∈ l.take n, ∀ d ∈ D, leI d x
theorem Popd.start {its l : List Itm} {n c : Nat} (h : hOf its l n c) : Popd its [] l n c := ⟨h.1, h.2, List.Pairwise.nil, fun x _ d hd => by cases hd⟩
theorem Popd.step {its D l l' : List Itm} {n c : Nat} (h : Popd its D l n c) (h0 : 0 < n) (hc : cutPost l (n - 1) c 0 l') : Popd its (D ++ [at_ l' (n - 1)]) l' (n - 1) c := by
  obtain ⟨h1, h2, h3⟩ := hc
  rw [show n - 1 + 1 = n by omega] at h3
  rw [h2]
  have hlen := h.hok.lt_len
  have hm : ∀ x ∈ l'.take (n - 1), x ∈ l.take n := fun x hx => h3.mem_iff.2 (List.mem_cons_of_mem _ hx)
  have he : at_ l 0 ∈ l.take n := h3.mem_iff.2 (List.mem_cons_self ..)
  refine ⟨h1, ?_, ?_, ?_⟩
  · rw [List.append_assoc]
    exact (List.Perm.append_left D h3.symm).trans h.perm
  · rw [List.pairwise_append]
    refine ⟨h.srt, List.pairwise_singleton _ _, fun a ha b hb => ?_⟩
    rw [List.mem_singleton] at hb
    rw [hb]
    exact h.low _ he a ha
  · intro x hx d hd
    rcases List.mem_append.1 hd with hd | hd
    · exact h.low x (hm x hx) d hd
    · rw [List.mem_singleton] at hd
      rw [hd]
      obtain ⟨k, hk, rfl⟩ := (Hg.mem_take d0 hlen).1 (hm x hx)
      exact Hg.heap_first ordI h.hok.heap k hk
/-- All of them, in order. -/
def Srt (its L : List Itm) : Prop := L.Perm its ∧ L.Pairwise leI
theorem Popd.done {its D l : List Itm} {c : Nat} (h : Popd its D l 0 c) : Srt its D := ⟨by simpa using h.perm, h.srt⟩
theorem Popd.len {its D l : List Itm} {n c : Nat} (h : Popd its D l n c) : D.length + n = its.length := by
  have := h.perm.length_eq
  have := h.hok.lt_len
  simp at *; omega
/-- The first one. -/
def Head (its : List Itm) (e : Itm) : Prop := e ∈ its ∧ ∀ x ∈ its, leI e x
theorem Popd.head {its l : List Itm} {e : Itm} {n c : Nat} (h : Popd its [e] l n c) : Head its e := by
  refine ⟨h.perm.mem_iff.1 (by simp), fun x hx => ?_⟩
  have := h.perm.mem_iff.2 hx
  rcases List.mem_append.1 this with hd | hd
  · rw [List.mem_singleton] at hd; rw [hd]; exact ordI.irr e
  · exact h.low x hd e (by simp)

set_option maxHeartbeats 4000000 in
theorem greedy_ok (b q : Nat) (bl : List Blk) (N m : Nat) (hN : N ≤ bl.length) (hb : N < 1048576) :
    Does (C := C1) Try.prog (.fn 14) [⟨b, q, 4, false, none, .rows 27 bl⟩] [.sl 0 0 N m]
     [⟨Unit, fun _ => N = 0, fun _ => .tup [zSV, .bool .f], fun y => [⟨b, q, 4, false, none, .rows 27 bl⟩]⟩,
      ⟨Itm, fun e => 0 < N ∧ Head (itms bl N) e, fun e => .tup [bSV e.1, .bool .t], fun y => [⟨b, q, 4, false, none, .rows 27 bl⟩]⟩] := by
  refine loc_fn (P := Try.prog) (E := ⟨[fcOf, fcOf0, fcNext, fcNext0], [], 9, []⟩) (L := []) mix Try.func14 rfl (by kernel_rfl) (by kernel_rfl) rfl rfl ?_
  ((conv => (arg 1; reduce)); with_reducible repeat' (first | exact Tr.yes_h | refine Tr.and_h ?_ ?_ | refine Tr.imp_h fun _ => ?_ | refine Tr.all_h fun _ => ?_ | refine Tr.lf_h ?_))
  all_goals try first | (show Region.lexB _ _ = true; kernel_rfl) | (show planned _ _ = true; kernel_rfl) | exact rfl | exact True.intro
  · exact ⟨hN, hb⟩
  · rename_i q1 y hy u hu
    refine Ends.one () hy ?_
    ((conv => (arg 1; reduce)); with_reducible repeat' (first | exact Tr.yes_h | refine Tr.and_h ?_ ?_ | refine Tr.imp_h fun _ => ?_ | refine Tr.all_h fun _ => ?_ | refine Tr.lf_h ?_))
    all_goals (first | first | (show Region.lexB _ _ = true; kernel_rfl) | (show planned _ _ = true; kernel_rfl) | exact rfl | exact True.intro | ((try dsimp only [imp, C1, cBlk, cItm] at *); (try refine inR64 ?_ ?_) <;> (try simp only [List.length_set, List.length_append, List.length_take, List.length_drop]) <;> omega))
  · rename_i q1 y hy
    exact ⟨hy.2.1, hb⟩
  · rename_i q1 y hy u hu
    exfalso
    have h0 : N = 0 := hu
    have h1 : 0 < N := hy.1
    omega
  · rename_i q1 y hy l' hl
    have hp := (Popd.start hy.2).step hy.1 hl.2
    refine Ends.next (Ends.one (at_ l' (N - 1)) ⟨hy.1, hp.head⟩ ?_)
    ((conv => (arg 1; reduce)); with_reducible repeat' (first | exact Tr.yes_h | refine Tr.and_h ?_ ?_ | refine Tr.imp_h fun _ => ?_ | refine Tr.all_h fun _ => ?_ | refine Tr.lf_h ?_))
    all_goals (first | first | (show Region.lexB _ _ = true; kernel_rfl) | (show planned _ _ = true; kernel_rfl) | exact rfl | exact True.intro | ((try dsimp only [imp, C1, cBlk, cItm] at *); (try refine inR64 ?_ ?_) <;> (try simp only [List.length_set, List.length_append, List.length_take, List.length_drop]) <;> omega))
theorem greedy_nil : Does (C := C1) Try.prog (.fn 14) [] [.nils] [⟨Unit, fun _ => True, fun _ => .tup [zSV, .bool .f], fun y => []⟩] := by
  refine loc_fn (P := Try.prog) (E := ⟨[fcOf, fcOf0, fcNext, fcNext0], [], 9, []⟩) (L := []) mix Try.func14 rfl (by kernel_rfl) (by kernel_rfl) rfl rfl ?_
  ((conv => (arg 1; reduce)); with_reducible repeat' (first | exact Tr.yes_h | refine Tr.and_h ?_ ?_ | refine Tr.imp_h fun _ => ?_ | refine Tr.all_h fun _ => ?_ | refine Tr.lf_h ?_))
  all_goals try first | (show Region.lexB _ _ = true; kernel_rfl) | (show planned _ _ = true; kernel_rfl) | exact rfl | exact True.intro
  · refine Ends.one () trivial ?_
    ((conv => (arg 1; reduce)); with_reducible repeat' (first | exact Tr.yes_h | refine Tr.and_h ?_ ?_ | refine Tr.imp_h fun _ => ?_ | refine Tr.all_h fun _ => ?_ | refine Tr.lf_h ?_))
    all_goals (first | first | (show Region.lexB _ _ = true; kernel_rfl) | (show planned _ _ = true; kernel_rfl) | exact rfl | exact True.intro | ((try dsimp only [imp, C1, cBlk, cItm] at *); (try refine inR64 ?_ ?_) <;> (try simp only [List.length_set, List.length_append, List.length_take, List.length_drop]) <;> omega))
noncomputable def fcGreedy : Fc Try.prog C1 where
  tg := .fn 14
  X := Nat × Nat × List Blk × Nat × Nat
  args := fun (_, _, _, N, m) => [.sl 0 0 N m]
  mem := fun (b, q, bl, _, _) => [⟨b, q, 4, false, none, .rows 27 bl⟩]
  pre := fun (_, _, bl, N, _) => N ≤ bl.length ∧ N < 1048576
  alts := fun (b, q, bl, N, m) => [⟨Unit, fun _ => N = 0, fun _ => .tup [zSV, .bool .f], fun y => [⟨b, q, 4, false, none, .rows 27 bl⟩]⟩,
      ⟨Itm, fun e => 0 < N ∧ Head (itms bl N) e, fun e => .tup [bSV e.1, .bool .t], fun y => [⟨b, q, 4, false, none, .rows 27 bl⟩]⟩]
  mat vs m := match vs with
    | [.sl k _ n c] => match nth m k with
      | ⟨b, q, _, _, _, .rows 27 l⟩ => some ((b, q, l, n, c), [k])
      | _ => none
    | _ => none
  ok := fun (_, _, _, _, _) h => greedy_ok _ _ _ _ _ h.1 h.2
noncomputable def fcGreedy0 : Fc Try.prog C1 where
  tg := .fn 14
  X := Unit
  args := fun _ => [.nils]
  mem := fun _ => []
  pre := fun _ => True
  alts := fun _ => [⟨Unit, fun _ => True, fun _ => .tup [zSV, .bool .f], fun y => []⟩]
  mat vs m := match vs with
    | [.nils] => some ((), [])
    | _ => none
  ok := fun _ _ => greedy_nil
end Go.Vi
