/-
  Round 21: all blocks in order.
  Conditions: none.
-/
import Derived.Test.YtoiiehjnfdhciaaViF
set_option maxRecDepth 100000
set_option linter.unusedVariables false
set_option linter.unusedSimpArgs false
namespace Go.Vi
open Go Go.Vx Go.Proofs

/-- A state of the loop: the block's cell, the list made, the queue's heap, those taken, the last one taken. -/
structure Ox where
  cb : Nat
  ob : Nat
  oq : Nat
  o : List Blk
  oc : Nat
  l : List Itm
  n : Nat
  c : Nat
  D : List Itm
  e : Itm
abbrev oQ (l : List Itm) (n c : Nat) (m : List (Ck C1)) : List (Ck C1) := (setCk (setCk m 2 (.one [.sl 3 0 n c, lsSV])) 3 (.rows 57 l)).take 4
abbrev oC (cb : Nat) (e : Itm) : Ck C1 := ⟨cb, 0, 4, true, none, .one [.int .i64 e.1.1, .int .i64 e.1.2.1, .int .i64 e.1.2.2.1, .bool (.tm e.1.2.2.2)]⟩
abbrev Out (o : List Blk) (k oc : Nat) (D : List Itm) : Prop := k = D.length ∧ k ≤ oc ∧ oc ≤ o.length ∧ o.take k = D.map (·.1)
def Od (N : Nat) : Inv' C1 := ⟨4, Unit, fun _ => [(6, .bool .f), (3, .nils)], fun _ m => m, fun _ => N = 0, fun _ => 0⟩
def Oe (bl : List Blk) (N : Nat) : Inv' C1 := ⟨4, Ox, fun x => [(6, .bool .t), (3, .nils), (5, .ptr 4 0 0)], fun x m => oQ x.l x.n x.c m ++ [oC x.cb x.e],
  fun x => 0 < N ∧ x.n < 1048576 ∧ Popd (itms bl N) [x.e] x.l x.n x.c, fun x => x.n + 2⟩
def Of (bl : List Blk) (N : Nat) : Inv' C1 := ⟨4, Ox, fun x => [(6, .bool .t), (3, .sl 5 0 x.D.length x.oc), (5, .ptr 4 0 0)], fun x m => oQ x.l x.n x.c m ++ [oC x.cb x.e, ⟨x.ob, x.oq, 4, true, none, .rows 27 x.o⟩],
  fun x => 0 < N ∧ x.n < 1048576 ∧ Popd (itms bl N) (x.D ++ [x.e]) x.l x.n x.c ∧ 0 < x.D.length ∧ Out x.o x.D.length x.oc x.D, fun x => x.n + 2⟩
def Og (bl : List Blk) (N : Nat) : Inv' C1 := ⟨4, Ox, fun x => [(6, .bool .f), (3, .sl 4 0 N x.oc)], fun x m => oQ x.l x.n x.c m ++ [⟨x.ob, x.oq, 4, true, none, .rows 27 x.o⟩],
  fun x => 0 < N ∧ Srt (itms bl N) x.D ∧ Out x.o N x.oc x.D, fun x => 0⟩
theorem Out.snoc {o sp : List Blk} {k oc cap : Nat} {D : List Itm} {e : Itm} (h : Out o k oc D) (h1 : k + 1 ≤ cap) (h2 : cap ≤ k + 1 + sp.length) : Out (o.take k ++ [e.1] ++ sp) (k + 1) cap (D ++ [e]) := by
  obtain ⟨g1, g2, g3, g4⟩ := h
  refine ⟨by simp [g1], h1, by simp; omega, ?_⟩
  rw [List.take_append_of_le_length (by simp; omega), List.take_of_length_le (by simp; omega), g4]
  simp
theorem Out.one {sp : List Blk} {e : Itm} : Out (List.append [e.1] sp) 1 (1 + sp.length) [e] := by
  refine ⟨rfl, by omega, by simp; omega, ?_⟩
  show List.take 1 (e.1 :: sp) = _
  simp
theorem Popd.done' {its D l : List Itm} {n c : Nat} (h : Popd its D l n c) (h0 : n = 0) : Srt its D := by subst h0; exact h.done
set_option maxHeartbeats 8000000 in
theorem order_ok (b q : Nat) (bl : List Blk) (N m : Nat) (hN : N ≤ bl.length) (hb : N < 1048576) :
    Does (C := C1) Try.prog (.fn 12) [⟨b, q, 4, false, none, .rows 27 bl⟩] [.sl 0 0 N m]
     [⟨Unit, fun _ => N = 0, fun _ => .nils, fun y => [⟨b, q, 4, false, none, .rows 27 bl⟩]⟩,
      ⟨Nat × Nat × List Blk × Nat × List Itm, fun y => 0 < N ∧ Srt (itms bl N) y.2.2.2.2 ∧ Out y.2.2.1 N y.2.2.2.1 y.2.2.2.2, fun y => .sl 1 0 N y.2.2.2.1, fun y => [⟨b, q, 4, false, none, .rows 27 bl⟩, ⟨y.1, y.2.1, 4, true, none, .rows 27 y.2.2.1⟩]⟩] := by
  refine loc_fn (P := Try.prog) (E := ⟨[fcOf, fcOf0, fcNext, fcNext0], [], 26, []⟩) (L := [Od N, Oe bl N, Of bl N, Og bl N]) mix Try.func12 rfl (by kernel_rfl) (by kernel_rfl) rfl rfl ?_
  ((conv => (arg 1; reduce)); with_reducible repeat' (first | exact Tr.yes_h | refine Tr.and_h ?_ ?_ | refine Tr.imp_h fun _ => ?_ | refine Tr.all_h fun _ => ?_ | refine Tr.lf_h ?_))
  all_goals try first | (show Region.lexB _ _ = true; kernel_rfl) | (show planned _ _ = true; kernel_rfl) | exact rfl | exact True.intro
  all_goals try exact absurd ‹(1 : Nat) = 0› (by decide)
  all_goals try (exfalso; have h0 : N = 0 := (by assumption : N = 0); first | (have h1 := (‹(Oe bl N).inv _› : (Oe bl N).inv _).1; omega) | (have h1 := (‹(Of bl N).inv _› : (Of bl N).inv _).1; omega) | (have h1 := (‹(Og bl N).inv _› : (Og bl N).inv _).1; omega) | (have h1 := (by assumption : 0 < N ∧ hOf (itms bl N) _ N _).1; omega))
  all_goals try (exfalso; have h0 : N = 0 := (‹(Od N).inv _› : (Od N).inv _); have h1 := (by assumption : 0 < N ∧ hOf (itms bl N) _ N _).1; omega)
  · exact ⟨hN, hb⟩
  · rename_i y hy u hu cb
    refine Stands.one () ⟨hy, ?_⟩
    ((conv => (arg 1; reduce)); with_reducible repeat' (first | exact Tr.yes_h | refine Tr.and_h ?_ ?_ | refine Tr.imp_h fun _ => ?_ | refine Tr.all_h fun _ => ?_ | refine Tr.lf_h ?_))
    all_goals (first | first | (show Region.lexB _ _ = true; kernel_rfl) | (show planned _ _ = true; kernel_rfl) | exact rfl | exact True.intro | ((try dsimp only [imp, C1, cBlk, cItm] at *); (try refine inR64 ?_ ?_) <;> (try simp only [List.length_set, List.length_append, List.length_take, List.length_drop]) <;> omega))
  · rename_i y hy u hu cb x hx
    refine Ends.one () hy ?_
    ((conv => (arg 1; reduce)); with_reducible repeat' (first | exact Tr.yes_h | refine Tr.and_h ?_ ?_ | refine Tr.imp_h fun _ => ?_ | refine Tr.all_h fun _ => ?_ | refine Tr.lf_h ?_))
    all_goals (first | first | (show Region.lexB _ _ = true; kernel_rfl) | (show planned _ _ = true; kernel_rfl) | exact rfl | exact True.intro | ((try dsimp only [imp, C1, cBlk, cItm] at *); (try refine inR64 ?_ ?_) <;> (try simp only [List.length_set, List.length_append, List.length_take, List.length_drop]) <;> omega))
  · rename_i y hy
    exact ⟨hy.2.1, hb⟩
  · rename_i y hy l' hl cb
    refine Stands.next (Stands.one ⟨cb, 0, 0, [], 0, l', N - 1, y.2.2.2.2.2.2.2, [], at_ l' (N - 1)⟩ ⟨⟨hy.1, by show N - 1 < _; omega, (Popd.start hy.2).step hy.1 hl.2⟩, ?_⟩)
    ((conv => (arg 1; reduce)); with_reducible repeat' (first | exact Tr.yes_h | refine Tr.and_h ?_ ?_ | refine Tr.imp_h fun _ => ?_ | refine Tr.all_h fun _ => ?_ | refine Tr.lf_h ?_))
    all_goals (first | first | (show Region.lexB _ _ = true; kernel_rfl) | (show planned _ _ = true; kernel_rfl) | exact rfl | exact True.intro | ((try dsimp only [imp, C1, cBlk, cItm] at *); (try refine inR64 ?_ ?_) <;> (try simp only [List.length_set, List.length_append, List.length_take, List.length_drop]) <;> omega))
  · rw [by27]; exact ⟨Nat.le_refl 1, by decide⟩
  · rename_i y hy l' hl cb x hx bs h01 b2 sp nc
    exact ⟨hx.2.2.hok, hx.2.1⟩
  · rename_i y hy l' hl cb x hx bs h01 b2 sp nc u hu
    have hu : x.n = 0 := hu
    have hlen := hx.2.2.len
    rw [itms_len, hu] at hlen
    have e1 : N = 1 := hlen.symm
    refine Stands.next (Stands.next (Stands.next (Stands.one ⟨nc, b2, 0, List.append [x.e.1] sp, 1 + sp.length, x.l, x.n, x.c, [x.e], x.e⟩ ⟨⟨hx.1, hx.2.2.done' hu, ?_⟩, ?_, ?_⟩)))
    · rw [e1]; exact Out.one
    · show 0 < x.n + 2; omega
    · ((conv => (arg 1; reduce)); with_reducible repeat' (first | exact Tr.yes_h | refine Tr.and_h ?_ ?_ | refine Tr.imp_h fun _ => ?_ | refine Tr.all_h fun _ => ?_ | refine Tr.lf_h ?_))
      all_goals first | (first | first | (show Region.lexB _ _ = true; kernel_rfl) | (show planned _ _ = true; kernel_rfl) | exact rfl | exact True.intro | ((try dsimp only [imp, C1, cBlk, cItm] at *); (try refine inR64 ?_ ?_) <;> (try simp only [List.length_set, List.length_append, List.length_take, List.length_drop]) <;> omega)) | exact e1 | exact e1.symm
  · rename_i y hy l' hl cb x hx bs h01 b2 sp nc l2 h2
    have h0 : 0 < x.n := h2.1
    refine Stands.next (Stands.next (Stands.one ⟨nc, b2, 0, List.append [x.e.1] sp, 1 + sp.length, l2, x.n - 1, x.c, [x.e], at_ l2 (x.n - 1)⟩ ⟨⟨hx.1, ?_, hx.2.2.step h0 h2.2, Nat.one_pos, Out.one⟩, ?_, ?_⟩))
    · have := hx.2.1; show x.n - 1 < _; omega
    · show x.n - 1 + 2 < x.n + 2; omega
    · ((conv => (arg 1; reduce)); with_reducible repeat' (first | exact Tr.yes_h | refine Tr.and_h ?_ ?_ | refine Tr.imp_h fun _ => ?_ | refine Tr.all_h fun _ => ?_ | refine Tr.lf_h ?_))
      all_goals (first | first | (show Region.lexB _ _ = true; kernel_rfl) | (show planned _ _ = true; kernel_rfl) | exact rfl | exact True.intro | ((try dsimp only [imp, C1, cBlk, cItm] at *); (try refine inR64 ?_ ?_) <;> (try simp only [List.length_set, List.length_append, List.length_take, List.length_drop]) <;> omega))
  · rename_i y hy l' hl cb x hx bs
    have hlen := hx.2.2.1.len
    rw [itms_len, List.length_append, List.length_singleton] at hlen
    obtain ⟨g1, g2, g3, g4, g5, g6, g7, g8⟩ := hx
    rw [by27]
    exact ⟨g6, by rw [Nat.zero_add]; exact g7, Nat.le_refl 1, by omega⟩
  · rename_i y hy l' hl cb x hx bs b2 base2 sp cap h1 h2 nc
    exact ⟨hx.2.2.1.hok, hx.2.1⟩
  · rename_i y hy l' hl cb x hx bs b2 base2 sp cap h1 h2 nc u hu
    have hu : x.n = 0 := hu
    have hlen := hx.2.2.1.len
    rw [itms_len, List.length_append, List.length_singleton, hu] at hlen
    have e1 : N = x.D.length + 1 := hlen.symm
    refine Stands.next (Stands.next (Stands.next (Stands.one ⟨nc, b2, base2, List.append (x.o.take x.D.length ++ [x.e.1]) sp, cap, x.l, x.n, x.c, x.D ++ [x.e], x.e⟩ ⟨⟨hx.1, hx.2.2.1.done' hu, ?_⟩, ?_, ?_⟩)))
    · rw [e1]; exact Out.snoc hx.2.2.2.2 h1 h2
    · show 0 < x.n + 2; omega
    · ((conv => (arg 1; reduce)); with_reducible repeat' (first | exact Tr.yes_h | refine Tr.and_h ?_ ?_ | refine Tr.imp_h fun _ => ?_ | refine Tr.all_h fun _ => ?_ | refine Tr.lf_h ?_))
      all_goals first | (first | first | (show Region.lexB _ _ = true; kernel_rfl) | (show planned _ _ = true; kernel_rfl) | exact rfl | exact True.intro | ((try dsimp only [imp, C1, cBlk, cItm] at *); (try refine inR64 ?_ ?_) <;> (try simp only [List.length_set, List.length_append, List.length_take, List.length_drop]) <;> omega)) | exact e1 | exact e1.symm
  · rename_i y hy l' hl cb x hx bs b2 base2 sp cap h1 h2 nc l2 h3
    have h0 : 0 < x.n := h3.1
    refine Stands.next (Stands.next (Stands.one ⟨nc, b2, base2, List.append (x.o.take x.D.length ++ [x.e.1]) sp, cap, l2, x.n - 1, x.c, x.D ++ [x.e], at_ l2 (x.n - 1)⟩ ⟨⟨hx.1, ?_, hx.2.2.1.step h0 h3.2, ?_, ?_⟩, ?_, ?_⟩))
    · have := hx.2.1; show x.n - 1 < _; omega
    · show 0 < (x.D ++ [x.e]).length; simp
    · show Out _ (x.D ++ [x.e]).length cap _
      rw [List.length_append]; exact Out.snoc hx.2.2.2.2 h1 h2
    · show x.n - 1 + 2 < x.n + 2; omega
    · ((conv => (arg 1; reduce)); with_reducible repeat' (first | exact Tr.yes_h | refine Tr.and_h ?_ ?_ | refine Tr.imp_h fun _ => ?_ | refine Tr.all_h fun _ => ?_ | refine Tr.lf_h ?_))
      all_goals first | (first | first | (show Region.lexB _ _ = true; kernel_rfl) | (show planned _ _ = true; kernel_rfl) | exact rfl | exact True.intro | ((try dsimp only [imp, C1, cBlk, cItm] at *); (try refine inR64 ?_ ?_) <;> (try simp only [List.length_set, List.length_append, List.length_take, List.length_drop]) <;> omega)) | (show (x.D ++ [x.e]).length = _; simp) | (show _ = (x.D ++ [x.e]).length; simp)
  · rename_i y hy l' hl cb x hx
    refine Ends.next (Ends.one (x.ob, x.oq, x.o, x.oc, x.D) ⟨hx.1, hx.2.1, hx.2.2⟩ ?_)
    ((conv => (arg 1; reduce)); with_reducible repeat' (first | exact Tr.yes_h | refine Tr.and_h ?_ ?_ | refine Tr.imp_h fun _ => ?_ | refine Tr.all_h fun _ => ?_ | refine Tr.lf_h ?_))
    all_goals (first | first | (show Region.lexB _ _ = true; kernel_rfl) | (show planned _ _ = true; kernel_rfl) | exact rfl | exact True.intro | ((try dsimp only [imp, C1, cBlk, cItm] at *); (try refine inR64 ?_ ?_) <;> (try simp only [List.length_set, List.length_append, List.length_take, List.length_drop]) <;> omega))
theorem order_nil : Does (C := C1) Try.prog (.fn 12) [] [.nils] [⟨Unit, fun _ => True, fun _ => .nils, fun y => []⟩] := by
  refine loc_fn (P := Try.prog) (E := ⟨[fcOf, fcOf0, fcNext, fcNext0], [], 26, []⟩) (L := [Od 0]) mix Try.func12 rfl (by kernel_rfl) (by kernel_rfl) rfl rfl ?_
  ((conv => (arg 1; reduce)); with_reducible repeat' (first | exact Tr.yes_h | refine Tr.and_h ?_ ?_ | refine Tr.imp_h fun _ => ?_ | refine Tr.all_h fun _ => ?_ | refine Tr.lf_h ?_))
  all_goals try first | (show Region.lexB _ _ = true; kernel_rfl) | (show planned _ _ = true; kernel_rfl) | exact rfl | exact True.intro
  · refine Stands.one () ⟨rfl, ?_⟩
    ((conv => (arg 1; reduce)); with_reducible repeat' (first | exact Tr.yes_h | refine Tr.and_h ?_ ?_ | refine Tr.imp_h fun _ => ?_ | refine Tr.all_h fun _ => ?_ | refine Tr.lf_h ?_))
    all_goals (first | first | (show Region.lexB _ _ = true; kernel_rfl) | (show planned _ _ = true; kernel_rfl) | exact rfl | exact True.intro | ((try dsimp only [imp, C1, cBlk, cItm] at *); (try refine inR64 ?_ ?_) <;> (try simp only [List.length_set, List.length_append, List.length_take, List.length_drop]) <;> omega))
  · refine Ends.one () trivial ?_
    ((conv => (arg 1; reduce)); with_reducible repeat' (first | exact Tr.yes_h | refine Tr.and_h ?_ ?_ | refine Tr.imp_h fun _ => ?_ | refine Tr.all_h fun _ => ?_ | refine Tr.lf_h ?_))
    all_goals (first | first | (show Region.lexB _ _ = true; kernel_rfl) | (show planned _ _ = true; kernel_rfl) | exact rfl | exact True.intro | ((try dsimp only [imp, C1, cBlk, cItm] at *); (try refine inR64 ?_ ?_) <;> (try simp only [List.length_set, List.length_append, List.length_take, List.length_drop]) <;> omega))
noncomputable def fcOrder : Fc Try.prog C1 where
  tg := .fn 12
  X := Nat × Nat × List Blk × Nat × Nat
  args := fun (_, _, _, N, m) => [.sl 0 0 N m]
  mem := fun (b, q, bl, _, _) => [⟨b, q, 4, false, none, .rows 27 bl⟩]
  pre := fun (_, _, bl, N, _) => N ≤ bl.length ∧ N < 1048576
  alts := fun (b, q, bl, N, m) => [⟨Unit, fun _ => N = 0, fun _ => .nils, fun y => [⟨b, q, 4, false, none, .rows 27 bl⟩]⟩,
      ⟨Nat × Nat × List Blk × Nat × List Itm, fun y => 0 < N ∧ Srt (itms bl N) y.2.2.2.2 ∧ Out y.2.2.1 N y.2.2.2.1 y.2.2.2.2, fun y => .sl 1 0 N y.2.2.2.1, fun y => [⟨b, q, 4, false, none, .rows 27 bl⟩, ⟨y.1, y.2.1, 4, true, none, .rows 27 y.2.2.1⟩]⟩]
  mat vs m := match vs with
    | [.sl k _ n c] => match nth m k with
      | ⟨b, q, _, _, _, .rows 27 l⟩ => some ((b, q, l, n, c), [k])
      | _ => none
    | _ => none
  ok := fun (_, _, _, _, _) h => order_ok _ _ _ _ _ h.1 h.2
noncomputable def fcOrder0 : Fc Try.prog C1 where
  tg := .fn 12
  X := Unit
  args := fun _ => [.nils]
  mem := fun _ => []
  pre := fun _ => True
  alts := fun _ => [⟨Unit, fun _ => True, fun _ => .nils, fun y => []⟩]
  mat vs m := match vs with
    | [.nils] => some ((), [])
    | _ => none
  ok := fun _ _ => order_nil
end Go.Vi
