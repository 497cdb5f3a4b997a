/-
  Round 22: the keys of a map, rising.
  Round 22: what a scan says, plainly.
  Round 22: rows by their blocks; how many keys there may be: plain facts.
  The symbolic evaluator: the plan of a great region, looked at in pieces.
  Round 22: the order of the great regions (the print of tools/bigplan.py).
  Round 22: the order of the great regions (the print of tools/bigplan.py).
  Round 22: what is bad, and the numbers.
  Round 22: the pages of each key, plainly; the map in which they are gathered.
  Round 22: fresh blocks; how many pages there may be.
  Round 22: how many keys and slots there may be.
  Conditions: none.
-/
import Derived.Test.YtnihemjnhbickaaDoorM4
import Derived.Test.YtnihemjnhbickaaDoorM5
set_option linter.unusedVariables false
set_option linter.unusedSimpArgs false
set_option linter.unusedSectionVars false
set_option maxRecDepth 100000
namespace Go.Vx
open Go Go.Proofs
variable [Gl]
/-- The keys, rising. -/
theorem rise_srt {A : List Int} (h : A.Nodup) : Rise (srt A) := by
  have h1 := srt_le A
  have h2 : (srt A).Nodup := (srt_perm A).nodup_iff.2 h
  rw [List.Nodup] at h2
  exact (h1.and h2).imp fun ⟨a, b⟩ => by omega
theorem Gth.sorted {A : List Int} {o : Bool} {b q : Nat} {l : List Int} {n c : Nat} (h : Gth A (o, b, q, l, n, c)) : Gth (srt A) (o, b, q, srt (l.take n) ++ l.drop n, n, c) := by
  obtain ⟨e1, e2, e3, e4, e5⟩ := h
  have e1 : l.take n = A := e1
  have e2 : A.length = n := e2
  have e4 : c ≤ l.length := e4
  have e3 : n ≤ c := e3
  refine ⟨?_, by rw [srt_len]; exact e2, e3, ?_, e5⟩
  · show (srt (l.take n) ++ l.drop n).take n = srt A
    rw [e1, List.take_append_of_le_length (by rw [srt_len]; omega), List.take_of_length_le (by rw [srt_len]; omega)]
  · show c ≤ (srt (l.take n) ++ l.drop n).length
    rw [List.length_append, srt_len, e1, List.length_drop]; omega

/-- The keys of a map, gathered, rising. -/
def SdB (S : List Int) (y : Sq Int) : Prop := ∃ A, Rise A ∧ (∀ k, k ∈ A ↔ k ∈ S) ∧ Gth A y
theorem SdB.of {M : MpB} {clk : Nat} {S : List Int} (h : MKeys (d := C0 4) M clk S) {o : Bool} {b q : Nat} {l : List Int} {n c : Nat} (hy : KsB M (o, b, q, l, n, c)) : SdB S (o, b, q, srt (l.take n) ++ l.drop n, n, c) := by
  obtain ⟨A, hp, hG⟩ := hy
  refine ⟨srt A, rise_srt (hp.nodup_iff.2 h.nd), fun k => ?_, hG.sorted⟩
  rw [(srt_perm A).mem_iff, hp.mem_iff]
  exact h.mem k
set_option maxHeartbeats 4000000 in
theorem sortedB_ok (bx qx bm : Nat) (M : MpB) (clk : Nat) (h : MKeys (d := C0 4) M clk (M.map fun e => e.1)) (hl : M.length < 1000000000) :
    Does (C := C0) Tryd.prog (.fn 35) (mpB bx qx bm M clk) [.fn (.func 58) [] [.ptr 0 0 0]]
      [⟨Sq Int, fun y => SdB (M.map fun e => e.1) y, fun y => .sl 2 0 y.2.2.2.2.1 y.2.2.2.2.2, fun y => moB bx qx bm M clk y⟩] := by
  refine loc_fn (P := Tryd.prog) (E := ⟨[fcCollB, fcSort], [], 9, [], [], []⟩) (L := []) mix Tryd.func35 rfl (by kernel_rfl) (by kernel_rfl) rfl rfl ?_
  ((conv => (arg 1; reduce)); with_reducible repeat' (first | exact Tr.yes_h | refine Tr.and_h ?_ ?_ | refine Tr.imp_h fun _ => ?_ | refine Tr.all_h fun _ => ?_ | refine Tr.lf_h ?_))
  all_goals try (first | first | (show Region.lexB _ _ = true; kernel_rfl) | (show planned _ _ = true; kernel_rfl) | exact rfl | exact True.intro | (first | exact key3 | exact zeroB | exact zeroR | exact zeroS | exact ⟨key3, zeroB⟩ | exact ⟨key3, zeroR⟩ | exact ⟨key3, zeroS⟩) | ((try dsimp only [imp, C0, cG, cInt, cPl, cSlot, cPg, gwCodec] at *); (try refine inR64 ?_ ?_) <;> (try simp only [List.length_set, List.length_append, List.length_take, List.length_drop]) <;> omega))
  · exact ⟨h.born, hl⟩
  · rename_i y hy
    obtain ⟨o, b, q, l, n, c⟩ := y
    obtain ⟨A, hp, e1, e2, e3, e4, e5⟩ := hy
    have e2 : A.length = n := e2
    have e3 : n ≤ c := e3
    have e4 : c ≤ l.length := e4
    have hA : A.length = M.length := by rw [hp.length_eq, List.length_map]
    exact ⟨by show n ≤ l.length; omega, by show n < 4611686018427387904; omega, e5⟩
  · rename_i y hy u hu
    obtain ⟨o, b, q, l, n, c⟩ := y
    refine Ends.one ((o, b, q, srt (l.take n) ++ l.drop n, n, c) : Sq Int) (SdB.of h hy) ?_
    ((conv => (arg 1; reduce)); with_reducible repeat' (first | exact Tr.yes_h | refine Tr.and_h ?_ ?_ | refine Tr.imp_h fun _ => ?_ | refine Tr.all_h fun _ => ?_ | refine Tr.lf_h ?_))
    all_goals (first | first | (show Region.lexB _ _ = true; kernel_rfl) | (show planned _ _ = true; kernel_rfl) | exact rfl | exact True.intro | (first | exact key3 | exact zeroB | exact zeroR | exact zeroS | exact ⟨key3, zeroB⟩ | exact ⟨key3, zeroR⟩ | exact ⟨key3, zeroS⟩) | ((try dsimp only [imp, C0, cG, cInt, cPl, cSlot, cPg, gwCodec] at *); (try refine inR64 ?_ ?_) <;> (try simp only [List.length_set, List.length_append, List.length_take, List.length_drop]) <;> omega))
noncomputable def fcSortedB : Fc Tryd.prog C0 where
  tg := .fn 35
  X := Nat × Nat × Nat × MpB × Nat
  args := fun (bx, qx, bm, M, clk) => [.fn (.func 58) [] [.ptr 0 0 0]]
  mem := fun (bx, qx, bm, M, clk) => mpB bx qx bm M clk
  pre := fun (bx, qx, bm, M, clk) => MKeys (d := C0 4) M clk (M.map fun e => e.1) ∧ M.length < 1000000000
  alts := fun (bx, qx, bm, M, clk) => [⟨Sq Int, fun y => SdB (M.map fun e => e.1) y, fun y => .sl 2 0 y.2.2.2.2.1 y.2.2.2.2.2, fun y => moB bx qx bm M clk y⟩]
  mat vs m := match vs with
    | [.fn (.func 58) _ [.ptr p _ _]] => match nth m p with
      | ⟨bx, qx, _, _, _, .one [.mp w]⟩ => match nth m w with
        | ⟨bm, _, _, _, _, .mp 3 4 M clk⟩ => some ((bx, qx, bm, M, clk), [p, w])
        | _ => none
      | _ => none
    | _ => none
  ok := fun (bx, qx, bm, M, clk) h => sortedB_ok bx qx bm M clk h.1 h.2
theorem keysB_ok (bm : Nat) (M : MpB) (clk : Nat) : Does (C := C0) Tryd.prog (.fn 40) [⟨bm, 0, 0, false, none, .mp 3 4 M clk⟩] [.mp 0]
      [⟨Nat × Nat, fun _ => True, fun _ => .fn (.func 58) [] [.ptr 1 0 0], fun y => [⟨bm, 0, 0, false, none, .mp 3 4 M clk⟩, ⟨y.1, y.2, 1, true, none, .one [.mp 0]⟩]⟩] := by
  refine loc_fn (P := Tryd.prog) (E := ⟨[], [], 4, [], [], []⟩) (L := []) mix Tryd.func40 rfl (by kernel_rfl) (by kernel_rfl) rfl rfl ?_
  ((conv => (arg 1; reduce)); with_reducible repeat' (first | exact Tr.yes_h | refine Tr.and_h ?_ ?_ | refine Tr.imp_h fun _ => ?_ | refine Tr.all_h fun _ => ?_ | refine Tr.lf_h ?_))
  all_goals try (first | first | (show Region.lexB _ _ = true; kernel_rfl) | (show planned _ _ = true; kernel_rfl) | exact rfl | exact True.intro | (first | exact key3 | exact zeroB | exact zeroR | exact zeroS | exact ⟨key3, zeroB⟩ | exact ⟨key3, zeroR⟩ | exact ⟨key3, zeroS⟩) | ((try dsimp only [imp, C0, cG, cInt, cPl, cSlot, cPg, gwCodec] at *); (try refine inR64 ?_ ?_) <;> (try simp only [List.length_set, List.length_append, List.length_take, List.length_drop]) <;> omega))
  rename_i b1
  refine Ends.one ((b1, 0) : Nat × Nat) trivial ?_
  ((conv => (arg 1; reduce)); with_reducible repeat' (first | exact Tr.yes_h | refine Tr.and_h ?_ ?_ | refine Tr.imp_h fun _ => ?_ | refine Tr.all_h fun _ => ?_ | refine Tr.lf_h ?_))
  all_goals (first | first | (show Region.lexB _ _ = true; kernel_rfl) | (show planned _ _ = true; kernel_rfl) | exact rfl | exact True.intro | (first | exact key3 | exact zeroB | exact zeroR | exact zeroS | exact ⟨key3, zeroB⟩ | exact ⟨key3, zeroR⟩ | exact ⟨key3, zeroS⟩) | ((try dsimp only [imp, C0, cG, cInt, cPl, cSlot, cPg, gwCodec] at *); (try refine inR64 ?_ ?_) <;> (try simp only [List.length_set, List.length_append, List.length_take, List.length_drop]) <;> omega))
noncomputable def fcKeysB : Fc Tryd.prog C0 where
  tg := .fn 40
  X := Nat × MpB × Nat
  args := fun (bm, M, clk) => [.mp 0]
  mem := fun (bm, M, clk) => [⟨bm, 0, 0, false, none, .mp 3 4 M clk⟩]
  pre _ := True
  alts := fun (bm, M, clk) => [⟨Nat × Nat, fun _ => True, fun _ => .fn (.func 58) [] [.ptr 1 0 0], fun y => [⟨bm, 0, 0, false, none, .mp 3 4 M clk⟩, ⟨y.1, y.2, 1, true, none, .one [.mp 0]⟩]⟩]
  mat vs m := match vs with
    | [.mp w] => match nth m w with
      | ⟨bm, _, _, _, _, .mp 3 4 M clk⟩ => some ((bm, M, clk), [w])
      | _ => none
    | _ => none
  ok := fun (bm, M, clk) _ => keysB_ok bm M clk

/-- The keys of a map, gathered, rising. -/
def SdG (S : List Int) (y : Sq Int) : Prop := ∃ A, Rise A ∧ (∀ k, k ∈ A ↔ k ∈ S) ∧ Gth A y
theorem SdG.of {M : MpG} {clk : Nat} {S : List Int} (h : MKeys (d := C0 33) M clk S) {o : Bool} {b q : Nat} {l : List Int} {n c : Nat} (hy : KsG M (o, b, q, l, n, c)) : SdG S (o, b, q, srt (l.take n) ++ l.drop n, n, c) := by
  obtain ⟨A, hp, hG⟩ := hy
  refine ⟨srt A, rise_srt (hp.nodup_iff.2 h.nd), fun k => ?_, hG.sorted⟩
  rw [(srt_perm A).mem_iff, hp.mem_iff]
  exact h.mem k
set_option maxHeartbeats 4000000 in
theorem sortedG_ok (bx qx bm : Nat) (M : MpG) (clk : Nat) (h : MKeys (d := C0 33) M clk (M.map fun e => e.1)) (hl : M.length < 1000000000) :
    Does (C := C0) Tryd.prog (.fn 35) (mpG bx qx bm M clk) [.fn (.func 59) [] [.ptr 0 0 0]]
      [⟨Sq Int, fun y => SdG (M.map fun e => e.1) y, fun y => .sl 2 0 y.2.2.2.2.1 y.2.2.2.2.2, fun y => moG bx qx bm M clk y⟩] := by
  refine loc_fn (P := Tryd.prog) (E := ⟨[fcCollG, fcSort], [], 9, [], [], []⟩) (L := []) mix Tryd.func35 rfl (by kernel_rfl) (by kernel_rfl) rfl rfl ?_
  ((conv => (arg 1; reduce)); with_reducible repeat' (first | exact Tr.yes_h | refine Tr.and_h ?_ ?_ | refine Tr.imp_h fun _ => ?_ | refine Tr.all_h fun _ => ?_ | refine Tr.lf_h ?_))
  all_goals try (first | first | (show Region.lexB _ _ = true; kernel_rfl) | (show planned _ _ = true; kernel_rfl) | exact rfl | exact True.intro | (first | exact key3 | exact zeroB | exact zeroR | exact zeroS | exact ⟨key3, zeroB⟩ | exact ⟨key3, zeroR⟩ | exact ⟨key3, zeroS⟩) | ((try dsimp only [imp, C0, cG, cInt, cPl, cSlot, cPg, gwCodec] at *); (try refine inR64 ?_ ?_) <;> (try simp only [List.length_set, List.length_append, List.length_take, List.length_drop]) <;> omega))
  · exact ⟨h.born, hl⟩
  · rename_i y hy
    obtain ⟨o, b, q, l, n, c⟩ := y
    obtain ⟨A, hp, e1, e2, e3, e4, e5⟩ := hy
    have e2 : A.length = n := e2
    have e3 : n ≤ c := e3
    have e4 : c ≤ l.length := e4
    have hA : A.length = M.length := by rw [hp.length_eq, List.length_map]
    exact ⟨by show n ≤ l.length; omega, by show n < 4611686018427387904; omega, e5⟩
  · rename_i y hy u hu
    obtain ⟨o, b, q, l, n, c⟩ := y
    refine Ends.one ((o, b, q, srt (l.take n) ++ l.drop n, n, c) : Sq Int) (SdG.of h hy) ?_
    ((conv => (arg 1; reduce)); with_reducible repeat' (first | exact Tr.yes_h | refine Tr.and_h ?_ ?_ | refine Tr.imp_h fun _ => ?_ | refine Tr.all_h fun _ => ?_ | refine Tr.lf_h ?_))
    all_goals (first | first | (show Region.lexB _ _ = true; kernel_rfl) | (show planned _ _ = true; kernel_rfl) | exact rfl | exact True.intro | (first | exact key3 | exact zeroB | exact zeroR | exact zeroS | exact ⟨key3, zeroB⟩ | exact ⟨key3, zeroR⟩ | exact ⟨key3, zeroS⟩) | ((try dsimp only [imp, C0, cG, cInt, cPl, cSlot, cPg, gwCodec] at *); (try refine inR64 ?_ ?_) <;> (try simp only [List.length_set, List.length_append, List.length_take, List.length_drop]) <;> omega))
noncomputable def fcSortedG : Fc Tryd.prog C0 where
  tg := .fn 35
  X := Nat × Nat × Nat × MpG × Nat
  args := fun (bx, qx, bm, M, clk) => [.fn (.func 59) [] [.ptr 0 0 0]]
  mem := fun (bx, qx, bm, M, clk) => mpG bx qx bm M clk
  pre := fun (bx, qx, bm, M, clk) => MKeys (d := C0 33) M clk (M.map fun e => e.1) ∧ M.length < 1000000000
  alts := fun (bx, qx, bm, M, clk) => [⟨Sq Int, fun y => SdG (M.map fun e => e.1) y, fun y => .sl 2 0 y.2.2.2.2.1 y.2.2.2.2.2, fun y => moG bx qx bm M clk y⟩]
  mat vs m := match vs with
    | [.fn (.func 59) _ [.ptr p _ _]] => match nth m p with
      | ⟨bx, qx, _, _, _, .one [.mp w]⟩ => match nth m w with
        | ⟨bm, _, _, _, _, .mp 3 33 M clk⟩ => some ((bx, qx, bm, M, clk), [p, w])
        | _ => none
      | _ => none
    | _ => none
  ok := fun (bx, qx, bm, M, clk) h => sortedG_ok bx qx bm M clk h.1 h.2
theorem keysG_ok (bm : Nat) (M : MpG) (clk : Nat) : Does (C := C0) Tryd.prog (.fn 44) [⟨bm, 0, 0, false, none, .mp 3 33 M clk⟩] [.mp 0]
      [⟨Nat × Nat, fun _ => True, fun _ => .fn (.func 59) [] [.ptr 1 0 0], fun y => [⟨bm, 0, 0, false, none, .mp 3 33 M clk⟩, ⟨y.1, y.2, 1, true, none, .one [.mp 0]⟩]⟩] := by
  refine loc_fn (P := Tryd.prog) (E := ⟨[], [], 4, [], [], []⟩) (L := []) mix Tryd.func44 rfl (by kernel_rfl) (by kernel_rfl) rfl rfl ?_
  ((conv => (arg 1; reduce)); with_reducible repeat' (first | exact Tr.yes_h | refine Tr.and_h ?_ ?_ | refine Tr.imp_h fun _ => ?_ | refine Tr.all_h fun _ => ?_ | refine Tr.lf_h ?_))
  all_goals try (first | first | (show Region.lexB _ _ = true; kernel_rfl) | (show planned _ _ = true; kernel_rfl) | exact rfl | exact True.intro | (first | exact key3 | exact zeroB | exact zeroR | exact zeroS | exact ⟨key3, zeroB⟩ | exact ⟨key3, zeroR⟩ | exact ⟨key3, zeroS⟩) | ((try dsimp only [imp, C0, cG, cInt, cPl, cSlot, cPg, gwCodec] at *); (try refine inR64 ?_ ?_) <;> (try simp only [List.length_set, List.length_append, List.length_take, List.length_drop]) <;> omega))
  rename_i b1
  refine Ends.one ((b1, 0) : Nat × Nat) trivial ?_
  ((conv => (arg 1; reduce)); with_reducible repeat' (first | exact Tr.yes_h | refine Tr.and_h ?_ ?_ | refine Tr.imp_h fun _ => ?_ | refine Tr.all_h fun _ => ?_ | refine Tr.lf_h ?_))
  all_goals (first | first | (show Region.lexB _ _ = true; kernel_rfl) | (show planned _ _ = true; kernel_rfl) | exact rfl | exact True.intro | (first | exact key3 | exact zeroB | exact zeroR | exact zeroS | exact ⟨key3, zeroB⟩ | exact ⟨key3, zeroR⟩ | exact ⟨key3, zeroS⟩) | ((try dsimp only [imp, C0, cG, cInt, cPl, cSlot, cPg, gwCodec] at *); (try refine inR64 ?_ ?_) <;> (try simp only [List.length_set, List.length_append, List.length_take, List.length_drop]) <;> omega))
noncomputable def fcKeysG : Fc Tryd.prog C0 where
  tg := .fn 44
  X := Nat × MpG × Nat
  args := fun (bm, M, clk) => [.mp 0]
  mem := fun (bm, M, clk) => [⟨bm, 0, 0, false, none, .mp 3 33 M clk⟩]
  pre _ := True
  alts := fun (bm, M, clk) => [⟨Nat × Nat, fun _ => True, fun _ => .fn (.func 59) [] [.ptr 1 0 0], fun y => [⟨bm, 0, 0, false, none, .mp 3 33 M clk⟩, ⟨y.1, y.2, 1, true, none, .one [.mp 0]⟩]⟩]
  mat vs m := match vs with
    | [.mp w] => match nth m w with
      | ⟨bm, _, _, _, _, .mp 3 33 M clk⟩ => some ((bm, M, clk), [w])
      | _ => none
    | _ => none
  ok := fun (bm, M, clk) _ => keysG_ok bm M clk

/-- The keys of a map, gathered, rising. -/
def SdS (S : List Int) (y : Sq Int) : Prop := ∃ A, Rise A ∧ (∀ k, k ∈ A ↔ k ∈ S) ∧ Gth A y
theorem SdS.of {M : MpS} {clk : Nat} {S : List Int} (h : MKeys (d := C0 40) M clk S) {o : Bool} {b q : Nat} {l : List Int} {n c : Nat} (hy : KsS M (o, b, q, l, n, c)) : SdS S (o, b, q, srt (l.take n) ++ l.drop n, n, c) := by
  obtain ⟨A, hp, hG⟩ := hy
  refine ⟨srt A, rise_srt (hp.nodup_iff.2 h.nd), fun k => ?_, hG.sorted⟩
  rw [(srt_perm A).mem_iff, hp.mem_iff]
  exact h.mem k
set_option maxHeartbeats 4000000 in
theorem sortedS_ok (bx qx bm : Nat) (M : MpS) (clk : Nat) (h : MKeys (d := C0 40) M clk (M.map fun e => e.1)) (hl : M.length < 1000000000) :
    Does (C := C0) Tryd.prog (.fn 35) (mpS bx qx bm M clk) [.fn (.func 57) [] [.ptr 0 0 0]]
      [⟨Sq Int, fun y => SdS (M.map fun e => e.1) y, fun y => .sl 2 0 y.2.2.2.2.1 y.2.2.2.2.2, fun y => moS bx qx bm M clk y⟩] := by
  refine loc_fn (P := Tryd.prog) (E := ⟨[fcCollS, fcSort], [], 9, [], [], []⟩) (L := []) mix Tryd.func35 rfl (by kernel_rfl) (by kernel_rfl) rfl rfl ?_
  ((conv => (arg 1; reduce)); with_reducible repeat' (first | exact Tr.yes_h | refine Tr.and_h ?_ ?_ | refine Tr.imp_h fun _ => ?_ | refine Tr.all_h fun _ => ?_ | refine Tr.lf_h ?_))
  all_goals try (first | first | (show Region.lexB _ _ = true; kernel_rfl) | (show planned _ _ = true; kernel_rfl) | exact rfl | exact True.intro | (first | exact key3 | exact zeroB | exact zeroR | exact zeroS | exact ⟨key3, zeroB⟩ | exact ⟨key3, zeroR⟩ | exact ⟨key3, zeroS⟩) | ((try dsimp only [imp, C0, cG, cInt, cPl, cSlot, cPg, gwCodec] at *); (try refine inR64 ?_ ?_) <;> (try simp only [List.length_set, List.length_append, List.length_take, List.length_drop]) <;> omega))
  · exact ⟨h.born, hl⟩
  · rename_i y hy
    obtain ⟨o, b, q, l, n, c⟩ := y
    obtain ⟨A, hp, e1, e2, e3, e4, e5⟩ := hy
    have e2 : A.length = n := e2
    have e3 : n ≤ c := e3
    have e4 : c ≤ l.length := e4
    have hA : A.length = M.length := by rw [hp.length_eq, List.length_map]
    exact ⟨by show n ≤ l.length; omega, by show n < 4611686018427387904; omega, e5⟩
  · rename_i y hy u hu
    obtain ⟨o, b, q, l, n, c⟩ := y
    refine Ends.one ((o, b, q, srt (l.take n) ++ l.drop n, n, c) : Sq Int) (SdS.of h hy) ?_
    ((conv => (arg 1; reduce)); with_reducible repeat' (first | exact Tr.yes_h | refine Tr.and_h ?_ ?_ | refine Tr.imp_h fun _ => ?_ | refine Tr.all_h fun _ => ?_ | refine Tr.lf_h ?_))
    all_goals (first | first | (show Region.lexB _ _ = true; kernel_rfl) | (show planned _ _ = true; kernel_rfl) | exact rfl | exact True.intro | (first | exact key3 | exact zeroB | exact zeroR | exact zeroS | exact ⟨key3, zeroB⟩ | exact ⟨key3, zeroR⟩ | exact ⟨key3, zeroS⟩) | ((try dsimp only [imp, C0, cG, cInt, cPl, cSlot, cPg, gwCodec] at *); (try refine inR64 ?_ ?_) <;> (try simp only [List.length_set, List.length_append, List.length_take, List.length_drop]) <;> omega))
noncomputable def fcSortedS : Fc Tryd.prog C0 where
  tg := .fn 35
  X := Nat × Nat × Nat × MpS × Nat
  args := fun (bx, qx, bm, M, clk) => [.fn (.func 57) [] [.ptr 0 0 0]]
  mem := fun (bx, qx, bm, M, clk) => mpS bx qx bm M clk
  pre := fun (bx, qx, bm, M, clk) => MKeys (d := C0 40) M clk (M.map fun e => e.1) ∧ M.length < 1000000000
  alts := fun (bx, qx, bm, M, clk) => [⟨Sq Int, fun y => SdS (M.map fun e => e.1) y, fun y => .sl 2 0 y.2.2.2.2.1 y.2.2.2.2.2, fun y => moS bx qx bm M clk y⟩]
  mat vs m := match vs with
    | [.fn (.func 57) _ [.ptr p _ _]] => match nth m p with
      | ⟨bx, qx, _, _, _, .one [.mp w]⟩ => match nth m w with
        | ⟨bm, _, _, _, _, .mp 3 40 M clk⟩ => some ((bx, qx, bm, M, clk), [p, w])
        | _ => none
      | _ => none
    | _ => none
  ok := fun (bx, qx, bm, M, clk) h => sortedS_ok bx qx bm M clk h.1 h.2
theorem keysS_ok (bm : Nat) (M : MpS) (clk : Nat) : Does (C := C0) Tryd.prog (.fn 36) [⟨bm, 0, 0, false, none, .mp 3 40 M clk⟩] [.mp 0]
      [⟨Nat × Nat, fun _ => True, fun _ => .fn (.func 57) [] [.ptr 1 0 0], fun y => [⟨bm, 0, 0, false, none, .mp 3 40 M clk⟩, ⟨y.1, y.2, 1, true, none, .one [.mp 0]⟩]⟩] := by
  refine loc_fn (P := Tryd.prog) (E := ⟨[], [], 4, [], [], []⟩) (L := []) mix Tryd.func36 rfl (by kernel_rfl) (by kernel_rfl) rfl rfl ?_
  ((conv => (arg 1; reduce)); with_reducible repeat' (first | exact Tr.yes_h | refine Tr.and_h ?_ ?_ | refine Tr.imp_h fun _ => ?_ | refine Tr.all_h fun _ => ?_ | refine Tr.lf_h ?_))
  all_goals try (first | first | (show Region.lexB _ _ = true; kernel_rfl) | (show planned _ _ = true; kernel_rfl) | exact rfl | exact True.intro | (first | exact key3 | exact zeroB | exact zeroR | exact zeroS | exact ⟨key3, zeroB⟩ | exact ⟨key3, zeroR⟩ | exact ⟨key3, zeroS⟩) | ((try dsimp only [imp, C0, cG, cInt, cPl, cSlot, cPg, gwCodec] at *); (try refine inR64 ?_ ?_) <;> (try simp only [List.length_set, List.length_append, List.length_take, List.length_drop]) <;> omega))
  rename_i b1
  refine Ends.one ((b1, 0) : Nat × Nat) trivial ?_
  ((conv => (arg 1; reduce)); with_reducible repeat' (first | exact Tr.yes_h | refine Tr.and_h ?_ ?_ | refine Tr.imp_h fun _ => ?_ | refine Tr.all_h fun _ => ?_ | refine Tr.lf_h ?_))
  all_goals (first | first | (show Region.lexB _ _ = true; kernel_rfl) | (show planned _ _ = true; kernel_rfl) | exact rfl | exact True.intro | (first | exact key3 | exact zeroB | exact zeroR | exact zeroS | exact ⟨key3, zeroB⟩ | exact ⟨key3, zeroR⟩ | exact ⟨key3, zeroS⟩) | ((try dsimp only [imp, C0, cG, cInt, cPl, cSlot, cPg, gwCodec] at *); (try refine inR64 ?_ ?_) <;> (try simp only [List.length_set, List.length_append, List.length_take, List.length_drop]) <;> omega))
noncomputable def fcKeysS : Fc Tryd.prog C0 where
  tg := .fn 36
  X := Nat × MpS × Nat
  args := fun (bm, M, clk) => [.mp 0]
  mem := fun (bm, M, clk) => [⟨bm, 0, 0, false, none, .mp 3 40 M clk⟩]
  pre _ := True
  alts := fun (bm, M, clk) => [⟨Nat × Nat, fun _ => True, fun _ => .fn (.func 57) [] [.ptr 1 0 0], fun y => [⟨bm, 0, 0, false, none, .mp 3 40 M clk⟩, ⟨y.1, y.2, 1, true, none, .one [.mp 0]⟩]⟩]
  mat vs m := match vs with
    | [.mp w] => match nth m w with
      | ⟨bm, _, _, _, _, .mp 3 40 M clk⟩ => some ((bm, M, clk), [w])
      | _ => none
    | _ => none
  ok := fun (bm, M, clk) _ => keysS_ok bm M clk
end Go.Vx
set_option maxRecDepth 100000
namespace Go.Vx
open Go Go.Proofs
variable [Gl]

/-- A block's pages. -/
abbrev rw (Q : List (List Pg)) (i : Nat) : List Pg := Q.getD i []
/-- The pages of the first i blocks of that kind. -/
def pgsTo (f : Nat → List Pg → Bool) (Q : List (List Pg)) : Nat → List Pg
  | 0 => []
  | i + 1 => pgsTo f Q i ++ (if f i (rw Q i) then rw Q i else [])
/-- .. and the first j of block i. -/
def pgsAt (f : Nat → List Pg → Bool) (Q : List (List Pg)) (i j : Nat) : List Pg := pgsTo f Q i ++ (if f i (rw Q i) then (rw Q i).take j else [])
section
variable {f : Nat → List Pg → Bool} {Q : List (List Pg)} {i j : Nat}
theorem pgsAt_zero : pgsAt f Q i 0 = pgsTo f Q i := by
  unfold pgsAt
  split <;> simp
theorem pgsAt_all (h : (rw Q i).length ≤ j) : pgsAt f Q i j = pgsTo f Q (i + 1) := by
  unfold pgsAt
  rw [List.take_of_length_le h]; rfl
theorem pgsAt_yes (h : j < (rw Q i).length) (hf : f i (rw Q i) = true) : pgsAt f Q i (j + 1) = pgsAt f Q i j ++ [(rw Q i).getD j pg0] := by
  unfold pgsAt
  rw [if_pos hf, if_pos hf, take_snoc (d := pg0) h, List.append_assoc]
theorem pgsAt_off (hf : f i (rw Q i) = false) : pgsAt f Q i (j + 1) = pgsAt f Q i j := by
  unfold pgsAt
  rw [if_neg (by rw [hf]; exact Bool.false_ne_true), if_neg (by rw [hf]; exact Bool.false_ne_true)]
theorem mem_pgsTo {p : Pg} : ∀ {n : Nat}, p ∈ pgsTo f Q n ↔ ∃ i, i < n ∧ f i (rw Q i) = true ∧ p ∈ rw Q i
  | 0 => by simp [pgsTo]
  | n + 1 => by
    rw [pgsTo, List.mem_append, mem_pgsTo (n := n)]
    constructor
    · rintro (⟨i, h1, h2⟩ | h)
      · exact ⟨i, by omega, h2⟩
      · split at h
        · rename_i hf; exact ⟨n, by omega, hf, h⟩
        · cases h
    · rintro ⟨i, h1, h2, h3⟩
      by_cases hi : i = n
      · subst hi; exact .inr (by rw [if_pos h2]; exact h3)
      · exact .inl ⟨i, by omega, h2, h3⟩
end
/-- A number gathered over the whole pages. -/
@[irreducible] def fTo (h : Int → Pg → Int) (f : Nat → List Pg → Bool) (Q : List (List Pg)) (i : Nat) : Int := ((pgsTo f Q i).filter fun p => decide (p.cl = 1)).foldl h 0
@[irreducible] def fAt (h : Int → Pg → Int) (f : Nat → List Pg → Bool) (Q : List (List Pg)) (i j : Nat) : Int := ((pgsAt f Q i j).filter fun p => decide (p.cl = 1)).foldl h 0
section
variable {h : Int → Pg → Int} {f : Nat → List Pg → Bool} {Q : List (List Pg)} {i j : Nat}
theorem fTo_zero : fTo h f Q 0 = 0 := by unfold fTo; rfl
theorem fAt_zero : fAt h f Q i 0 = fTo h f Q i := by unfold fAt fTo; rw [pgsAt_zero]
theorem fAt_all (hj : (rw Q i).length ≤ j) : fAt h f Q i j = fTo h f Q (i + 1) := by unfold fAt fTo; rw [pgsAt_all hj]
theorem fAt_yes (hj : j < (rw Q i).length) (hf : f i (rw Q i) = true) (hc : ((rw Q i).getD j pg0).cl = 1) : fAt h f Q i (j + 1) = h (fAt h f Q i j) ((rw Q i).getD j pg0) := by
  unfold fAt
  rw [pgsAt_yes hj hf, List.filter_append, List.filter_cons_of_pos (by simpa using hc), List.filter_nil, List.foldl_append]; rfl
theorem fAt_torn (hj : j < (rw Q i).length) (hc : ¬ ((rw Q i).getD j pg0).cl = 1) : fAt h f Q i (j + 1) = fAt h f Q i j := by
  unfold fAt
  cases hf : f i (rw Q i) with
  | true => rw [pgsAt_yes hj hf, List.filter_append, List.filter_cons_of_neg (by simpa using hc), List.filter_nil, List.append_nil]
  | false => rw [pgsAt_off hf]
theorem fAt_off (hf : f i (rw Q i) = false) : fAt h f Q i (j + 1) = fAt h f Q i j := by
  unfold fAt
  rw [pgsAt_off hf]
end
/-- A page that says that a block is bad. -/
def isBad (n : Nat) (p : Pg) : Bool := decide (p.cl = 1) && decide (p.me.kind = 5) && decide (p.me.batch = 0) && decide (0 ≤ p.me.key) && decide (p.me.key < (n : Int))
abbrev hdF : Nat → List Pg → Bool := fun i r => isHd (i : Int) r
abbrev allF : Nat → List Pg → Bool := fun _ _ => true
/-- The blocks that are said to be bad. -/
@[irreducible] def badTo (n : Nat) (Q : List (List Pg)) (i : Nat) : List Int := ((pgsTo hdF Q i).filter (isBad n)).map fun p => p.me.key
@[irreducible] def badAt (n : Nat) (Q : List (List Pg)) (i j : Nat) : List Int := ((pgsAt hdF Q i j).filter (isBad n)).map fun p => p.me.key
section
variable {n : Nat} {Q : List (List Pg)} {i j : Nat}
theorem badTo_zero : badTo n Q 0 = [] := by unfold badTo; rfl
theorem badAt_zero : badAt n Q i 0 = badTo n Q i := by unfold badAt badTo; rw [pgsAt_zero]
theorem badAt_all (hj : (rw Q i).length ≤ j) : badAt n Q i j = badTo n Q (i + 1) := by unfold badAt badTo; rw [pgsAt_all hj]
theorem badAt_yes (hj : j < (rw Q i).length) (hf : isHd i (rw Q i) = true) (hc : isBad n ((rw Q i).getD j pg0) = true) : badAt n Q i (j + 1) = badAt n Q i j ++ [((rw Q i).getD j pg0).me.key] := by
  unfold badAt
  rw [pgsAt_yes hj hf, List.filter_append, List.filter_cons_of_pos hc, List.filter_nil, List.map_append]; rfl
theorem badAt_no (hj : j < (rw Q i).length) (hc : (isHd i (rw Q i) && isBad n ((rw Q i).getD j pg0)) = false) : badAt n Q i (j + 1) = badAt n Q i j := by
  unfold badAt
  cases hf : isHd (i : Int) (rw Q i) with
  | true =>
    rw [hf, Bool.true_and] at hc
    rw [pgsAt_yes hj hf, List.filter_append, List.filter_cons_of_neg (by rw [hc]; exact Bool.false_ne_true), List.filter_nil, List.append_nil]
  | false => rw [pgsAt_off hf]
theorem mem_badTo {k : Int} (h : k ∈ badTo n Q i) : 0 ≤ k ∧ k < (n : Int) := by
  unfold badTo at h
  obtain ⟨p, hp, rfl⟩ := List.mem_map.1 h
  have := (List.mem_filter.1 hp).2
  unfold isBad at this
  simp only [Bool.and_eq_true, decide_eq_true_eq] at this
  exact ⟨this.1.2, this.2⟩
end
/-- The bad blocks, rising. -/
@[irreducible] def badL (n : Nat) (Q : List (List Pg)) : List Int := (upTo n).filter fun k => decide (k ∈ badTo n Q n)
theorem mem_badL {n : Nat} {Q : List (List Pg)} {k : Int} : k ∈ badL n Q ↔ k ∈ badTo n Q n := by
  unfold badL
  rw [List.mem_filter, mem_upTo, decide_eq_true_eq]
  exact ⟨fun h => h.2, fun h => ⟨mem_badTo h, h⟩⟩
theorem rise_badL (n : Nat) (Q : List (List Pg)) : Rise (badL n Q) := by unfold badL; exact (rise_upTo n).filter _
/-- A block counts. -/
abbrev cntF (n : Nat) (Q : List (List Pg)) : Nat → List Pg → Bool := fun i r => isHd (i : Int) r && !decide ((i : Int) ∈ badTo n Q n)
abbrev mxH (g : Me → Int) : Int → Pg → Int := fun a p => max a (g p.me)
abbrev flH : Int → Pg → Int := fun a p => if p.me.kind = 4 then max (max a p.me.floor) p.me.key else max a p.me.floor
end Go.Vx
set_option maxRecDepth 100000
namespace Go.Vx
open Go Go.Proofs
variable [Gl]

theorem rwR (R : List (Rw Pg)) (i : Nat) : rw (R.map fun r => r.l) i = (R.getD i Rw.nil).l := by
  unfold rw
  rw [List.getD_eq_getElem?_getD, List.getD_eq_getElem?_getD, List.getElem?_map]
  cases R[i]? <;> rfl
theorem nd_len : ∀ (A B : List Int), A.Nodup → (∀ x ∈ A, x ∈ B) → A.length ≤ B.length := by
  intro A
  induction A with
  | nil => intro B _ _; exact Nat.zero_le _
  | cons a r ih =>
    intro B hn hs
    rw [List.nodup_cons] at hn
    have hb := hs a (by simp)
    have := ih (B.erase a) hn.2 fun x hx => (List.mem_erase_of_ne (fun e => hn.1 (by rw [← e]; exact hx))).2 (hs x (by simp [hx]))
    rw [List.length_erase_of_mem hb] at this
    have := List.length_pos_of_mem hb
    simp only [List.length_cons]; omega
theorem and_six (h a b c d e : Bool) : (h && (a && b && c && d && e)) = (a && b && c && h && d && e) := by
  cases a <;> cases b <;> cases c <;> cases h <;> cases d <;> cases e <;> rfl
theorem not_t {b : Bool} (h : (!b) = true) : b = false := by cases b; rfl; cases h
theorem not_f {b : Bool} (h : (!b) = false) : b = true := by cases b; cases h; rfl
theorem upTo_len (n : Nat) : (upTo n).length = n := by unfold upTo; simp
section
variable {d : Codec}
theorem MKeys.self {M : List (Ent' (C0 3) d)} {clk : Nat} {S : List Int} (h : MKeys M clk S) : MKeys M clk (M.map fun e => (e.1 : Int)) := ⟨h.born, h.nd, fun _ => Iff.rfl⟩
theorem MKeys.few {M : List (Ent' (C0 3) d)} {clk : Nat} {S : List Int} (h : MKeys M clk S) {n : Nat} (hS : ∀ k ∈ S, 0 ≤ k ∧ k < (n : Int)) : M.length ≤ n := by
  have := nd_len _ (upTo n) h.nd fun k hk => mem_upTo.2 (hS k ((h.mem k).1 hk))
  rwa [List.length_map, upTo_len] at this
end
/-- The keys of the map of the bad ones, rising. -/
theorem sd_bad {M : MpB} {clk n : Nat} {Q : List (List Pg)} (h : MSet M clk (badTo n Q n)) {y : Sq Int} (hy : SdB (M.map fun e => e.1) y) : Gth (badL n Q) y := by
  obtain ⟨A, h1, h2, h3⟩ := hy
  have : A = badL n Q := rise_one h1 (rise_badL n Q) fun k => (h2 k).trans ((h.keys.mem k).trans mem_badL.symm)
  rw [← this]; exact h3
omit [Gl] in
theorem Tr.via {t : Tr} (t' : Tr) (h : t' = t) (g : t'.holds) : t.holds := h ▸ g
end Go.Vx
namespace Go.Vx
open Go
def getOps : Code → Nat → Option (Array Oper)
  | .region id ops _, n => match Nat.beq id n with
    | true => some ops
    | false => none
  | .seq a b, n => match getOps a n with
    | some o => some o
    | none => getOps b n
  | .cond _ a b, n => match getOps a n with
    | some o => some o
    | none => getOps b n
  | .block _ c, n => getOps c n
  | .loop c, n => getOps c n
  | _, _ => none
def opsOf (fn : Func) (n : Nat) : Option (Array Oper) := match fn.body with
  | some c => getOps c n
  | none => none
def stepOK (ops : Array Oper) (W : List Nat) : Tk → Array Bool → Bool
  | .p i, listed => (Region.ready .any ops listed).contains i && Region.free .any ops listed i && !kW W i && reachP ops [] false i listed (Array.replicate ops.size true)
  | .e i, listed => (match Region.ready .any ops listed with
      | [j] => Nat.beq j i
      | _ => false) && kW W i
  | _, _ => false
def tkI : Tk → Nat
  | .p i => i
  | .q i => i
  | .e i => i
  | .f i => i
  | .t _ => 0
def stepsOK (ops : Array Oper) (W : List Nat) : List Tk → Array Bool → Bool
  | [], _ => true
  | t :: r, listed => stepOK ops W t listed && stepsOK ops W r (listed.setIfInBounds (tkI t) true)
def listedBy : List Tk → Array Bool → Array Bool
  | [], l => l
  | t :: r, l => listedBy r (l.setIfInBounds (tkI t) true)
theorem plan_cut {ops : Array Oper} {W : List Nat} : ∀ (a b : List Tk) (listed : Array Bool), stepsOK ops W a listed = true → planOK ops W [] false (PTree.of b) (listedBy a listed) = true → planOK ops W [] false (PTree.of (a ++ b)) listed = true
  | [], b, listed, _, h => h
  | t :: r, b, listed, hs, h => by
    simp only [stepsOK, Bool.and_eq_true] at hs
    have ih := plan_cut r b _ hs.2 h
    cases t with
    | p i =>
      simp only [stepOK, Bool.and_eq_true] at hs
      simp only [List.cons_append, PTree.of, planOK, Bool.and_eq_true]
      exact ⟨⟨⟨⟨hs.1.1.1.1, hs.1.1.1.2⟩, hs.1.1.2⟩, hs.1.2⟩, ih⟩
    | e i =>
      simp only [stepOK, Bool.and_eq_true] at hs
      simp only [List.cons_append, PTree.of, planOK, Bool.and_eq_true]
      exact ⟨⟨hs.1.1, hs.1.2⟩, ih⟩
    | q i => simp [stepOK] at hs
    | f i => simp [stepOK] at hs
    | t i => simp [stepOK] at hs
/-- The same with operations that read (q), and one that turns what stayed (f). -/
def stepOKL (ops : Array Oper) (W L : List Nat) (late : Bool) : Tk → Array Bool → Bool
  | .p i, listed => (Region.ready .any ops listed).contains i && Region.free .any ops listed i && !kW W i &&
      reachP ops L late i listed (if late || L.isEmpty then Array.replicate ops.size true else reach ops i ops.size listed)
  | .q i, listed => (Region.ready .any ops listed).contains i && Region.free .any ops listed i && !kW W i && reachOK ops W i listed (reach ops i ops.size listed)
  | .e i, listed => (match Region.ready .any ops listed with
      | [j] => Nat.beq j i
      | _ => false) && kW W i
  | .f i, listed => (match Region.ready .any ops listed with
      | [j] => Nat.beq j i
      | _ => false) && kW W i && L.contains i
  | .t _, _ => false
def lateBy : Bool → List Tk → Bool
  | late, [] => late
  | _, .f _ :: r => lateBy true r
  | late, .p _ :: r => lateBy late r
  | late, .q _ :: r => lateBy late r
  | late, .e _ :: r => lateBy late r
  | late, .t _ :: r => lateBy late r
def stepsOKL (ops : Array Oper) (W L : List Nat) : Bool → List Tk → Array Bool → Bool
  | _, [], _ => true
  | late, t :: r, listed => stepOKL ops W L late t listed && stepsOKL ops W L (lateBy late [t]) r (listed.setIfInBounds (tkI t) true)
theorem plan_cutL {ops : Array Oper} {W L : List Nat} : ∀ (a b : List Tk) (late : Bool) (listed : Array Bool), stepsOKL ops W L late a listed = true → planOK ops W L (lateBy late a) (PTree.of b) (listedBy a listed) = true → planOK ops W L late (PTree.of (a ++ b)) listed = true
  | [], b, late, listed, _, h => h
  | t :: r, b, late, listed, hs, h => by
    simp only [stepsOKL, Bool.and_eq_true] at hs
    cases t with
    | p i =>
      have ih := plan_cutL r b _ _ hs.2 h
      have h1 := hs.1
      simp only [stepOKL, Bool.and_eq_true] at h1
      simp only [List.cons_append, PTree.of, planOK, Bool.and_eq_true]
      exact ⟨⟨⟨⟨h1.1.1.1, h1.1.1.2⟩, h1.1.2⟩, h1.2⟩, ih⟩
    | q i =>
      have ih := plan_cutL r b _ _ hs.2 h
      have h1 := hs.1
      simp only [stepOKL, Bool.and_eq_true] at h1
      simp only [List.cons_append, PTree.of, planOK, Bool.and_eq_true]
      exact ⟨⟨⟨⟨h1.1.1.1, h1.1.1.2⟩, h1.1.2⟩, h1.2⟩, ih⟩
    | e i =>
      have ih := plan_cutL r b _ _ hs.2 h
      have h1 := hs.1
      simp only [stepOKL, Bool.and_eq_true] at h1
      simp only [List.cons_append, PTree.of, planOK, Bool.and_eq_true]
      exact ⟨⟨h1.1, h1.2⟩, ih⟩
    | f i =>
      have ih := plan_cutL r b _ _ hs.2 h
      have h1 := hs.1
      simp only [stepOKL, Bool.and_eq_true] at h1
      simp only [List.cons_append, PTree.of, planOK, Bool.and_eq_true]
      exact ⟨⟨⟨h1.1.1, h1.1.2⟩, h1.2⟩, ih⟩
    | t i => simp [stepOKL] at hs
end Go.Vx
set_option maxRecDepth 1000000
namespace Go.Vx
open Go Go.Proofs

abbrev numB : List Tk := [.p 0, .p 1, .p 2, .p 3, .p 4, .p 5, .p 6, .q 7, .p 8, .p 9, .p 10, .p 11, .p 12, .p 13, .p 14, .q 15, .p 16, .p 17, .p 18, .p 19, .p 20, .p 21, .p 22, .q 23, .p 24, .p 25, .p 26, .p 27, .p 28, .p 29, .e 30, .p 31, .p 32, .p 33, .e 34, .p 35, .p 36, .p 37, .e 38]
noncomputable def numB_ops : Array Oper := match opsOf Tryd.f27 20 with
  | some o => o
  | none => #[]
def numB_w : List Nat := [30, 34, 38]
def numB_f : List Nat := []
def numB_l0 : Array Bool := #[false, false, false, false, false, false, false, false, false, false, false, false, false, false, false, false, false, false, false, false, false, false, false, false, false, false, false, false, false, false, false, false, false, false, false, false, false, false, false]
theorem numB_s0 : stepsOKL numB_ops numB_w numB_f false [.p 0, .p 1, .p 2, .p 3] numB_l0 = true := by kernel_rfl
def numB_l1 : Array Bool := #[true, true, true, true, false, false, false, false, false, false, false, false, false, false, false, false, false, false, false, false, false, false, false, false, false, false, false, false, false, false, false, false, false, false, false, false, false, false, false]
theorem numB_a0 : listedBy [.p 0, .p 1, .p 2, .p 3] numB_l0 = numB_l1 := by kernel_rfl
theorem numB_s1 : stepsOKL numB_ops numB_w numB_f false [.p 4, .p 5, .p 6, .q 7] numB_l1 = true := by kernel_rfl
def numB_l2 : Array Bool := #[true, true, true, true, true, true, true, true, false, false, false, false, false, false, false, false, false, false, false, false, false, false, false, false, false, false, false, false, false, false, false, false, false, false, false, false, false, false, false]
theorem numB_a1 : listedBy [.p 4, .p 5, .p 6, .q 7] numB_l1 = numB_l2 := by kernel_rfl
theorem numB_s2 : stepsOKL numB_ops numB_w numB_f false [.p 8, .p 9, .p 10, .p 11] numB_l2 = true := by kernel_rfl
def numB_l3 : Array Bool := #[true, true, true, true, true, true, true, true, true, true, true, true, false, false, false, false, false, false, false, false, false, false, false, false, false, false, false, false, false, false, false, false, false, false, false, false, false, false, false]
theorem numB_a2 : listedBy [.p 8, .p 9, .p 10, .p 11] numB_l2 = numB_l3 := by kernel_rfl
theorem numB_s3 : stepsOKL numB_ops numB_w numB_f false [.p 12, .p 13, .p 14, .q 15] numB_l3 = true := by kernel_rfl
def numB_l4 : Array Bool := #[true, true, true, true, true, true, true, true, true, true, true, true, true, true, true, true, false, false, false, false, false, false, false, false, false, false, false, false, false, false, false, false, false, false, false, false, false, false, false]
theorem numB_a3 : listedBy [.p 12, .p 13, .p 14, .q 15] numB_l3 = numB_l4 := by kernel_rfl
theorem numB_s4 : stepsOKL numB_ops numB_w numB_f false [.p 16, .p 17, .p 18, .p 19] numB_l4 = true := by kernel_rfl
def numB_l5 : Array Bool := #[true, true, true, true, true, true, true, true, true, true, true, true, true, true, true, true, true, true, true, true, false, false, false, false, false, false, false, false, false, false, false, false, false, false, false, false, false, false, false]
theorem numB_a4 : listedBy [.p 16, .p 17, .p 18, .p 19] numB_l4 = numB_l5 := by kernel_rfl
theorem numB_s5 : stepsOKL numB_ops numB_w numB_f false [.p 20, .p 21, .p 22, .q 23] numB_l5 = true := by kernel_rfl
def numB_l6 : Array Bool := #[true, true, true, true, true, true, true, true, true, true, true, true, true, true, true, true, true, true, true, true, true, true, true, true, false, false, false, false, false, false, false, false, false, false, false, false, false, false, false]
theorem numB_a5 : listedBy [.p 20, .p 21, .p 22, .q 23] numB_l5 = numB_l6 := by kernel_rfl
theorem numB_s6 : stepsOKL numB_ops numB_w numB_f false [.p 24, .p 25, .p 26, .p 27] numB_l6 = true := by kernel_rfl
def numB_l7 : Array Bool := #[true, true, true, true, true, true, true, true, true, true, true, true, true, true, true, true, true, true, true, true, true, true, true, true, true, true, true, true, false, false, false, false, false, false, false, false, false, false, false]
theorem numB_a6 : listedBy [.p 24, .p 25, .p 26, .p 27] numB_l6 = numB_l7 := by kernel_rfl
theorem numB_s7 : stepsOKL numB_ops numB_w numB_f false [.p 28, .p 29, .e 30, .p 31] numB_l7 = true := by kernel_rfl
def numB_l8 : Array Bool := #[true, true, true, true, true, true, true, true, true, true, true, true, true, true, true, true, true, true, true, true, true, true, true, true, true, true, true, true, true, true, true, true, false, false, false, false, false, false, false]
theorem numB_a7 : listedBy [.p 28, .p 29, .e 30, .p 31] numB_l7 = numB_l8 := by kernel_rfl
theorem numB_s8 : stepsOKL numB_ops numB_w numB_f false [.p 32, .p 33, .e 34, .p 35] numB_l8 = true := by kernel_rfl
def numB_l9 : Array Bool := #[true, true, true, true, true, true, true, true, true, true, true, true, true, true, true, true, true, true, true, true, true, true, true, true, true, true, true, true, true, true, true, true, true, true, true, true, false, false, false]
theorem numB_a8 : listedBy [.p 32, .p 33, .e 34, .p 35] numB_l8 = numB_l9 := by kernel_rfl
theorem numB_s9 : stepsOKL numB_ops numB_w numB_f false [.p 36, .p 37, .e 38] numB_l9 = true := by kernel_rfl
def numB_l10 : Array Bool := #[true, true, true, true, true, true, true, true, true, true, true, true, true, true, true, true, true, true, true, true, true, true, true, true, true, true, true, true, true, true, true, true, true, true, true, true, true, true, true]
theorem numB_a9 : listedBy [.p 36, .p 37, .e 38] numB_l9 = numB_l10 := by kernel_rfl
theorem numB_k10 : planOK numB_ops numB_w numB_f false (PTree.of []) numB_l10 = true := by kernel_rfl
theorem numB_k9 : planOK numB_ops numB_w numB_f false (PTree.of [.p 36, .p 37, .e 38]) numB_l9 = true := plan_cutL [.p 36, .p 37, .e 38] _ _ _ numB_s9 (by rw [numB_a9]; exact numB_k10)
theorem numB_k8 : planOK numB_ops numB_w numB_f false (PTree.of [.p 32, .p 33, .e 34, .p 35, .p 36, .p 37, .e 38]) numB_l8 = true := plan_cutL [.p 32, .p 33, .e 34, .p 35] _ _ _ numB_s8 (by rw [numB_a8]; exact numB_k9)
theorem numB_k7 : planOK numB_ops numB_w numB_f false (PTree.of [.p 28, .p 29, .e 30, .p 31, .p 32, .p 33, .e 34, .p 35, .p 36, .p 37, .e 38]) numB_l7 = true := plan_cutL [.p 28, .p 29, .e 30, .p 31] _ _ _ numB_s7 (by rw [numB_a7]; exact numB_k8)
theorem numB_k6 : planOK numB_ops numB_w numB_f false (PTree.of [.p 24, .p 25, .p 26, .p 27, .p 28, .p 29, .e 30, .p 31, .p 32, .p 33, .e 34, .p 35, .p 36, .p 37, .e 38]) numB_l6 = true := plan_cutL [.p 24, .p 25, .p 26, .p 27] _ _ _ numB_s6 (by rw [numB_a6]; exact numB_k7)
theorem numB_k5 : planOK numB_ops numB_w numB_f false (PTree.of [.p 20, .p 21, .p 22, .q 23, .p 24, .p 25, .p 26, .p 27, .p 28, .p 29, .e 30, .p 31, .p 32, .p 33, .e 34, .p 35, .p 36, .p 37, .e 38]) numB_l5 = true := plan_cutL [.p 20, .p 21, .p 22, .q 23] _ _ _ numB_s5 (by rw [numB_a5]; exact numB_k6)
theorem numB_k4 : planOK numB_ops numB_w numB_f false (PTree.of [.p 16, .p 17, .p 18, .p 19, .p 20, .p 21, .p 22, .q 23, .p 24, .p 25, .p 26, .p 27, .p 28, .p 29, .e 30, .p 31, .p 32, .p 33, .e 34, .p 35, .p 36, .p 37, .e 38]) numB_l4 = true := plan_cutL [.p 16, .p 17, .p 18, .p 19] _ _ _ numB_s4 (by rw [numB_a4]; exact numB_k5)
theorem numB_k3 : planOK numB_ops numB_w numB_f false (PTree.of [.p 12, .p 13, .p 14, .q 15, .p 16, .p 17, .p 18, .p 19, .p 20, .p 21, .p 22, .q 23, .p 24, .p 25, .p 26, .p 27, .p 28, .p 29, .e 30, .p 31, .p 32, .p 33, .e 34, .p 35, .p 36, .p 37, .e 38]) numB_l3 = true := plan_cutL [.p 12, .p 13, .p 14, .q 15] _ _ _ numB_s3 (by rw [numB_a3]; exact numB_k4)
theorem numB_k2 : planOK numB_ops numB_w numB_f false (PTree.of [.p 8, .p 9, .p 10, .p 11, .p 12, .p 13, .p 14, .q 15, .p 16, .p 17, .p 18, .p 19, .p 20, .p 21, .p 22, .q 23, .p 24, .p 25, .p 26, .p 27, .p 28, .p 29, .e 30, .p 31, .p 32, .p 33, .e 34, .p 35, .p 36, .p 37, .e 38]) numB_l2 = true := plan_cutL [.p 8, .p 9, .p 10, .p 11] _ _ _ numB_s2 (by rw [numB_a2]; exact numB_k3)
theorem numB_k1 : planOK numB_ops numB_w numB_f false (PTree.of [.p 4, .p 5, .p 6, .q 7, .p 8, .p 9, .p 10, .p 11, .p 12, .p 13, .p 14, .q 15, .p 16, .p 17, .p 18, .p 19, .p 20, .p 21, .p 22, .q 23, .p 24, .p 25, .p 26, .p 27, .p 28, .p 29, .e 30, .p 31, .p 32, .p 33, .e 34, .p 35, .p 36, .p 37, .e 38]) numB_l1 = true := plan_cutL [.p 4, .p 5, .p 6, .q 7] _ _ _ numB_s1 (by rw [numB_a1]; exact numB_k2)
theorem numB_k0 : planOK numB_ops numB_w numB_f false (PTree.of [.p 0, .p 1, .p 2, .p 3, .p 4, .p 5, .p 6, .q 7, .p 8, .p 9, .p 10, .p 11, .p 12, .p 13, .p 14, .q 15, .p 16, .p 17, .p 18, .p 19, .p 20, .p 21, .p 22, .q 23, .p 24, .p 25, .p 26, .p 27, .p 28, .p 29, .e 30, .p 31, .p 32, .p 33, .e 34, .p 35, .p 36, .p 37, .e 38]) numB_l0 = true := plan_cutL [.p 0, .p 1, .p 2, .p 3] _ _ _ numB_s0 (by rw [numB_a0]; exact numB_k1)
theorem numB_ok (ops : Array Oper) (h : opsOf Tryd.f27 20 = some ops) : planned ops (PTree.of numB) = true := by
  have e : ops = numB_ops := by unfold numB_ops; rw [h]
  subst e
  unfold planned
  rw [show effs (PTree.of numB) = numB_w from rfl, show lates (PTree.of numB) = numB_f from rfl, show Array.replicate numB_ops.size false = numB_l0 by kernel_rfl, numB_k0, show Region.noSelect numB_ops = true by kernel_rfl, show Nat.beq (PTree.of numB).len numB_ops.size = true by kernel_rfl]
  rfl
end Go.Vx
set_option maxRecDepth 1000000
namespace Go.Vx
open Go Go.Proofs

abbrev numE : List Tk := [.p 0, .p 1, .p 2, .p 3, .p 4, .p 5, .p 6, .p 7, .p 8, .p 9, .p 10, .p 11, .p 12, .p 13, .p 14, .f 15]
noncomputable def numE_ops : Array Oper := match opsOf Tryd.f27 27 with
  | some o => o
  | none => #[]
def numE_w : List Nat := [15]
def numE_f : List Nat := [15]
def numE_l0 : Array Bool := #[false, false, false, false, false, false, false, false, false, false, false, false, false, false, false, false]
theorem numE_s0 : stepsOKL numE_ops numE_w numE_f false [.p 0, .p 1, .p 2, .p 3] numE_l0 = true := by kernel_rfl
def numE_l1 : Array Bool := #[true, true, true, true, false, false, false, false, false, false, false, false, false, false, false, false]
theorem numE_a0 : listedBy [.p 0, .p 1, .p 2, .p 3] numE_l0 = numE_l1 := by kernel_rfl
theorem numE_s1 : stepsOKL numE_ops numE_w numE_f false [.p 4, .p 5, .p 6, .p 7] numE_l1 = true := by kernel_rfl
def numE_l2 : Array Bool := #[true, true, true, true, true, true, true, true, false, false, false, false, false, false, false, false]
theorem numE_a1 : listedBy [.p 4, .p 5, .p 6, .p 7] numE_l1 = numE_l2 := by kernel_rfl
theorem numE_s2 : stepsOKL numE_ops numE_w numE_f false [.p 8, .p 9, .p 10, .p 11] numE_l2 = true := by kernel_rfl
def numE_l3 : Array Bool := #[true, true, true, true, true, true, true, true, true, true, true, true, false, false, false, false]
theorem numE_a2 : listedBy [.p 8, .p 9, .p 10, .p 11] numE_l2 = numE_l3 := by kernel_rfl
theorem numE_s3 : stepsOKL numE_ops numE_w numE_f false [.p 12, .p 13, .p 14, .f 15] numE_l3 = true := by kernel_rfl
def numE_l4 : Array Bool := #[true, true, true, true, true, true, true, true, true, true, true, true, true, true, true, true]
theorem numE_a3 : listedBy [.p 12, .p 13, .p 14, .f 15] numE_l3 = numE_l4 := by kernel_rfl
theorem numE_k4 : planOK numE_ops numE_w numE_f true (PTree.of []) numE_l4 = true := by kernel_rfl
theorem numE_k3 : planOK numE_ops numE_w numE_f false (PTree.of [.p 12, .p 13, .p 14, .f 15]) numE_l3 = true := plan_cutL [.p 12, .p 13, .p 14, .f 15] _ _ _ numE_s3 (by rw [numE_a3]; exact numE_k4)
theorem numE_k2 : planOK numE_ops numE_w numE_f false (PTree.of [.p 8, .p 9, .p 10, .p 11, .p 12, .p 13, .p 14, .f 15]) numE_l2 = true := plan_cutL [.p 8, .p 9, .p 10, .p 11] _ _ _ numE_s2 (by rw [numE_a2]; exact numE_k3)
theorem numE_k1 : planOK numE_ops numE_w numE_f false (PTree.of [.p 4, .p 5, .p 6, .p 7, .p 8, .p 9, .p 10, .p 11, .p 12, .p 13, .p 14, .f 15]) numE_l1 = true := plan_cutL [.p 4, .p 5, .p 6, .p 7] _ _ _ numE_s1 (by rw [numE_a1]; exact numE_k2)
theorem numE_k0 : planOK numE_ops numE_w numE_f false (PTree.of [.p 0, .p 1, .p 2, .p 3, .p 4, .p 5, .p 6, .p 7, .p 8, .p 9, .p 10, .p 11, .p 12, .p 13, .p 14, .f 15]) numE_l0 = true := plan_cutL [.p 0, .p 1, .p 2, .p 3] _ _ _ numE_s0 (by rw [numE_a0]; exact numE_k1)
theorem numE_ok (ops : Array Oper) (h : opsOf Tryd.f27 27 = some ops) : planned ops (PTree.of numE) = true := by
  have e : ops = numE_ops := by unfold numE_ops; rw [h]
  subst e
  unfold planned
  rw [show effs (PTree.of numE) = numE_w from rfl, show lates (PTree.of numE) = numE_f from rfl, show Array.replicate numE_ops.size false = numE_l0 by kernel_rfl, numE_k0, show Region.noSelect numE_ops = true by kernel_rfl, show Nat.beq (PTree.of numE).len numE_ops.size = true by kernel_rfl]
  rfl
abbrev sloB : List Tk := [.p 0, .p 1, .p 2, .p 3, .p 4, .p 5, .p 6, .p 7, .p 8, .p 9, .p 10, .p 11, .e 12, .e 13, .p 14, .p 15, .p 16, .f 17]
noncomputable def sloB_ops : Array Oper := match opsOf Tryd.f28 20 with
  | some o => o
  | none => #[]
def sloB_w : List Nat := [12, 13, 17]
def sloB_f : List Nat := [17]
def sloB_l0 : Array Bool := #[false, false, false, false, false, false, false, false, false, false, false, false, false, false, false, false, false, false]
theorem sloB_s0 : stepsOKL sloB_ops sloB_w sloB_f false [.p 0, .p 1, .p 2, .p 3] sloB_l0 = true := by kernel_rfl
def sloB_l1 : Array Bool := #[true, true, true, true, false, false, false, false, false, false, false, false, false, false, false, false, false, false]
theorem sloB_a0 : listedBy [.p 0, .p 1, .p 2, .p 3] sloB_l0 = sloB_l1 := by kernel_rfl
theorem sloB_s1 : stepsOKL sloB_ops sloB_w sloB_f false [.p 4, .p 5, .p 6, .p 7] sloB_l1 = true := by kernel_rfl
def sloB_l2 : Array Bool := #[true, true, true, true, true, true, true, true, false, false, false, false, false, false, false, false, false, false]
theorem sloB_a1 : listedBy [.p 4, .p 5, .p 6, .p 7] sloB_l1 = sloB_l2 := by kernel_rfl
theorem sloB_s2 : stepsOKL sloB_ops sloB_w sloB_f false [.p 8, .p 9, .p 10, .p 11] sloB_l2 = true := by kernel_rfl
def sloB_l3 : Array Bool := #[true, true, true, true, true, true, true, true, true, true, true, true, false, false, false, false, false, false]
theorem sloB_a2 : listedBy [.p 8, .p 9, .p 10, .p 11] sloB_l2 = sloB_l3 := by kernel_rfl
theorem sloB_s3 : stepsOKL sloB_ops sloB_w sloB_f false [.e 12, .e 13, .p 14, .p 15] sloB_l3 = true := by kernel_rfl
def sloB_l4 : Array Bool := #[true, true, true, true, true, true, true, true, true, true, true, true, true, true, true, true, false, false]
theorem sloB_a3 : listedBy [.e 12, .e 13, .p 14, .p 15] sloB_l3 = sloB_l4 := by kernel_rfl
theorem sloB_s4 : stepsOKL sloB_ops sloB_w sloB_f false [.p 16, .f 17] sloB_l4 = true := by kernel_rfl
def sloB_l5 : Array Bool := #[true, true, true, true, true, true, true, true, true, true, true, true, true, true, true, true, true, true]
theorem sloB_a4 : listedBy [.p 16, .f 17] sloB_l4 = sloB_l5 := by kernel_rfl
theorem sloB_k5 : planOK sloB_ops sloB_w sloB_f true (PTree.of []) sloB_l5 = true := by kernel_rfl
theorem sloB_k4 : planOK sloB_ops sloB_w sloB_f false (PTree.of [.p 16, .f 17]) sloB_l4 = true := plan_cutL [.p 16, .f 17] _ _ _ sloB_s4 (by rw [sloB_a4]; exact sloB_k5)
theorem sloB_k3 : planOK sloB_ops sloB_w sloB_f false (PTree.of [.e 12, .e 13, .p 14, .p 15, .p 16, .f 17]) sloB_l3 = true := plan_cutL [.e 12, .e 13, .p 14, .p 15] _ _ _ sloB_s3 (by rw [sloB_a3]; exact sloB_k4)
theorem sloB_k2 : planOK sloB_ops sloB_w sloB_f false (PTree.of [.p 8, .p 9, .p 10, .p 11, .e 12, .e 13, .p 14, .p 15, .p 16, .f 17]) sloB_l2 = true := plan_cutL [.p 8, .p 9, .p 10, .p 11] _ _ _ sloB_s2 (by rw [sloB_a2]; exact sloB_k3)
theorem sloB_k1 : planOK sloB_ops sloB_w sloB_f false (PTree.of [.p 4, .p 5, .p 6, .p 7, .p 8, .p 9, .p 10, .p 11, .e 12, .e 13, .p 14, .p 15, .p 16, .f 17]) sloB_l1 = true := plan_cutL [.p 4, .p 5, .p 6, .p 7] _ _ _ sloB_s1 (by rw [sloB_a1]; exact sloB_k2)
theorem sloB_k0 : planOK sloB_ops sloB_w sloB_f false (PTree.of [.p 0, .p 1, .p 2, .p 3, .p 4, .p 5, .p 6, .p 7, .p 8, .p 9, .p 10, .p 11, .e 12, .e 13, .p 14, .p 15, .p 16, .f 17]) sloB_l0 = true := plan_cutL [.p 0, .p 1, .p 2, .p 3] _ _ _ sloB_s0 (by rw [sloB_a0]; exact sloB_k1)
theorem sloB_ok (ops : Array Oper) (h : opsOf Tryd.f28 20 = some ops) : planned ops (PTree.of sloB) = true := by
  have e : ops = sloB_ops := by unfold sloB_ops; rw [h]
  subst e
  unfold planned
  rw [show effs (PTree.of sloB) = sloB_w from rfl, show lates (PTree.of sloB) = sloB_f from rfl, show Array.replicate sloB_ops.size false = sloB_l0 by kernel_rfl, sloB_k0, show Region.noSelect sloB_ops = true by kernel_rfl, show Nat.beq (PTree.of sloB).len sloB_ops.size = true by kernel_rfl]
  rfl
abbrev ofB : List Tk := [.p 0, .p 1, .p 2, .p 3, .p 4, .p 5, .p 6, .p 7, .p 8, .p 9, .p 10, .p 11, .p 12, .p 13, .p 14, .e 15, .e 16, .p 17, .f 18]
noncomputable def ofB_ops : Array Oper := match opsOf Tryd.f9 12 with
  | some o => o
  | none => #[]
def ofB_w : List Nat := [15, 16, 18]
def ofB_f : List Nat := [18]
def ofB_l0 : Array Bool := #[false, false, false, false, false, false, false, false, false, false, false, false, false, false, false, false, false, false, false]
theorem ofB_s0 : stepsOKL ofB_ops ofB_w ofB_f false [.p 0, .p 1, .p 2, .p 3] ofB_l0 = true := by kernel_rfl
def ofB_l1 : Array Bool := #[true, true, true, true, false, false, false, false, false, false, false, false, false, false, false, false, false, false, false]
theorem ofB_a0 : listedBy [.p 0, .p 1, .p 2, .p 3] ofB_l0 = ofB_l1 := by kernel_rfl
theorem ofB_s1 : stepsOKL ofB_ops ofB_w ofB_f false [.p 4, .p 5, .p 6, .p 7] ofB_l1 = true := by kernel_rfl
def ofB_l2 : Array Bool := #[true, true, true, true, true, true, true, true, false, false, false, false, false, false, false, false, false, false, false]
theorem ofB_a1 : listedBy [.p 4, .p 5, .p 6, .p 7] ofB_l1 = ofB_l2 := by kernel_rfl
theorem ofB_s2 : stepsOKL ofB_ops ofB_w ofB_f false [.p 8, .p 9, .p 10, .p 11] ofB_l2 = true := by kernel_rfl
def ofB_l3 : Array Bool := #[true, true, true, true, true, true, true, true, true, true, true, true, false, false, false, false, false, false, false]
theorem ofB_a2 : listedBy [.p 8, .p 9, .p 10, .p 11] ofB_l2 = ofB_l3 := by kernel_rfl
theorem ofB_s3 : stepsOKL ofB_ops ofB_w ofB_f false [.p 12, .p 13, .p 14, .e 15] ofB_l3 = true := by kernel_rfl
def ofB_l4 : Array Bool := #[true, true, true, true, true, true, true, true, true, true, true, true, true, true, true, true, false, false, false]
theorem ofB_a3 : listedBy [.p 12, .p 13, .p 14, .e 15] ofB_l3 = ofB_l4 := by kernel_rfl
theorem ofB_s4 : stepsOKL ofB_ops ofB_w ofB_f false [.e 16, .p 17, .f 18] ofB_l4 = true := by kernel_rfl
def ofB_l5 : Array Bool := #[true, true, true, true, true, true, true, true, true, true, true, true, true, true, true, true, true, true, true]
theorem ofB_a4 : listedBy [.e 16, .p 17, .f 18] ofB_l4 = ofB_l5 := by kernel_rfl
theorem ofB_k5 : planOK ofB_ops ofB_w ofB_f true (PTree.of []) ofB_l5 = true := by kernel_rfl
theorem ofB_k4 : planOK ofB_ops ofB_w ofB_f false (PTree.of [.e 16, .p 17, .f 18]) ofB_l4 = true := plan_cutL [.e 16, .p 17, .f 18] _ _ _ ofB_s4 (by rw [ofB_a4]; exact ofB_k5)
theorem ofB_k3 : planOK ofB_ops ofB_w ofB_f false (PTree.of [.p 12, .p 13, .p 14, .e 15, .e 16, .p 17, .f 18]) ofB_l3 = true := plan_cutL [.p 12, .p 13, .p 14, .e 15] _ _ _ ofB_s3 (by rw [ofB_a3]; exact ofB_k4)
theorem ofB_k2 : planOK ofB_ops ofB_w ofB_f false (PTree.of [.p 8, .p 9, .p 10, .p 11, .p 12, .p 13, .p 14, .e 15, .e 16, .p 17, .f 18]) ofB_l2 = true := plan_cutL [.p 8, .p 9, .p 10, .p 11] _ _ _ ofB_s2 (by rw [ofB_a2]; exact ofB_k3)
theorem ofB_k1 : planOK ofB_ops ofB_w ofB_f false (PTree.of [.p 4, .p 5, .p 6, .p 7, .p 8, .p 9, .p 10, .p 11, .p 12, .p 13, .p 14, .e 15, .e 16, .p 17, .f 18]) ofB_l1 = true := plan_cutL [.p 4, .p 5, .p 6, .p 7] _ _ _ ofB_s1 (by rw [ofB_a1]; exact ofB_k2)
theorem ofB_k0 : planOK ofB_ops ofB_w ofB_f false (PTree.of [.p 0, .p 1, .p 2, .p 3, .p 4, .p 5, .p 6, .p 7, .p 8, .p 9, .p 10, .p 11, .p 12, .p 13, .p 14, .e 15, .e 16, .p 17, .f 18]) ofB_l0 = true := plan_cutL [.p 0, .p 1, .p 2, .p 3] _ _ _ ofB_s0 (by rw [ofB_a0]; exact ofB_k1)
theorem ofB_ok (ops : Array Oper) (h : opsOf Tryd.f9 12 = some ops) : planned ops (PTree.of ofB) = true := by
  have e : ops = ofB_ops := by unfold ofB_ops; rw [h]
  subst e
  unfold planned
  rw [show effs (PTree.of ofB) = ofB_w from rfl, show lates (PTree.of ofB) = ofB_f from rfl, show Array.replicate ofB_ops.size false = ofB_l0 by kernel_rfl, ofB_k0, show Region.noSelect ofB_ops = true by kernel_rfl, show Nat.beq (PTree.of ofB).len ofB_ops.size = true by kernel_rfl]
  rfl
end Go.Vx
set_option maxRecDepth 100000
namespace Go.Vx
open Go Go.Proofs
variable [Gl]

/-- A chip's pages, az they lie: where the struct; its numbers; which are skipped; the blocks' pages; where the bad ones are told. -/
structure Cx where
  bc : Nat
  qc : Nat
  bs : Int
  ps : Int
  ss : Int
  so : Bool
  sb : Nat
  sq : Nat
  sl : List Int
  sn : Nat
  sc : Nat
  bg : Nat
  qg : Nat
  R : List (Rw Pg)
  n : Nat
  c : Nat
  bm : Nat
abbrev Cx.Q (x : Cx) : List (List Pg) := x.R.map fun r => r.l
structure Cx.ok (x : Cx) : Prop where
  bs : x.bs = (x.n : Int)
  n : x.n = x.R.length
  n64 : x.n ≤ 64
  ps : 0 ≤ x.ps ∧ x.ps ≤ 64
  ss : 0 ≤ x.ss ∧ x.ss ≤ 536870912
  rok : ∀ r ∈ x.R, Rok r
  few : ∀ r ∈ x.R, r.l.length < 1000000
  skip : x.sn ≤ x.sl.length ∧ x.sn < 1000000000 ∧ (x.so = false → x.sn = 0 ∧ x.sc = 0)
abbrev chW (w : Bool) : Cx → List SV → Ck C0
  | ⟨bc, qc, bs, ps, ss, so, sb, sq, sl, sn, sc, bg, qg, R, n, c, bm⟩, out => ⟨bc, qc, 15, w, none, .one (.int .i64 bs :: .int .i64 ps :: .int .i64 ss :: .sl 3 0 sn sc :: .sl 1 0 n c :: .mp 2 :: out)⟩
abbrev chG : Cx → Ck C0
  | ⟨bc, qc, bs, ps, ss, so, sb, sq, sl, sn, sc, bg, qg, R, n, c, bm⟩ => gridR bg qg R
abbrev chM (w : Bool) : Cx → Bm → Nat → Ck C0
  | ⟨bc, qc, bs, ps, ss, so, sb, sq, sl, sn, sc, bg, qg, R, n, c, bm⟩, M, clk => ⟨bm, 0, 0, w, none, .mp 3 4 M clk⟩
abbrev chS : Cx → Ck C0
  | ⟨bc, qc, bs, ps, ss, so, sb, sq, sl, sn, sc, bg, qg, R, n, c, bm⟩ => ⟨sb, sq, 1, false, some so, .rows 3 sl⟩
abbrev out0 : List SV := [.nils, .int .i64 0, .int .i64 0, .int .i64 0, .int .i64 0, .nils, .nils, .nils, .nils]
/-- What the numbers are behind so many pages. -/
abbrev outI (a b c d : Int) (n q : Nat) : List SV := [.nils, .int .i64 a, .int .i64 b, .int .i64 c, .int .i64 d, .nils, .nils, .sl 4 0 n q, .nils]
abbrev sqF (x : Cx) (i : Nat) : Int := fTo (mxH Me.seq) allF x.Q i
abbrev stF (x : Cx) (i : Nat) : Int := fTo (mxH Me.stamp) allF x.Q i
abbrev baF (x : Cx) (i : Nat) : Int := fTo (mxH Me.batch) allF x.Q i
abbrev flF (x : Cx) (i : Nat) : Int := fTo flH (cntF x.n x.Q) x.Q i
abbrev sqJ (x : Cx) (i j : Nat) : Int := fAt (mxH Me.seq) allF x.Q i j
abbrev stJ (x : Cx) (i j : Nat) : Int := fAt (mxH Me.stamp) allF x.Q i j
abbrev baJ (x : Cx) (i j : Nat) : Int := fAt (mxH Me.batch) allF x.Q i j
abbrev flJ (x : Cx) (i j : Nat) : Int := fAt flH (cntF x.n x.Q) x.Q i j
def N1 (x : Cx) : Inv' C0 := ⟨1, Nat × Bm × Nat, fun y => [(17, .int .i64 (y.1 : Int))], fun y _ => [chW true x out0, chG x, chM true x y.2.1 y.2.2, chS x],
  fun y => y.1 ≤ x.n ∧ MSet y.2.1 y.2.2 (badTo x.n x.Q y.1), fun y => x.n - y.1⟩
def N4 (x : Cx) : Inv' C0 := ⟨4, Nat × Nat × Bm × Nat, fun y => [(17, .int .i64 (y.1 : Int)), (24, .int .i64 (y.2.1 : Int))], fun y m => match m with
  | _ :: _ :: _ :: _ :: g :: _ => [chW true x out0, chG x, chM true x y.2.2.1 y.2.2.2, chS x, g]
  | _ => [], fun y => y.1 < x.n ∧ y.2.1 ≤ (rw x.Q y.1).length ∧ MSet y.2.2.1 y.2.2.2 (badAt x.n x.Q y.1 y.2.1), fun y => (rw x.Q y.1).length - y.2.1⟩
def N13 (x : Cx) : Inv' C0 := ⟨13, Nat × Bm × Nat × Sq Int, fun y => [(75, .junk), (76, .junk), (85, .int .i64 (y.1 : Int))], fun y _ => [chW true x (outI (sqF x y.1) (stF x y.1) (baF x y.1) (flF x y.1) y.2.2.2.2.2.2.2.1 y.2.2.2.2.2.2.2.2), chG x, chM true x y.2.1 y.2.2.1, chS x, ⟨y.2.2.2.2.1, y.2.2.2.2.2.1, 1, true, some y.2.2.2.1, .rows 3 y.2.2.2.2.2.2.1⟩],
  fun y => y.1 ≤ x.n ∧ MSet y.2.1 y.2.2.1 (badTo x.n x.Q x.n) ∧ Gth (badL x.n x.Q) y.2.2.2, fun y => x.n - y.1⟩
def N16 (x : Cx) : Inv' C0 := ⟨16, Nat × Nat × Bm × Nat × Sq Int, fun y => [(85, .int .i64 (y.1 : Int)), (92, .int .i64 (y.2.1 : Int))], fun y m => match m with
  | _ :: _ :: _ :: _ :: _ :: g :: _ => [chW true x (outI (sqJ x y.1 y.2.1) (stJ x y.1 y.2.1) (baJ x y.1 y.2.1) (flJ x y.1 y.2.1) y.2.2.2.2.2.2.2.2.1 y.2.2.2.2.2.2.2.2.2), chG x, chM true x y.2.2.1 y.2.2.2.1, chS x, ⟨y.2.2.2.2.2.1, y.2.2.2.2.2.2.1, 1, true, some y.2.2.2.2.1, .rows 3 y.2.2.2.2.2.2.2.1⟩, g]
  | _ => [], fun y => y.1 < x.n ∧ y.2.1 ≤ (rw x.Q y.1).length ∧ MSet y.2.2.1 y.2.2.2.1 (badTo x.n x.Q x.n) ∧ Gth (badL x.n x.Q) y.2.2.2.2, fun y => (rw x.Q y.1).length - y.2.1⟩
/-- What 'numbers' leaves. -/
abbrev numOut (x : Cx) (y : Bm × Nat × Sq Int) : List (Ck C0) :=
  [chW true x (outI (sqF x x.n) (stF x x.n) (max (baF x x.n) (flF x x.n)) (flF x x.n) y.2.2.2.2.2.2.1 y.2.2.2.2.2.2.2), chG x, chM true x y.1 y.2.1, chS x, ⟨y.2.2.2.1, y.2.2.2.2.1, 1, true, some y.2.2.1, .rows 3 y.2.2.2.2.2.1⟩]
set_option maxHeartbeats 64000000 in
theorem numbers_ok (x : Cx) (h : x.ok) : Does (C := C0) Tryd.prog (.fn 27) [chW true x out0, chG x, chM true x [] 0, chS x] [.ptr 0 0 0]
    [⟨Bm × Nat × Sq Int, fun y => MSet y.1 y.2.1 (badTo x.n x.Q x.n) ∧ Gth (badL x.n x.Q) y.2.2, fun _ => .tup [], fun y => numOut x y⟩] := by
  obtain ⟨bc, qc, bs, ps, ss, so, sb, sq, sl, sn, sc, bg, qg, R, n, c, bm⟩ := x
  have hbs : bs = (n : Int) := h.bs
  have hn : n = R.length := h.n
  have hn64 : n ≤ 64 := h.n64
  have hrok : ∀ r ∈ R, Rok r := h.rok
  have hfew : ∀ r ∈ R, r.l.length < 1000000 := h.few
  refine loc_fn (P := Tryd.prog) (E := ⟨[fcKeysB, fcSortedB], [pcHeaded, pcCounts], 185, [(8, [0, 1000006], [.p 0, .p 1, .p 2, .p 3, .p 4, .p 5, .f 6]), (20, [1000011], numB), (22, [0, 1000011], [.p 0, .p 1, .p 2, .p 3, .p 4, .p 5, .p 6, .p 7, .p 8, .p 9, .p 10, .p 11, .f 12]), (24, [0, 1000011], [.p 0, .p 1, .p 2, .p 3, .p 4, .p 5, .p 6, .p 7, .p 8, .p 9, .p 10, .p 11, .f 12]), (27, [0], numE)], [fG], []⟩) (L := [N1 ⟨bc, qc, bs, ps, ss, so, sb, sq, sl, sn, sc, bg, qg, R, n, c, bm⟩, N4 ⟨bc, qc, bs, ps, ss, so, sb, sq, sl, sn, sc, bg, qg, R, n, c, bm⟩, N13 ⟨bc, qc, bs, ps, ss, so, sb, sq, sl, sn, sc, bg, qg, R, n, c, bm⟩, N16 ⟨bc, qc, bs, ps, ss, so, sb, sq, sl, sn, sc, bg, qg, R, n, c, bm⟩]) mix Tryd.func27 rfl (by kernel_rfl) (by kernel_rfl) rfl rfl ?_
  ((refine Tr.via ?_ ?_ ?_; rotate_left; (as_aux_lemma => ((conv => (rhs; reduce))))); with_reducible repeat' (first | exact Tr.yes_h | refine Tr.and_h ?_ ?_ | refine Tr.imp_h fun _ => ?_ | refine Tr.all_h fun _ => ?_ | refine Tr.lf_h ?_))
  all_goals try (first | exact numE_ok _ rfl | exact numB_ok _ rfl)
  all_goals try (first | first | (show Region.lexB _ _ = true; kernel_rfl) | (show planned _ _ = true; kernel_rfl) | exact rfl | exact True.intro | (first | exact key3 | exact zeroB | exact zeroR | exact zeroS | exact ⟨key3, zeroB⟩ | exact ⟨key3, zeroR⟩ | exact ⟨key3, zeroS⟩) | ((try dsimp only [imp, C0, cG, cInt, cPl, cSlot, cPg, gwCodec] at *); (try refine inR64 ?_ ?_) <;> (try simp only [List.length_set, List.length_append, List.length_take, List.length_drop]) <;> omega))
  · refine Stands.one (0, [], 0) ⟨⟨Nat.zero_le _, by show MSet [] 0 (badTo n (R.map fun r => r.l) 0); rw [badTo_zero]; exact MSet.nil⟩, ?_⟩
    ((refine Tr.via ?_ ?_ ?_; rotate_left; (as_aux_lemma => ((conv => (rhs; reduce))))); with_reducible repeat' (first | exact Tr.yes_h | refine Tr.and_h ?_ ?_ | refine Tr.imp_h fun _ => ?_ | refine Tr.all_h fun _ => ?_ | refine Tr.lf_h ?_))
    all_goals (first | first | (show Region.lexB _ _ = true; kernel_rfl) | (show planned _ _ = true; kernel_rfl) | exact rfl | exact True.intro | (first | exact key3 | exact zeroB | exact zeroR | exact zeroS | exact ⟨key3, zeroB⟩ | exact ⟨key3, zeroR⟩ | exact ⟨key3, zeroS⟩) | ((try dsimp only [imp, C0, cG, cInt, cPl, cSlot, cPg, gwCodec] at *); (try refine inR64 ?_ ?_) <;> (try simp only [List.length_set, List.length_append, List.length_take, List.length_drop]) <;> omega))
  · rename_i x1 h1 h2
    obtain ⟨i, M1, c1⟩ := x1
    have h1 : i ≤ n ∧ MSet M1 c1 (badTo n (R.map fun r => r.l) i) := h1
    have h2 : (i : Int) < (n : Int) := of_decide_eq_true h2
    exact h2
  · rename_i x1 h1 h2
    obtain ⟨i, M1, c1⟩ := x1
    have h1 : i ≤ n ∧ MSet M1 c1 (badTo n (R.map fun r => r.l) i) := h1
    have h2 : (i : Int) < (n : Int) := of_decide_eq_true h2
    show i < R.length
    omega
  · rename_i x1 h1 h2 r hr
    obtain ⟨i, M1, c1⟩ := x1
    have h1 : i ≤ n ∧ MSet M1 c1 (badTo n (R.map fun r => r.l) i) := h1
    have h2 : (i : Int) < (n : Int) := of_decide_eq_true h2
    change Rw Pg at r
    have hr : R.getD i Rw.nil = r := hr
    have hm : r ∈ R := by rw [← hr]; exact getD_mem (by omega)
    have hk : Rok r := hrok r hm
    have hl : r.l.length < 1000000 := hfew r hm
    have hw : rw (R.map fun r => r.l) i = r.l := by rw [rwR, hr]
    refine Stands.one (i, 0, M1, c1) ⟨⟨by show i < n; omega, Nat.zero_le _, by show MSet M1 c1 (badAt n (R.map fun r => r.l) i 0); rw [badAt_zero]; exact h1.2⟩, ?_⟩
    ((refine Tr.via ?_ ?_ ?_; rotate_left; (as_aux_lemma => ((conv => (rhs; reduce))))); with_reducible repeat' (first | exact Tr.yes_h | refine Tr.and_h ?_ ?_ | refine Tr.imp_h fun _ => ?_ | refine Tr.all_h fun _ => ?_ | refine Tr.lf_h ?_))
    all_goals (first | first | (show Region.lexB _ _ = true; kernel_rfl) | (show planned _ _ = true; kernel_rfl) | exact rfl | exact True.intro | (first | exact key3 | exact zeroB | exact zeroR | exact zeroS | exact ⟨key3, zeroB⟩ | exact ⟨key3, zeroR⟩ | exact ⟨key3, zeroS⟩) | ((try dsimp only [imp, C0, cG, cInt, cPl, cSlot, cPg, gwCodec] at *); (try refine inR64 ?_ ?_) <;> (try simp only [List.length_set, List.length_append, List.length_take, List.length_drop]) <;> omega))
  · rename_i x1 h1 h2 r hr x4 h4 e4 h5
    obtain ⟨i, M1, c1⟩ := x1
    obtain ⟨i4, j, M4, c4⟩ := x4
    obtain rfl : i = i4 := Int.ofNat.inj e4
    have h2 : (i : Int) < (n : Int) := of_decide_eq_true h2
    have h4 : i < n ∧ j ≤ (rw (R.map fun r => r.l) i).length ∧ MSet M4 c4 (badAt n (R.map fun r => r.l) i j) := h4
    change Rw Pg at r
    have hr : R.getD i Rw.nil = r := hr
    have hm : r ∈ R := by rw [← hr]; exact getD_mem (by omega)
    have hk : Rok r := hrok r hm
    have hl : r.l.length < 1000000 := hfew r hm
    have hw : rw (R.map fun r => r.l) i = r.l := by rw [rwR, hr]
    rw [hw] at h4
    have h5 : (j : Int) < (r.l.length : Int) := of_decide_eq_true h5
    exact on_of (o := r.on) hk.1 (by show 0 < r.l.length; omega)
  · rename_i x1 h1 h2 r hr x4 h4 e4 h5
    obtain ⟨i, M1, c1⟩ := x1
    obtain ⟨i4, j, M4, c4⟩ := x4
    obtain rfl : i = i4 := Int.ofNat.inj e4
    have h2 : (i : Int) < (n : Int) := of_decide_eq_true h2
    have h4 : i < n ∧ j ≤ (rw (R.map fun r => r.l) i).length ∧ MSet M4 c4 (badAt n (R.map fun r => r.l) i j) := h4
    change Rw Pg at r
    have hr : R.getD i Rw.nil = r := hr
    have hm : r ∈ R := by rw [← hr]; exact getD_mem (by omega)
    have hk : Rok r := hrok r hm
    have hl : r.l.length < 1000000 := hfew r hm
    have hw : rw (R.map fun r => r.l) i = r.l := by rw [rwR, hr]
    rw [hw] at h4
    have h5 : (j : Int) < (r.l.length : Int) := of_decide_eq_true h5
    exact h5
  · rename_i x1 h1 h2 r hr x4 h4 e4 h5
    obtain ⟨i, M1, c1⟩ := x1
    obtain ⟨i4, j, M4, c4⟩ := x4
    obtain rfl : i = i4 := Int.ofNat.inj e4
    have h2 : (i : Int) < (n : Int) := of_decide_eq_true h2
    have h4 : i < n ∧ j ≤ (rw (R.map fun r => r.l) i).length ∧ MSet M4 c4 (badAt n (R.map fun r => r.l) i j) := h4
    change Rw Pg at r
    have hr : R.getD i Rw.nil = r := hr
    have hm : r ∈ R := by rw [← hr]; exact getD_mem (by omega)
    have hk : Rok r := hrok r hm
    have hl : r.l.length < 1000000 := hfew r hm
    have hw : rw (R.map fun r => r.l) i = r.l := by rw [rwR, hr]
    rw [hw] at h4
    have h5 : (j : Int) < (r.l.length : Int) := of_decide_eq_true h5
    exact on_of (o := r.on) hk.1 (by show 0 < r.l.length; omega)
  · rename_i x1 h1 h2 r hr x4 h4 e4 h5
    obtain ⟨i, M1, c1⟩ := x1
    obtain ⟨i4, j, M4, c4⟩ := x4
    obtain rfl : i = i4 := Int.ofNat.inj e4
    have h2 : (i : Int) < (n : Int) := of_decide_eq_true h2
    have h4 : i < n ∧ j ≤ (rw (R.map fun r => r.l) i).length ∧ MSet M4 c4 (badAt n (R.map fun r => r.l) i j) := h4
    change Rw Pg at r
    have hr : R.getD i Rw.nil = r := hr
    have hm : r ∈ R := by rw [← hr]; exact getD_mem (by omega)
    have hk : Rok r := hrok r hm
    have hl : r.l.length < 1000000 := hfew r hm
    have hw : rw (R.map fun r => r.l) i = r.l := by rw [rwR, hr]
    rw [hw] at h4
    have h5 : (j : Int) < (r.l.length : Int) := of_decide_eq_true h5
    show j < r.l.length
    omega
  · rename_i x1 h1 h2 r hr x4 h4 e4 h5 u1 u2 hc
    have h2 : (x1.1 : Int) < (n : Int) := of_decide_eq_true h2
    exact ⟨by omega, ⟨by omega, h2⟩, hrok⟩
  · rename_i x1 h1 h2 r hr x4 h4 e4 h5 u1 u2 hc
    obtain ⟨i, M1, c1⟩ := x1
    obtain ⟨i4, j, M4, c4⟩ := x4
    obtain rfl : i = i4 := Int.ofNat.inj e4
    have h2 : (i : Int) < (n : Int) := of_decide_eq_true h2
    have h4 : i < n ∧ j ≤ (rw (R.map fun r => r.l) i).length ∧ MSet M4 c4 (badAt n (R.map fun r => r.l) i j) := h4
    change Rw Pg at r
    have hr : R.getD i Rw.nil = r := hr
    have hm : r ∈ R := by rw [← hr]; exact getD_mem (by omega)
    have hk : Rok r := hrok r hm
    have hl : r.l.length < 1000000 := hfew r hm
    have hw : rw (R.map fun r => r.l) i = r.l := by rw [rwR, hr]
    rw [hw] at h4
    have h5 : (j : Int) < (r.l.length : Int) := of_decide_eq_true h5
    exact inR64 (by show -9223372036854775808 ≤ (j : Int) + 1; omega) (by show (j : Int) + 1 ≤ 9223372036854775807; omega)
  · rename_i x1 h1 h2 r hr x4 h4 e4 h5 u1 u2 hc
    obtain ⟨i, M1, c1⟩ := x1
    obtain ⟨i4, j, M4, c4⟩ := x4
    obtain rfl : i = i4 := Int.ofNat.inj e4
    have h2 : (i : Int) < (n : Int) := of_decide_eq_true h2
    have h4 : i < n ∧ j ≤ (rw (R.map fun r => r.l) i).length ∧ MSet M4 c4 (badAt n (R.map fun r => r.l) i j) := h4
    change Rw Pg at r
    have hr : R.getD i Rw.nil = r := hr
    have hm : r ∈ R := by rw [← hr]; exact getD_mem (by omega)
    have hk : Rok r := hrok r hm
    have hl : r.l.length < 1000000 := hfew r hm
    have hw : rw (R.map fun r => r.l) i = r.l := by rw [rwR, hr]
    rw [hw] at h4
    have h5 : (j : Int) < (r.l.length : Int) := of_decide_eq_true h5
    have hj : j < (rw (R.map fun r => r.l) i).length := by rw [hw]; omega
    have hp : (rw (R.map fun r => r.l) i).getD j pg0 = r.l.getD j pg0 := by rw [hw]
    have hc : (decide ((r.l.getD j pg0).cl = 1) && decide ((r.l.getD j pg0).me.kind = 5) && decide ((r.l.getD j pg0).me.batch = 0) && isHd (i : Int) (R.getD i Rw.nil).l && decide (0 ≤ (r.l.getD j pg0).me.key) && decide ((r.l.getD j pg0).me.key < bs)) = true := hc
    have hbad : (isHd i (rw (R.map fun r => r.l) i) && isBad n ((rw (R.map fun r => r.l) i).getD j pg0)) = true := by
      rw [hbs] at hc
      rw [hp, rwR, isBad, and_six]
      exact hc
    refine Stands.one (i, j + 1, mput (C0 3) (C0 4) M4 (r.l.getD j pg0).me.key true c4, mclk (C0 3) (C0 4) M4 (r.l.getD j pg0).me.key c4) ⟨⟨by show i < n; omega, by show j + 1 ≤ (rw (R.map fun r => r.l) i).length; omega, ?_⟩, by show (rw (R.map fun r => r.l) i).length - (j + 1) < (rw (R.map fun r => r.l) i).length - j; omega, ?_⟩
    · show MSet _ _ (badAt n (R.map fun r => r.l) i (j + 1))
      rw [badAt_yes hj (and_l hbad) (and_r hbad), hp]
      exact h4.2.2.put _
    ((refine Tr.via ?_ ?_ ?_; rotate_left; (as_aux_lemma => ((conv => (rhs; reduce))))); with_reducible repeat' (first | exact Tr.yes_h | refine Tr.and_h ?_ ?_ | refine Tr.imp_h fun _ => ?_ | refine Tr.all_h fun _ => ?_ | refine Tr.lf_h ?_))
    all_goals (first | first | (show Region.lexB _ _ = true; kernel_rfl) | (show planned _ _ = true; kernel_rfl) | exact rfl | exact True.intro | (first | exact key3 | exact zeroB | exact zeroR | exact zeroS | exact ⟨key3, zeroB⟩ | exact ⟨key3, zeroR⟩ | exact ⟨key3, zeroS⟩) | ((try dsimp only [imp, C0, cG, cInt, cPl, cSlot, cPg, gwCodec] at *); (try refine inR64 ?_ ?_) <;> (try simp only [List.length_set, List.length_append, List.length_take, List.length_drop]) <;> omega))
  · rename_i x1 h1 h2 r hr x4 h4 e4 h5 u1 u2 hc
    obtain ⟨i, M1, c1⟩ := x1
    obtain ⟨i4, j, M4, c4⟩ := x4
    obtain rfl : i = i4 := Int.ofNat.inj e4
    have h2 : (i : Int) < (n : Int) := of_decide_eq_true h2
    have h4 : i < n ∧ j ≤ (rw (R.map fun r => r.l) i).length ∧ MSet M4 c4 (badAt n (R.map fun r => r.l) i j) := h4
    change Rw Pg at r
    have hr : R.getD i Rw.nil = r := hr
    have hm : r ∈ R := by rw [← hr]; exact getD_mem (by omega)
    have hk : Rok r := hrok r hm
    have hl : r.l.length < 1000000 := hfew r hm
    have hw : rw (R.map fun r => r.l) i = r.l := by rw [rwR, hr]
    rw [hw] at h4
    have h5 : (j : Int) < (r.l.length : Int) := of_decide_eq_true h5
    exact inR64 (by show -9223372036854775808 ≤ (j : Int) + 1; omega) (by show (j : Int) + 1 ≤ 9223372036854775807; omega)
  · rename_i x1 h1 h2 r hr x4 h4 e4 h5 u1 u2 hc
    obtain ⟨i, M1, c1⟩ := x1
    obtain ⟨i4, j, M4, c4⟩ := x4
    obtain rfl : i = i4 := Int.ofNat.inj e4
    have h2 : (i : Int) < (n : Int) := of_decide_eq_true h2
    have h4 : i < n ∧ j ≤ (rw (R.map fun r => r.l) i).length ∧ MSet M4 c4 (badAt n (R.map fun r => r.l) i j) := h4
    change Rw Pg at r
    have hr : R.getD i Rw.nil = r := hr
    have hm : r ∈ R := by rw [← hr]; exact getD_mem (by omega)
    have hk : Rok r := hrok r hm
    have hl : r.l.length < 1000000 := hfew r hm
    have hw : rw (R.map fun r => r.l) i = r.l := by rw [rwR, hr]
    rw [hw] at h4
    have h5 : (j : Int) < (r.l.length : Int) := of_decide_eq_true h5
    have hj : j < (rw (R.map fun r => r.l) i).length := by rw [hw]; omega
    have hp : (rw (R.map fun r => r.l) i).getD j pg0 = r.l.getD j pg0 := by rw [hw]
    have hc : (decide ((r.l.getD j pg0).cl = 1) && decide ((r.l.getD j pg0).me.kind = 5) && decide ((r.l.getD j pg0).me.batch = 0) && isHd (i : Int) (R.getD i Rw.nil).l && decide (0 ≤ (r.l.getD j pg0).me.key) && decide ((r.l.getD j pg0).me.key < bs)) = false := hc
    have hbad : (isHd i (rw (R.map fun r => r.l) i) && isBad n ((rw (R.map fun r => r.l) i).getD j pg0)) = false := by
      rw [hbs] at hc
      rw [hp, rwR, isBad, and_six]
      exact hc
    refine Stands.one (i, j + 1, M4, c4) ⟨⟨by show i < n; omega, by show j + 1 ≤ (rw (R.map fun r => r.l) i).length; omega, ?_⟩, by show (rw (R.map fun r => r.l) i).length - (j + 1) < (rw (R.map fun r => r.l) i).length - j; omega, ?_⟩
    · show MSet _ _ (badAt n (R.map fun r => r.l) i (j + 1))
      rw [badAt_no hj hbad]
      exact h4.2.2
    ((refine Tr.via ?_ ?_ ?_; rotate_left; (as_aux_lemma => ((conv => (rhs; reduce))))); with_reducible repeat' (first | exact Tr.yes_h | refine Tr.and_h ?_ ?_ | refine Tr.imp_h fun _ => ?_ | refine Tr.all_h fun _ => ?_ | refine Tr.lf_h ?_))
    all_goals (first | first | (show Region.lexB _ _ = true; kernel_rfl) | (show planned _ _ = true; kernel_rfl) | exact rfl | exact True.intro | (first | exact key3 | exact zeroB | exact zeroR | exact zeroS | exact ⟨key3, zeroB⟩ | exact ⟨key3, zeroR⟩ | exact ⟨key3, zeroS⟩) | ((try dsimp only [imp, C0, cG, cInt, cPl, cSlot, cPg, gwCodec] at *); (try refine inR64 ?_ ?_) <;> (try simp only [List.length_set, List.length_append, List.length_take, List.length_drop]) <;> omega))
  · rename_i x1 h1 h2 r hr x4 h4 e4 h5
    obtain ⟨i, M1, c1⟩ := x1
    obtain ⟨i4, j, M4, c4⟩ := x4
    obtain rfl : i = i4 := Int.ofNat.inj e4
    have h2 : (i : Int) < (n : Int) := of_decide_eq_true h2
    have h4 : i < n ∧ j ≤ (rw (R.map fun r => r.l) i).length ∧ MSet M4 c4 (badAt n (R.map fun r => r.l) i j) := h4
    change Rw Pg at r
    have hr : R.getD i Rw.nil = r := hr
    have hm : r ∈ R := by rw [← hr]; exact getD_mem (by omega)
    have hk : Rok r := hrok r hm
    have hl : r.l.length < 1000000 := hfew r hm
    have hw : rw (R.map fun r => r.l) i = r.l := by rw [rwR, hr]
    rw [hw] at h4
    have h5 : ¬ (j : Int) < (r.l.length : Int) := of_decide_eq_false h5
    exact inR64 (by show -9223372036854775808 ≤ (i : Int) + 1; omega) (by show (i : Int) + 1 ≤ 9223372036854775807; omega)
  · rename_i x1 h1 h2 r hr x4 h4 e4 h5
    obtain ⟨i, M1, c1⟩ := x1
    obtain ⟨i4, j, M4, c4⟩ := x4
    obtain rfl : i = i4 := Int.ofNat.inj e4
    have h2 : (i : Int) < (n : Int) := of_decide_eq_true h2
    have h4 : i < n ∧ j ≤ (rw (R.map fun r => r.l) i).length ∧ MSet M4 c4 (badAt n (R.map fun r => r.l) i j) := h4
    change Rw Pg at r
    have hr : R.getD i Rw.nil = r := hr
    have hm : r ∈ R := by rw [← hr]; exact getD_mem (by omega)
    have hk : Rok r := hrok r hm
    have hl : r.l.length < 1000000 := hfew r hm
    have hw : rw (R.map fun r => r.l) i = r.l := by rw [rwR, hr]
    rw [hw] at h4
    have h5 : ¬ (j : Int) < (r.l.length : Int) := of_decide_eq_false h5
    refine Stands.one (i + 1, M4, c4) ⟨⟨by show i + 1 ≤ n; omega, ?_⟩, by show n - (i + 1) < n - i; omega, ?_⟩
    · show MSet _ _ (badTo n (R.map fun r => r.l) (i + 1))
      rw [← badAt_all (n := n) (Q := (R.map fun r => r.l)) (i := i) (j := j) (by rw [hw]; omega)]
      exact h4.2.2
    ((refine Tr.via ?_ ?_ ?_; rotate_left; (as_aux_lemma => ((conv => (rhs; reduce))))); with_reducible repeat' (first | exact Tr.yes_h | refine Tr.and_h ?_ ?_ | refine Tr.imp_h fun _ => ?_ | refine Tr.all_h fun _ => ?_ | refine Tr.lf_h ?_))
    all_goals (first | first | (show Region.lexB _ _ = true; kernel_rfl) | (show planned _ _ = true; kernel_rfl) | exact rfl | exact True.intro | (first | exact key3 | exact zeroB | exact zeroR | exact zeroS | exact ⟨key3, zeroB⟩ | exact ⟨key3, zeroR⟩ | exact ⟨key3, zeroS⟩) | ((try dsimp only [imp, C0, cG, cInt, cPl, cSlot, cPg, gwCodec] at *); (try refine inR64 ?_ ?_) <;> (try simp only [List.length_set, List.length_append, List.length_take, List.length_drop]) <;> omega))
  · rename_i x1 h1 h2 u1 u2
    obtain ⟨i, M1, c1⟩ := x1
    have h1 : i ≤ n ∧ MSet M1 c1 (badTo n (R.map fun r => r.l) i) := h1
    exact ⟨h1.2.keys.self, by have : M1.length ≤ n := h1.2.keys.few fun k hk => mem_badTo hk; show M1.length < 1000000000; omega⟩
  · rename_i x1 h1 h2 u1 u2 y hy
    obtain ⟨i, M1, c1⟩ := x1
    have h1 : i ≤ n ∧ MSet M1 c1 (badTo n (R.map fun r => r.l) i) := h1
    have h2 : ¬ (i : Int) < (n : Int) := of_decide_eq_false h2
    have e : i = n := by omega
    rw [e] at h1
    refine Stands.one (0, M1, c1, y) ⟨⟨Nat.zero_le _, h1.2, sd_bad h1.2 hy⟩, ?_⟩
    ((refine Tr.via ?_ ?_ ?_; rotate_left; (as_aux_lemma => ((conv => (rhs; reduce))))); with_reducible repeat' (first | exact Tr.yes_h | refine Tr.and_h ?_ ?_ | refine Tr.imp_h fun _ => ?_ | refine Tr.all_h fun _ => ?_ | refine Tr.lf_h ?_))
    all_goals first | (first | first | (show Region.lexB _ _ = true; kernel_rfl) | (show planned _ _ = true; kernel_rfl) | exact rfl | exact True.intro | (first | exact key3 | exact zeroB | exact zeroR | exact zeroS | exact ⟨key3, zeroB⟩ | exact ⟨key3, zeroR⟩ | exact ⟨key3, zeroS⟩) | ((try dsimp only [imp, C0, cG, cInt, cPl, cSlot, cPg, gwCodec] at *); (try refine inR64 ?_ ?_) <;> (try simp only [List.length_set, List.length_append, List.length_take, List.length_drop]) <;> omega)) | exact fTo_zero | exact fTo_zero.symm
  · rename_i x1 h1 h2 u1 u2 u3 u4 x2 h3 h4
    obtain ⟨i, M1, c1, S1⟩ := x2
    have h3 : i ≤ n ∧ MSet M1 c1 (badTo n (R.map fun r => r.l) n) ∧ Gth (badL n (R.map fun r => r.l)) S1 := h3
    have h4 : (i : Int) < (n : Int) := of_decide_eq_true h4
    exact h4
  · rename_i x1 h1 h2 u1 u2 u3 u4 x2 h3 h4
    obtain ⟨i, M1, c1, S1⟩ := x2
    have h3 : i ≤ n ∧ MSet M1 c1 (badTo n (R.map fun r => r.l) n) ∧ Gth (badL n (R.map fun r => r.l)) S1 := h3
    have h4 : (i : Int) < (n : Int) := of_decide_eq_true h4
    show i < R.length
    omega
  · rename_i x1 h1 h2 u1 u2 u3 u4 x2 h3 h4 r hr
    obtain ⟨i, M1, c1, S1⟩ := x2
    have h3 : i ≤ n ∧ MSet M1 c1 (badTo n (R.map fun r => r.l) n) ∧ Gth (badL n (R.map fun r => r.l)) S1 := h3
    have h4 : (i : Int) < (n : Int) := of_decide_eq_true h4
    change Rw Pg at r
    have hr : R.getD i Rw.nil = r := hr
    have hm : r ∈ R := by rw [← hr]; exact getD_mem (by omega)
    have hk : Rok r := hrok r hm
    have hl : r.l.length < 1000000 := hfew r hm
    have hw : rw (R.map fun r => r.l) i = r.l := by rw [rwR, hr]
    refine Stands.one (i, 0, M1, c1, S1) ⟨⟨by show i < n; omega, Nat.zero_le _, h3.2.1, h3.2.2⟩, ?_⟩
    ((refine Tr.via ?_ ?_ ?_; rotate_left; (as_aux_lemma => ((conv => (rhs; reduce))))); with_reducible repeat' (first | exact Tr.yes_h | refine Tr.and_h ?_ ?_ | refine Tr.imp_h fun _ => ?_ | refine Tr.all_h fun _ => ?_ | refine Tr.lf_h ?_))
    all_goals first | (first | first | (show Region.lexB _ _ = true; kernel_rfl) | (show planned _ _ = true; kernel_rfl) | exact rfl | exact True.intro | (first | exact key3 | exact zeroB | exact zeroR | exact zeroS | exact ⟨key3, zeroB⟩ | exact ⟨key3, zeroR⟩ | exact ⟨key3, zeroS⟩) | ((try dsimp only [imp, C0, cG, cInt, cPl, cSlot, cPg, gwCodec] at *); (try refine inR64 ?_ ?_) <;> (try simp only [List.length_set, List.length_append, List.length_take, List.length_drop]) <;> omega)) | exact fAt_zero | exact fAt_zero.symm
  · rename_i x1 h1 h2 u1 u2 u3 u4 x2 h3 h4 r hr x6 h6 e6 h7
    obtain ⟨i, M1, c1, S1⟩ := x2
    obtain ⟨i6, j, M6, c6, S6⟩ := x6
    obtain rfl : i = i6 := Int.ofNat.inj e6
    have h4 : (i : Int) < (n : Int) := of_decide_eq_true h4
    have h6 : i < n ∧ j ≤ (rw (R.map fun r => r.l) i).length ∧ MSet M6 c6 (badTo n (R.map fun r => r.l) n) ∧ Gth (badL n (R.map fun r => r.l)) S6 := h6
    change Rw Pg at r
    have hr : R.getD i Rw.nil = r := hr
    have hm : r ∈ R := by rw [← hr]; exact getD_mem (by omega)
    have hk : Rok r := hrok r hm
    have hl : r.l.length < 1000000 := hfew r hm
    have hw : rw (R.map fun r => r.l) i = r.l := by rw [rwR, hr]
    rw [hw] at h6
    have h7 : (j : Int) < (r.l.length : Int) := of_decide_eq_true h7
    exact on_of (o := r.on) hk.1 (by show 0 < r.l.length; omega)
  · rename_i x1 h1 h2 u1 u2 u3 u4 x2 h3 h4 r hr x6 h6 e6 h7
    obtain ⟨i, M1, c1, S1⟩ := x2
    obtain ⟨i6, j, M6, c6, S6⟩ := x6
    obtain rfl : i = i6 := Int.ofNat.inj e6
    have h4 : (i : Int) < (n : Int) := of_decide_eq_true h4
    have h6 : i < n ∧ j ≤ (rw (R.map fun r => r.l) i).length ∧ MSet M6 c6 (badTo n (R.map fun r => r.l) n) ∧ Gth (badL n (R.map fun r => r.l)) S6 := h6
    change Rw Pg at r
    have hr : R.getD i Rw.nil = r := hr
    have hm : r ∈ R := by rw [← hr]; exact getD_mem (by omega)
    have hk : Rok r := hrok r hm
    have hl : r.l.length < 1000000 := hfew r hm
    have hw : rw (R.map fun r => r.l) i = r.l := by rw [rwR, hr]
    rw [hw] at h6
    have h7 : (j : Int) < (r.l.length : Int) := of_decide_eq_true h7
    exact h7
  · rename_i x1 h1 h2 u1 u2 u3 u4 x2 h3 h4 r hr x6 h6 e6 h7
    obtain ⟨i, M1, c1, S1⟩ := x2
    obtain ⟨i6, j, M6, c6, S6⟩ := x6
    obtain rfl : i = i6 := Int.ofNat.inj e6
    have h4 : (i : Int) < (n : Int) := of_decide_eq_true h4
    have h6 : i < n ∧ j ≤ (rw (R.map fun r => r.l) i).length ∧ MSet M6 c6 (badTo n (R.map fun r => r.l) n) ∧ Gth (badL n (R.map fun r => r.l)) S6 := h6
    change Rw Pg at r
    have hr : R.getD i Rw.nil = r := hr
    have hm : r ∈ R := by rw [← hr]; exact getD_mem (by omega)
    have hk : Rok r := hrok r hm
    have hl : r.l.length < 1000000 := hfew r hm
    have hw : rw (R.map fun r => r.l) i = r.l := by rw [rwR, hr]
    rw [hw] at h6
    have h7 : (j : Int) < (r.l.length : Int) := of_decide_eq_true h7
    exact on_of (o := r.on) hk.1 (by show 0 < r.l.length; omega)
  · rename_i x1 h1 h2 u1 u2 u3 u4 x2 h3 h4 r hr x6 h6 e6 h7
    obtain ⟨i, M1, c1, S1⟩ := x2
    obtain ⟨i6, j, M6, c6, S6⟩ := x6
    obtain rfl : i = i6 := Int.ofNat.inj e6
    have h4 : (i : Int) < (n : Int) := of_decide_eq_true h4
    have h6 : i < n ∧ j ≤ (rw (R.map fun r => r.l) i).length ∧ MSet M6 c6 (badTo n (R.map fun r => r.l) n) ∧ Gth (badL n (R.map fun r => r.l)) S6 := h6
    change Rw Pg at r
    have hr : R.getD i Rw.nil = r := hr
    have hm : r ∈ R := by rw [← hr]; exact getD_mem (by omega)
    have hk : Rok r := hrok r hm
    have hl : r.l.length < 1000000 := hfew r hm
    have hw : rw (R.map fun r => r.l) i = r.l := by rw [rwR, hr]
    rw [hw] at h6
    have h7 : (j : Int) < (r.l.length : Int) := of_decide_eq_true h7
    show j < r.l.length
    omega
  · rename_i x1 h1 h2 u1 u2 u3 u4 x2 h3 h4 r hr x6 h6 e6 h7 v1 hc
    obtain ⟨i, M1, c1, S1⟩ := x2
    obtain ⟨i6, j, M6, c6, S6⟩ := x6
    obtain rfl : i = i6 := Int.ofNat.inj e6
    have h4 : (i : Int) < (n : Int) := of_decide_eq_true h4
    have h6 : i < n ∧ j ≤ (rw (R.map fun r => r.l) i).length ∧ MSet M6 c6 (badTo n (R.map fun r => r.l) n) ∧ Gth (badL n (R.map fun r => r.l)) S6 := h6
    change Rw Pg at r
    have hr : R.getD i Rw.nil = r := hr
    have hm : r ∈ R := by rw [← hr]; exact getD_mem (by omega)
    have hk : Rok r := hrok r hm
    have hl : r.l.length < 1000000 := hfew r hm
    have hw : rw (R.map fun r => r.l) i = r.l := by rw [rwR, hr]
    rw [hw] at h6
    have h7 : (j : Int) < (r.l.length : Int) := of_decide_eq_true h7
    exact inR64 (by show -9223372036854775808 ≤ (j : Int) + 1; omega) (by show (j : Int) + 1 ≤ 9223372036854775807; omega)
  · rename_i x1 h1 h2 u1 u2 u3 u4 x2 h3 h4 r hr x6 h6 e6 h7 v1 hc
    obtain ⟨i, M1, c1, S1⟩ := x2
    obtain ⟨i6, j, M6, c6, S6⟩ := x6
    obtain rfl : i = i6 := Int.ofNat.inj e6
    have h4 : (i : Int) < (n : Int) := of_decide_eq_true h4
    have h6 : i < n ∧ j ≤ (rw (R.map fun r => r.l) i).length ∧ MSet M6 c6 (badTo n (R.map fun r => r.l) n) ∧ Gth (badL n (R.map fun r => r.l)) S6 := h6
    change Rw Pg at r
    have hr : R.getD i Rw.nil = r := hr
    have hm : r ∈ R := by rw [← hr]; exact getD_mem (by omega)
    have hk : Rok r := hrok r hm
    have hl : r.l.length < 1000000 := hfew r hm
    have hw : rw (R.map fun r => r.l) i = r.l := by rw [rwR, hr]
    rw [hw] at h6
    have h7 : (j : Int) < (r.l.length : Int) := of_decide_eq_true h7
    have hj : j < (rw (R.map fun r => r.l) i).length := by rw [hw]; omega
    have hp : (rw (R.map fun r => r.l) i).getD j pg0 = r.l.getD j pg0 := by rw [hw]
    have hc : ¬ ((rw (R.map fun r => r.l) i).getD j pg0).cl = 1 := by rw [hp]; exact of_decide_eq_true hc
    refine Stands.one (i, j + 1, M6, c6, S6) ⟨⟨by show i < n; omega, by show j + 1 ≤ (rw (R.map fun r => r.l) i).length; omega, h6.2.2⟩, by show (rw (R.map fun r => r.l) i).length - (j + 1) < (rw (R.map fun r => r.l) i).length - j; omega, ?_⟩
    ((refine Tr.via ?_ ?_ ?_; rotate_left; (as_aux_lemma => ((conv => (rhs; reduce))))); with_reducible repeat' (first | exact Tr.yes_h | refine Tr.and_h ?_ ?_ | refine Tr.imp_h fun _ => ?_ | refine Tr.all_h fun _ => ?_ | refine Tr.lf_h ?_))
    all_goals first | (first | first | (show Region.lexB _ _ = true; kernel_rfl) | (show planned _ _ = true; kernel_rfl) | exact rfl | exact True.intro | (first | exact key3 | exact zeroB | exact zeroR | exact zeroS | exact ⟨key3, zeroB⟩ | exact ⟨key3, zeroR⟩ | exact ⟨key3, zeroS⟩) | ((try dsimp only [imp, C0, cG, cInt, cPl, cSlot, cPg, gwCodec] at *); (try refine inR64 ?_ ?_) <;> (try simp only [List.length_set, List.length_append, List.length_take, List.length_drop]) <;> omega)) | exact fAt_torn hj hc | exact (fAt_torn hj hc).symm
  · rename_i x1 h1 h2 u1 u2 u3 u4 x2 h3 h4 r hr x6 h6 e6 h7 v1 hc v2
    have h4 : (x2.1 : Int) < (n : Int) := of_decide_eq_true h4
    exact ⟨by omega, ⟨by omega, h4⟩, hrok⟩
  · rename_i x1 h1 h2 u1 u2 u3 u4 x2 h3 h4 r hr x6 h6 e6 h7 v1 hc v2 hd
    obtain ⟨i, M1, c1, S1⟩ := x2
    obtain ⟨i6, j, M6, c6, S6⟩ := x6
    obtain rfl : i = i6 := Int.ofNat.inj e6
    have h4 : (i : Int) < (n : Int) := of_decide_eq_true h4
    have h6 : i < n ∧ j ≤ (rw (R.map fun r => r.l) i).length ∧ MSet M6 c6 (badTo n (R.map fun r => r.l) n) ∧ Gth (badL n (R.map fun r => r.l)) S6 := h6
    change Rw Pg at r
    have hr : R.getD i Rw.nil = r := hr
    have hm : r ∈ R := by rw [← hr]; exact getD_mem (by omega)
    have hk : Rok r := hrok r hm
    have hl : r.l.length < 1000000 := hfew r hm
    have hw : rw (R.map fun r => r.l) i = r.l := by rw [rwR, hr]
    rw [hw] at h6
    have h7 : (j : Int) < (r.l.length : Int) := of_decide_eq_true h7
    exact inR64 (by show -9223372036854775808 ≤ (j : Int) + 1; omega) (by show (j : Int) + 1 ≤ 9223372036854775807; omega)
  · rename_i x1 h1 h2 u1 u2 u3 u4 x2 h3 h4 r hr x6 h6 e6 h7 v1 hc v2 hd
    obtain ⟨i, M1, c1, S1⟩ := x2
    obtain ⟨i6, j, M6, c6, S6⟩ := x6
    obtain rfl : i = i6 := Int.ofNat.inj e6
    have h4 : (i : Int) < (n : Int) := of_decide_eq_true h4
    have h6 : i < n ∧ j ≤ (rw (R.map fun r => r.l) i).length ∧ MSet M6 c6 (badTo n (R.map fun r => r.l) n) ∧ Gth (badL n (R.map fun r => r.l)) S6 := h6
    change Rw Pg at r
    have hr : R.getD i Rw.nil = r := hr
    have hm : r ∈ R := by rw [← hr]; exact getD_mem (by omega)
    have hk : Rok r := hrok r hm
    have hl : r.l.length < 1000000 := hfew r hm
    have hw : rw (R.map fun r => r.l) i = r.l := by rw [rwR, hr]
    rw [hw] at h6
    have h7 : (j : Int) < (r.l.length : Int) := of_decide_eq_true h7
    have hj : j < (rw (R.map fun r => r.l) i).length := by rw [hw]; omega
    have hp : (rw (R.map fun r => r.l) i).getD j pg0 = r.l.getD j pg0 := by rw [hw]
    have hcn : cntF n (R.map fun r => r.l) i (rw (R.map fun r => r.l) i) = (isHd i (R.getD i Rw.nil).l && !mgetB M6 i) := by rw [h6.2.2.1.get, ← rwR]
    have hc : ((rw (R.map fun r => r.l) i).getD j pg0).cl = 1 := by rw [hp]; exact Decidable.of_not_not (of_decide_eq_false hc)
    have a1 := fAt_yes (h := mxH Me.seq) (f := allF) hj rfl hc
    have a2 := fAt_yes (h := mxH Me.stamp) (f := allF) hj rfl hc
    have a3 := fAt_yes (h := mxH Me.batch) (f := allF) hj rfl hc
    rw [hp] at a1 a2 a3
    have hd : cntF n (R.map fun r => r.l) i (rw (R.map fun r => r.l) i) = false := by rw [hcn]; exact not_t hd
    have a4 := fAt_off (h := flH) (f := cntF n (R.map fun r => r.l)) (j := j) hd
    refine Stands.one (i, j + 1, M6, c6, S6) ⟨⟨by show i < n; omega, by show j + 1 ≤ (rw (R.map fun r => r.l) i).length; omega, h6.2.2⟩, by show (rw (R.map fun r => r.l) i).length - (j + 1) < (rw (R.map fun r => r.l) i).length - j; omega, ?_⟩
    ((refine Tr.via ?_ ?_ ?_; rotate_left; (as_aux_lemma => ((conv => (rhs; reduce))))); with_reducible repeat' (first | exact Tr.yes_h | refine Tr.and_h ?_ ?_ | refine Tr.imp_h fun _ => ?_ | refine Tr.all_h fun _ => ?_ | refine Tr.lf_h ?_))
    all_goals first | (first | first | (show Region.lexB _ _ = true; kernel_rfl) | (show planned _ _ = true; kernel_rfl) | exact rfl | exact True.intro | (first | exact key3 | exact zeroB | exact zeroR | exact zeroS | exact ⟨key3, zeroB⟩ | exact ⟨key3, zeroR⟩ | exact ⟨key3, zeroS⟩) | ((try dsimp only [imp, C0, cG, cInt, cPl, cSlot, cPg, gwCodec] at *); (try refine inR64 ?_ ?_) <;> (try simp only [List.length_set, List.length_append, List.length_take, List.length_drop]) <;> omega)) | exact a1 | exact a1.symm | exact a2 | exact a2.symm | exact a3 | exact a3.symm | exact a4 | exact a4.symm
  · rename_i x1 h1 h2 u1 u2 u3 u4 x2 h3 h4 r hr x6 h6 e6 h7 v1 hc v2 hd hk4
    obtain ⟨i, M1, c1, S1⟩ := x2
    obtain ⟨i6, j, M6, c6, S6⟩ := x6
    obtain rfl : i = i6 := Int.ofNat.inj e6
    have h4 : (i : Int) < (n : Int) := of_decide_eq_true h4
    have h6 : i < n ∧ j ≤ (rw (R.map fun r => r.l) i).length ∧ MSet M6 c6 (badTo n (R.map fun r => r.l) n) ∧ Gth (badL n (R.map fun r => r.l)) S6 := h6
    change Rw Pg at r
    have hr : R.getD i Rw.nil = r := hr
    have hm : r ∈ R := by rw [← hr]; exact getD_mem (by omega)
    have hk : Rok r := hrok r hm
    have hl : r.l.length < 1000000 := hfew r hm
    have hw : rw (R.map fun r => r.l) i = r.l := by rw [rwR, hr]
    rw [hw] at h6
    have h7 : (j : Int) < (r.l.length : Int) := of_decide_eq_true h7
    exact inR64 (by show -9223372036854775808 ≤ (j : Int) + 1; omega) (by show (j : Int) + 1 ≤ 9223372036854775807; omega)
  · rename_i x1 h1 h2 u1 u2 u3 u4 x2 h3 h4 r hr x6 h6 e6 h7 v1 hc v2 hd hk4
    obtain ⟨i, M1, c1, S1⟩ := x2
    obtain ⟨i6, j, M6, c6, S6⟩ := x6
    obtain rfl : i = i6 := Int.ofNat.inj e6
    have h4 : (i : Int) < (n : Int) := of_decide_eq_true h4
    have h6 : i < n ∧ j ≤ (rw (R.map fun r => r.l) i).length ∧ MSet M6 c6 (badTo n (R.map fun r => r.l) n) ∧ Gth (badL n (R.map fun r => r.l)) S6 := h6
    change Rw Pg at r
    have hr : R.getD i Rw.nil = r := hr
    have hm : r ∈ R := by rw [← hr]; exact getD_mem (by omega)
    have hk : Rok r := hrok r hm
    have hl : r.l.length < 1000000 := hfew r hm
    have hw : rw (R.map fun r => r.l) i = r.l := by rw [rwR, hr]
    rw [hw] at h6
    have h7 : (j : Int) < (r.l.length : Int) := of_decide_eq_true h7
    have hj : j < (rw (R.map fun r => r.l) i).length := by rw [hw]; omega
    have hp : (rw (R.map fun r => r.l) i).getD j pg0 = r.l.getD j pg0 := by rw [hw]
    have hcn : cntF n (R.map fun r => r.l) i (rw (R.map fun r => r.l) i) = (isHd i (R.getD i Rw.nil).l && !mgetB M6 i) := by rw [h6.2.2.1.get, ← rwR]
    have hc : ((rw (R.map fun r => r.l) i).getD j pg0).cl = 1 := by rw [hp]; exact Decidable.of_not_not (of_decide_eq_false hc)
    have a1 := fAt_yes (h := mxH Me.seq) (f := allF) hj rfl hc
    have a2 := fAt_yes (h := mxH Me.stamp) (f := allF) hj rfl hc
    have a3 := fAt_yes (h := mxH Me.batch) (f := allF) hj rfl hc
    rw [hp] at a1 a2 a3
    have hd : cntF n (R.map fun r => r.l) i (rw (R.map fun r => r.l) i) = true := by rw [hcn]; exact not_f hd
    have a4 := fAt_yes (h := flH) (f := cntF n (R.map fun r => r.l)) hj hd hc
    rw [hp] at a4
    simp only [flH] at a4
    have hk4 : (r.l.getD j pg0).me.kind = 4 := of_decide_eq_true hk4
    rw [if_pos hk4] at a4
    refine Stands.one (i, j + 1, M6, c6, S6) ⟨⟨by show i < n; omega, by show j + 1 ≤ (rw (R.map fun r => r.l) i).length; omega, h6.2.2⟩, by show (rw (R.map fun r => r.l) i).length - (j + 1) < (rw (R.map fun r => r.l) i).length - j; omega, ?_⟩
    ((refine Tr.via ?_ ?_ ?_; rotate_left; (as_aux_lemma => ((conv => (rhs; reduce))))); with_reducible repeat' (first | exact Tr.yes_h | refine Tr.and_h ?_ ?_ | refine Tr.imp_h fun _ => ?_ | refine Tr.all_h fun _ => ?_ | refine Tr.lf_h ?_))
    all_goals first | (first | first | (show Region.lexB _ _ = true; kernel_rfl) | (show planned _ _ = true; kernel_rfl) | exact rfl | exact True.intro | (first | exact key3 | exact zeroB | exact zeroR | exact zeroS | exact ⟨key3, zeroB⟩ | exact ⟨key3, zeroR⟩ | exact ⟨key3, zeroS⟩) | ((try dsimp only [imp, C0, cG, cInt, cPl, cSlot, cPg, gwCodec] at *); (try refine inR64 ?_ ?_) <;> (try simp only [List.length_set, List.length_append, List.length_take, List.length_drop]) <;> omega)) | exact a1 | exact a1.symm | exact a2 | exact a2.symm | exact a3 | exact a3.symm | exact a4 | exact a4.symm
  · rename_i x1 h1 h2 u1 u2 u3 u4 x2 h3 h4 r hr x6 h6 e6 h7 v1 hc v2 hd hk4
    obtain ⟨i, M1, c1, S1⟩ := x2
    obtain ⟨i6, j, M6, c6, S6⟩ := x6
    obtain rfl : i = i6 := Int.ofNat.inj e6
    have h4 : (i : Int) < (n : Int) := of_decide_eq_true h4
    have h6 : i < n ∧ j ≤ (rw (R.map fun r => r.l) i).length ∧ MSet M6 c6 (badTo n (R.map fun r => r.l) n) ∧ Gth (badL n (R.map fun r => r.l)) S6 := h6
    change Rw Pg at r
    have hr : R.getD i Rw.nil = r := hr
    have hm : r ∈ R := by rw [← hr]; exact getD_mem (by omega)
    have hk : Rok r := hrok r hm
    have hl : r.l.length < 1000000 := hfew r hm
    have hw : rw (R.map fun r => r.l) i = r.l := by rw [rwR, hr]
    rw [hw] at h6
    have h7 : (j : Int) < (r.l.length : Int) := of_decide_eq_true h7
    exact inR64 (by show -9223372036854775808 ≤ (j : Int) + 1; omega) (by show (j : Int) + 1 ≤ 9223372036854775807; omega)
  · rename_i x1 h1 h2 u1 u2 u3 u4 x2 h3 h4 r hr x6 h6 e6 h7 v1 hc v2 hd hk4
    obtain ⟨i, M1, c1, S1⟩ := x2
    obtain ⟨i6, j, M6, c6, S6⟩ := x6
    obtain rfl : i = i6 := Int.ofNat.inj e6
    have h4 : (i : Int) < (n : Int) := of_decide_eq_true h4
    have h6 : i < n ∧ j ≤ (rw (R.map fun r => r.l) i).length ∧ MSet M6 c6 (badTo n (R.map fun r => r.l) n) ∧ Gth (badL n (R.map fun r => r.l)) S6 := h6
    change Rw Pg at r
    have hr : R.getD i Rw.nil = r := hr
    have hm : r ∈ R := by rw [← hr]; exact getD_mem (by omega)
    have hk : Rok r := hrok r hm
    have hl : r.l.length < 1000000 := hfew r hm
    have hw : rw (R.map fun r => r.l) i = r.l := by rw [rwR, hr]
    rw [hw] at h6
    have h7 : (j : Int) < (r.l.length : Int) := of_decide_eq_true h7
    have hj : j < (rw (R.map fun r => r.l) i).length := by rw [hw]; omega
    have hp : (rw (R.map fun r => r.l) i).getD j pg0 = r.l.getD j pg0 := by rw [hw]
    have hcn : cntF n (R.map fun r => r.l) i (rw (R.map fun r => r.l) i) = (isHd i (R.getD i Rw.nil).l && !mgetB M6 i) := by rw [h6.2.2.1.get, ← rwR]
    have hc : ((rw (R.map fun r => r.l) i).getD j pg0).cl = 1 := by rw [hp]; exact Decidable.of_not_not (of_decide_eq_false hc)
    have a1 := fAt_yes (h := mxH Me.seq) (f := allF) hj rfl hc
    have a2 := fAt_yes (h := mxH Me.stamp) (f := allF) hj rfl hc
    have a3 := fAt_yes (h := mxH Me.batch) (f := allF) hj rfl hc
    rw [hp] at a1 a2 a3
    have hd : cntF n (R.map fun r => r.l) i (rw (R.map fun r => r.l) i) = true := by rw [hcn]; exact not_f hd
    have a4 := fAt_yes (h := flH) (f := cntF n (R.map fun r => r.l)) hj hd hc
    rw [hp] at a4
    simp only [flH] at a4
    have hk4 : ¬ (r.l.getD j pg0).me.kind = 4 := of_decide_eq_false hk4
    rw [if_neg hk4] at a4
    refine Stands.one (i, j + 1, M6, c6, S6) ⟨⟨by show i < n; omega, by show j + 1 ≤ (rw (R.map fun r => r.l) i).length; omega, h6.2.2⟩, by show (rw (R.map fun r => r.l) i).length - (j + 1) < (rw (R.map fun r => r.l) i).length - j; omega, ?_⟩
    ((refine Tr.via ?_ ?_ ?_; rotate_left; (as_aux_lemma => ((conv => (rhs; reduce))))); with_reducible repeat' (first | exact Tr.yes_h | refine Tr.and_h ?_ ?_ | refine Tr.imp_h fun _ => ?_ | refine Tr.all_h fun _ => ?_ | refine Tr.lf_h ?_))
    all_goals first | (first | first | (show Region.lexB _ _ = true; kernel_rfl) | (show planned _ _ = true; kernel_rfl) | exact rfl | exact True.intro | (first | exact key3 | exact zeroB | exact zeroR | exact zeroS | exact ⟨key3, zeroB⟩ | exact ⟨key3, zeroR⟩ | exact ⟨key3, zeroS⟩) | ((try dsimp only [imp, C0, cG, cInt, cPl, cSlot, cPg, gwCodec] at *); (try refine inR64 ?_ ?_) <;> (try simp only [List.length_set, List.length_append, List.length_take, List.length_drop]) <;> omega)) | exact a1 | exact a1.symm | exact a2 | exact a2.symm | exact a3 | exact a3.symm | exact a4 | exact a4.symm
  · rename_i x1 h1 h2 u1 u2 u3 u4 x2 h3 h4 r hr x6 h6 e6 h7
    obtain ⟨i, M1, c1, S1⟩ := x2
    obtain ⟨i6, j, M6, c6, S6⟩ := x6
    obtain rfl : i = i6 := Int.ofNat.inj e6
    have h4 : (i : Int) < (n : Int) := of_decide_eq_true h4
    have h6 : i < n ∧ j ≤ (rw (R.map fun r => r.l) i).length ∧ MSet M6 c6 (badTo n (R.map fun r => r.l) n) ∧ Gth (badL n (R.map fun r => r.l)) S6 := h6
    change Rw Pg at r
    have hr : R.getD i Rw.nil = r := hr
    have hm : r ∈ R := by rw [← hr]; exact getD_mem (by omega)
    have hk : Rok r := hrok r hm
    have hl : r.l.length < 1000000 := hfew r hm
    have hw : rw (R.map fun r => r.l) i = r.l := by rw [rwR, hr]
    rw [hw] at h6
    have h7 : ¬ (j : Int) < (r.l.length : Int) := of_decide_eq_false h7
    exact inR64 (by show -9223372036854775808 ≤ (i : Int) + 1; omega) (by show (i : Int) + 1 ≤ 9223372036854775807; omega)
  · rename_i x1 h1 h2 u1 u2 u3 u4 x2 h3 h4 r hr x6 h6 e6 h7
    obtain ⟨i, M1, c1, S1⟩ := x2
    obtain ⟨i6, j, M6, c6, S6⟩ := x6
    obtain rfl : i = i6 := Int.ofNat.inj e6
    have h4 : (i : Int) < (n : Int) := of_decide_eq_true h4
    have h6 : i < n ∧ j ≤ (rw (R.map fun r => r.l) i).length ∧ MSet M6 c6 (badTo n (R.map fun r => r.l) n) ∧ Gth (badL n (R.map fun r => r.l)) S6 := h6
    change Rw Pg at r
    have hr : R.getD i Rw.nil = r := hr
    have hm : r ∈ R := by rw [← hr]; exact getD_mem (by omega)
    have hk : Rok r := hrok r hm
    have hl : r.l.length < 1000000 := hfew r hm
    have hw : rw (R.map fun r => r.l) i = r.l := by rw [rwR, hr]
    rw [hw] at h6
    have h7 : ¬ (j : Int) < (r.l.length : Int) := of_decide_eq_false h7
    have hle : (rw (R.map fun r => r.l) i).length ≤ j := by rw [hw]; omega
    refine Stands.one (i + 1, M6, c6, S6) ⟨⟨by show i + 1 ≤ n; omega, h6.2.2⟩, by show n - (i + 1) < n - i; omega, ?_⟩
    ((refine Tr.via ?_ ?_ ?_; rotate_left; (as_aux_lemma => ((conv => (rhs; reduce))))); with_reducible repeat' (first | exact Tr.yes_h | refine Tr.and_h ?_ ?_ | refine Tr.imp_h fun _ => ?_ | refine Tr.all_h fun _ => ?_ | refine Tr.lf_h ?_))
    all_goals first | (first | first | (show Region.lexB _ _ = true; kernel_rfl) | (show planned _ _ = true; kernel_rfl) | exact rfl | exact True.intro | (first | exact key3 | exact zeroB | exact zeroR | exact zeroS | exact ⟨key3, zeroB⟩ | exact ⟨key3, zeroR⟩ | exact ⟨key3, zeroS⟩) | ((try dsimp only [imp, C0, cG, cInt, cPl, cSlot, cPg, gwCodec] at *); (try refine inR64 ?_ ?_) <;> (try simp only [List.length_set, List.length_append, List.length_take, List.length_drop]) <;> omega)) | exact fAt_all hle | exact (fAt_all hle).symm
  · rename_i x1 h1 h2 u1 u2 u3 u4 x2 h3 h4
    obtain ⟨i, M1, c1, S1⟩ := x2
    have h3 : i ≤ n ∧ MSet M1 c1 (badTo n (R.map fun r => r.l) n) ∧ Gth (badL n (R.map fun r => r.l)) S1 := h3
    have h4 : ¬ (i : Int) < (n : Int) := of_decide_eq_false h4
    have e : i = n := by omega
    subst e
    refine Ends.one (M1, c1, S1) ⟨h3.2.1, h3.2.2⟩ ?_
    ((refine Tr.via ?_ ?_ ?_; rotate_left; (as_aux_lemma => ((conv => (rhs; reduce))))); with_reducible repeat' (first | exact Tr.yes_h | refine Tr.and_h ?_ ?_ | refine Tr.imp_h fun _ => ?_ | refine Tr.all_h fun _ => ?_ | refine Tr.lf_h ?_))
    all_goals (first | first | (show Region.lexB _ _ = true; kernel_rfl) | (show planned _ _ = true; kernel_rfl) | exact rfl | exact True.intro | (first | exact key3 | exact zeroB | exact zeroR | exact zeroS | exact ⟨key3, zeroB⟩ | exact ⟨key3, zeroR⟩ | exact ⟨key3, zeroS⟩) | ((try dsimp only [imp, C0, cG, cInt, cPl, cSlot, cPg, gwCodec] at *); (try refine inR64 ?_ ?_) <;> (try simp only [List.length_set, List.length_append, List.length_take, List.length_drop]) <;> omega))
end Go.Vx
set_option maxRecDepth 100000
namespace Go.Vx
open Go Go.Proofs
variable [Gl]

/-- A geometry's numbers. -/
structure Geo where
  bs : Int
  ps : Int
  ss : Int
structure Geo.ok (g : Geo) : Prop where
  bs : 0 ≤ g.bs ∧ g.bs ≤ 64
  ps : 0 ≤ g.ps ∧ g.ps ≤ 64
  ss : 0 ≤ g.ss ∧ g.ss ≤ 536870912
abbrev gKey (g : Geo) (p : Pg) : Int := keyV g.bs g.ps g.ss p.me
/-- Has a page a key, and is it whole. -/
def kyF (g : Geo) (p : Pg) : Bool := keyH g.bs g.ps g.ss p.me && decide (p.cl = 1)
@[irreducible] def kyd (g : Geo) (P : List Pg) : List Pg := P.filter (kyF g)
@[irreducible] def keyD (g : Geo) (P : List Pg) : List Int := (kyd g P).map (gKey g)
@[irreducible] def grpL (g : Geo) (P : List Pg) (k : Int) : List Pg := (kyd g P).filter fun p => decide (gKey g p = k)
/-- A whole page that is not alive. -/
def orF (f : Int) (p : Pg) : Bool := decide (p.cl = 1) && !alive p.me f
@[irreducible] def orfL (f : Int) (P : List Pg) : List Pl := (P.filter (orF f)).map fun p => p.pl
/-- The keys, rising. -/
@[irreducible] def keyL (g : Geo) (P : List Pg) : List Int := (upTo (g.ss + g.bs + g.ps + 1).toNat).filter fun k => decide (k ∈ keyD g P)
def sloOf (g : Geo) (f : Int) (P : List Pg) (k : Int) : Slot := ⟨k, (winP f (grpL g P k)).pl, (winP f (grpL g P k)).me⟩
@[irreducible] def sloL (g : Geo) (f : Int) (P : List Pg) (K : List Int) : List Slot := (K.filter fun k => winB f (grpL g P k)).map (sloOf g f P)
section
variable {g : Geo} {f : Int} {P : List Pg} {p : Pg}
theorem kyd_yes (h : kyF g p = true) : kyd g (P ++ [p]) = kyd g P ++ [p] := by
  unfold kyd
  rw [List.filter_append, List.filter_cons_of_pos h, List.filter_nil]
theorem kyd_no (h : kyF g p = false) : kyd g (P ++ [p]) = kyd g P := by
  unfold kyd
  rw [List.filter_append, List.filter_cons_of_neg (by rw [h]; exact Bool.false_ne_true), List.filter_nil, List.append_nil]
theorem keyD_yes (h : kyF g p = true) : keyD g (P ++ [p]) = keyD g P ++ [gKey g p] := by
  unfold keyD
  rw [kyd_yes h, List.map_append]; rfl
theorem keyD_no (h : kyF g p = false) : keyD g (P ++ [p]) = keyD g P := by unfold keyD; rw [kyd_no h]
theorem keyD_nil : keyD g [] = [] := by unfold keyD kyd; rfl
theorem grpL_same (h : kyF g p = true) : grpL g (P ++ [p]) (gKey g p) = grpL g P (gKey g p) ++ [p] := by
  unfold grpL
  rw [kyd_yes h, List.filter_append, List.filter_cons_of_pos (p := fun q => decide (gKey g q = gKey g p)) (decide_eq_true rfl), List.filter_nil]
theorem grpL_other {k : Int} (h : gKey g p ≠ k) : grpL g (P ++ [p]) k = grpL g P k := by
  unfold grpL
  cases hf : kyF g p with
  | true => rw [kyd_yes hf, List.filter_append, List.filter_cons_of_neg (by rw [decide_eq_false h]; exact Bool.false_ne_true), List.filter_nil, List.append_nil]
  | false => rw [kyd_no hf]
theorem grpL_no {k : Int} (h : kyF g p = false) : grpL g (P ++ [p]) k = grpL g P k := by
  unfold grpL
  rw [kyd_no h]
theorem grpL_len {k : Int} : (grpL g P k).length ≤ P.length := by
  unfold grpL kyd
  exact Nat.le_trans (List.length_filter_le _ _) (List.length_filter_le _ _)
theorem grpL_none {k : Int} (h : k ∉ keyD g P) : grpL g P k = [] := by
  unfold grpL
  rw [List.filter_eq_nil_iff]
  intro q hq e
  exact h (by unfold keyD; exact List.mem_map.2 ⟨q, hq, of_decide_eq_true e⟩)
theorem mem_grpL {k : Int} {q : Pg} : q ∈ grpL g P k ↔ q ∈ P ∧ kyF g q = true ∧ gKey g q = k := by
  unfold grpL kyd
  rw [List.mem_filter, List.mem_filter, decide_eq_true_eq, and_assoc]
theorem orfL_nil : orfL f [] = [] := by unfold orfL; rfl
theorem orfL_yes (h : orF f p = true) : orfL f (P ++ [p]) = orfL f P ++ [p.pl] := by
  unfold orfL
  rw [List.filter_append, List.filter_cons_of_pos h, List.filter_nil, List.map_append]; rfl
theorem orfL_no (h : orF f p = false) : orfL f (P ++ [p]) = orfL f P := by
  unfold orfL
  rw [List.filter_append, List.filter_cons_of_neg (by rw [h]; exact Bool.false_ne_true), List.filter_nil, List.append_nil]
theorem orfL_len : (orfL f P).length ≤ P.length := by
  unfold orfL
  rw [List.length_map]; exact List.length_filter_le _ _
theorem keyV_range (h : g.ok) (hk : keyH g.bs g.ps g.ss p.me = true) : 0 ≤ gKey g p ∧ gKey g p < g.ss + g.bs + g.ps + 1 := by
  obtain ⟨⟨h1, h2⟩, ⟨h3, h4⟩, h5, h6⟩ := h
  unfold keyH at hk
  unfold gKey keyV
  by_cases h4 : p.me.kind = 4
  · rw [if_pos h4]; omega
  · rw [if_neg h4] at hk ⊢
    have a := of_decide_eq_true (and_l hk)
    have b := of_decide_eq_true (and_r hk)
    have hN : 0 ≤ (keyN g.bs g.ps g.ss p.me).1 ∧ (keyN g.bs g.ps g.ss p.me).1 + (keyN g.bs g.ps g.ss p.me).2 ≤ g.ss + g.bs + g.ps := by
      unfold keyN
      split
      · exact ⟨Int.le_refl 0, by show 0 + g.ss ≤ _; omega⟩
      · split
        · exact ⟨h5, by show g.ss + g.bs ≤ _; omega⟩
        · split
          · exact ⟨by show 0 ≤ g.ss + g.bs; omega, by show g.ss + g.bs + g.ps ≤ _; omega⟩
          · exact ⟨Int.le_refl 0, by show (0 : Int) + 0 ≤ _; omega⟩
    have hw : IntKind.wrap .i64 ((keyN g.bs g.ps g.ss p.me).1 + p.me.key) = (keyN g.bs g.ps g.ss p.me).1 + p.me.key := inR64 (by omega) (by omega)
    rw [hw]
    omega
theorem mem_keyL (h : g.ok) {k : Int} : k ∈ keyL g P ↔ k ∈ keyD g P := by
  unfold keyL
  rw [List.mem_filter, mem_upTo, decide_eq_true_eq]
  refine ⟨fun h => h.2, fun hk => ⟨?_, hk⟩⟩
  unfold keyD kyd at hk
  obtain ⟨p, hp, rfl⟩ := List.mem_map.1 hk
  have := (List.mem_filter.1 hp).2
  have hr := keyV_range h (and_l this)
  omega
theorem rise_keyL : Rise (keyL g P) := by unfold keyL; exact (rise_upTo _).filter _
theorem sloL_zero {K : List Int} : sloL g f P (K.take 0) = [] := by unfold sloL; rfl
theorem sloL_yes {K : List Int} {j : Nat} (h : j < K.length) (hw : winB f (grpL g P (K.getD j 0)) = true) : sloL g f P (K.take (j + 1)) = sloL g f P (K.take j) ++ [sloOf g f P (K.getD j 0)] := by
  unfold sloL
  rw [take_snoc (d := 0) h, List.filter_append, List.filter_cons_of_pos (p := fun k => winB f (grpL g P k)) hw, List.filter_nil, List.map_append]; rfl
theorem sloL_no {K : List Int} {j : Nat} (h : j < K.length) (hw : winB f (grpL g P (K.getD j 0)) = false) : sloL g f P (K.take (j + 1)) = sloL g f P (K.take j) := by
  unfold sloL
  rw [take_snoc (d := 0) h, List.filter_append, List.filter_cons_of_neg (by rw [hw]; exact Bool.false_ne_true), List.filter_nil, List.append_nil]
end
/-- A block that no page that came in lies in, nor where they are told. -/
structure Far (x : Cx) (b : Nat) : Prop where
  grid : b ≠ x.bg
  skip : x.so = true → b ≠ x.sb
  row : ∀ y ∈ x.R, b ∉ y.blks
/-- The map of the keys' pages. -/
structure AOK (x : Cx) (g : Geo) (P : List Pg) (A : MpG) (clk : Nat) : Prop where
  keys : MKeys (d := C0 33) A clk (keyD g P)
  row : ∀ e ∈ A, e.2.1.on = true ∧ e.2.1.l = grpL g P e.1 ∧ e.2.1.l.length ≤ e.2.1.m ∧ Far x e.2.1.b
  two : ∀ e ∈ A, ∀ e' ∈ A, e.1 ≠ e'.1 → e.2.1.b ≠ e'.2.1.b
abbrev mgetG (A : MpG) (k : Int) : Rw Pg := mget (C0 3) (C0 33) A k
abbrev mputG (A : MpG) (k : Int) (r : Rw Pg) (clk : Nat) : MpG := mput (C0 3) (C0 33) A k r clk
section
variable {x : Cx} {g : Geo} {P : List Pg} {A : MpG} {clk : Nat}
theorem AOK.nil : AOK x g [] [] 0 := ⟨by rw [keyD_nil]; exact MKeys.nil, fun e he => (by cases he), fun e he => (by cases he)⟩
theorem AOK.no (h : AOK x g P A clk) {p : Pg} (hp : kyF g p = false) : AOK x g (P ++ [p]) A clk :=
  ⟨by rw [keyD_no hp]; exact h.keys, fun e he => by rw [grpL_no hp]; exact h.row e he, h.two⟩
theorem AOK.get (h : AOK x g P A clk) (k : Int) : (∃ e ∈ A, e.1 = k ∧ mgetG A k = e.2.1) ∨ (mgetG A k = Rw.nil ∧ k ∉ keyD g P) := by
  by_cases hk : k ∈ keyD g P
  · exact .inl (mget_ent (d := C0 33) ((h.keys.mem k).2 hk))
  · exact .inr ⟨mget_no (d := C0 33) fun hm => hk ((h.keys.mem k).1 hm), hk⟩
theorem AOK.rowl (h : AOK x g P A clk) (k : Int) : (mgetG A k).l = grpL g P k ∧ ((mgetG A k).on = false → (mgetG A k).l.length = 0 ∧ (mgetG A k).m = 0) ∧ (mgetG A k).l.length ≤ (mgetG A k).m := by
  rcases h.get k with ⟨e, he, rfl, hr⟩ | ⟨hr, hk⟩
  · rw [hr]
    obtain ⟨h1, h2, h3, h4⟩ := h.row e he
    exact ⟨h2, fun h0 => (by rw [h1] at h0; cases h0), h3⟩
  · rw [hr, grpL_none hk]
    exact ⟨rfl, fun _ => ⟨rfl, rfl⟩, Nat.le_refl _⟩
/-- One more page in the map. -/
theorem AOK.put (h : AOK x g P A clk) {p : Pg} (hp : kyF g p = true) {b q c : Nat} (hc : (grpL g P (gKey g p)).length + 1 ≤ c)
    (hb : ((mgetG A (gKey g p)).on = true ∧ b = (mgetG A (gKey g p)).b) ∨ (Far x b ∧ ∀ e ∈ A, b ∉ e.2.1.blks)) :
    AOK x g (P ++ [p]) (mputG A (gKey g p) ⟨true, b, q, c, grpL g P (gKey g p) ++ [p]⟩ clk) (mclk (C0 3) (C0 33) A (gKey g p) clk) := by
  have hfar : Far x b ∧ ∀ e ∈ A, e.1 ≠ gKey g p → e.2.1.b ≠ b := by
    rcases hb with ⟨h1, rfl⟩ | ⟨h1, h2⟩
    · rcases h.get (gKey g p) with ⟨e, he, hk, hr⟩ | ⟨hr, _⟩
      · rw [hr]
        exact ⟨(h.row e he).2.2.2, fun e' he' hne => h.two e' he' e he (by rw [hk]; exact hne)⟩
      · rw [hr] at h1; cases h1
    · exact ⟨h1, fun e he _ hbe => h2 e he (by rw [← hbe]; unfold Rw.blks; rw [(h.row e he).1]; exact List.mem_singleton.2 rfl)⟩
  refine ⟨by rw [keyD_yes hp]; exact h.keys.put _ _, fun e he => ?_, fun e he e' he' hne => ?_⟩
  · rcases mput_ent h.keys.nd he with ⟨h1, h2⟩ | ⟨h1, h2⟩
    · have h1 : e.1 = gKey g p := h1
      rw [h2, h1, grpL_same hp]
      exact ⟨rfl, rfl, by show (_ ++ [p]).length ≤ c; simp; omega, hfar.1⟩
    · have h1 : e.1 ≠ gKey g p := h1
      rw [grpL_other (Ne.symm h1)]
      exact h.row e h2
  · rcases mput_ent h.keys.nd he with ⟨h1, h2⟩ | ⟨h1, h2⟩ <;> rcases mput_ent h.keys.nd he' with ⟨h3, h4⟩ | ⟨h3, h4⟩
    · exact absurd (h1.trans h3.symm) hne
    · rw [h2]
      exact Ne.symm (hfar.2 e' h4 h3)
    · rw [h4]
      exact hfar.2 e h2 h1
    · exact h.two e h2 e' h4 hne
/-- Where a key's pages stand in the map, and no others there. -/
theorem AOK.excl (h : AOK x g P A clk) {k : Int} (hon : (mgetG A k).on = true) : ∃ i, i < (A.map fun e => e.2.1).length ∧ (A.map fun e => e.2.1).getD i Rw.nil = mgetG A k ∧
    ∀ j, j < (A.map fun e => e.2.1).length → j ≠ i → (mgetG A k).b ∉ ((A.map fun e => e.2.1).getD j Rw.nil).blks := by
  rcases h.get k with ⟨e, he, rfl, hr⟩ | ⟨hr, _⟩
  · obtain ⟨i, hi, hie⟩ := List.getElem_of_mem he
    have hg : ∀ j (hj : j < A.length), (A.map fun e => e.2.1).getD j Rw.nil = A[j].2.1 := by
      intro j hj
      rw [List.getD_eq_getElem?_getD, List.getElem?_map, List.getElem?_eq_getElem hj]; rfl
    refine ⟨i, by rw [List.length_map]; exact hi, by rw [hg i hi, hie, hr], fun j hj hne hb => ?_⟩
    rw [List.length_map] at hj
    rw [hg j hj, hr] at hb
    have hrow := h.row A[j] (List.getElem_mem hj)
    unfold Rw.blks at hb
    rw [hrow.1] at hb
    have hb : e.2.1.b = A[j].2.1.b := List.mem_singleton.1 hb
    refine h.two e he A[j] (List.getElem_mem hj) (fun hk => hne ?_) hb
    have hnd := h.keys.nd
    have h1 : (A.map fun e => (e.1 : Int))[j]'(by rw [List.length_map]; exact hj) = (A.map fun e => (e.1 : Int))[i]'(by rw [List.length_map]; exact hi) := by
      rw [List.getElem_map, List.getElem_map, hie]; exact hk.symm
    exact (List.getElem_inj hnd).1 h1
  · rw [hr] at hon; cases hon
end
end Go.Vx
set_option maxRecDepth 100000
namespace Go.Vx
open Go Go.Proofs
variable [Gl]

theorem freshL_to {b : Nat} : ∀ {m : List (Ck C0)}, allOf (freshL b m) → ∀ i, i < m.length → ((nth m i).live = true → (nth m i).block ≠ b) ∧ ∀ t y, (nth m i).cells.Has t y → b ∉ (C0 t).blks y
  | x :: r, h, i, hi => by
    obtain ⟨h1, h2⟩ := (allOf_append _ _).1 h
    obtain ⟨h2, h3⟩ := (allOf_append _ _).1 h2
    cases i with
    | zero => exact ⟨fun hl => ckOff_to h1 hl, fun t y hy => ckOffD_to h2 hy⟩
    | succ i => exact freshL_to h3 i (by simpa using hi)
theorem pgsTo_len {f : Nat → List Pg → Bool} {Q : List (List Pg)} (h : ∀ i, (rw Q i).length ≤ 1000000) : ∀ i, (pgsTo f Q i).length ≤ i * 1000000
  | 0 => Nat.le_refl _
  | i + 1 => by
    have h1 := pgsTo_len (f := f) h i
    have h2 := h i
    rw [pgsTo, List.length_append]
    have h3 : (if f i (rw Q i) then rw Q i else []).length ≤ 1000000 := by
      cases f i (rw Q i) with
      | true => exact h2
      | false => exact Nat.zero_le _
    rw [Nat.succ_mul]
    exact Nat.add_le_add h1 h3
theorem pgsAt_len {f : Nat → List Pg → Bool} {Q : List (List Pg)} (h : ∀ i, (rw Q i).length ≤ 1000000) (i j : Nat) : (pgsAt f Q i j).length ≤ (i + 1) * 1000000 := by
  have h1 := pgsTo_len (f := f) h i
  have h2 := h i
  unfold pgsAt
  rw [List.length_append]
  have h3 : (if f i (rw Q i) then (rw Q i).take j else []).length ≤ 1000000 := by
    cases f i (rw Q i) with
    | true => exact Nat.le_trans (List.length_take_le' ..) h2
    | false => exact Nat.zero_le _
  rw [Nat.succ_mul]
  exact Nat.add_le_add h1 h3
theorem rows_len {R : List (Rw Pg)} (h : ∀ r ∈ R, r.l.length < 1000000) (i : Nat) : (rw (R.map fun r => r.l) i).length ≤ 1000000 := by
  rw [rwR]
  by_cases hi : i < R.length
  · exact Nat.le_of_lt (h _ (getD_mem hi))
  · rw [List.getD_eq_getElem?_getD, List.getElem?_eq_none (by omega)]
    exact Nat.zero_le _
theorem byPl : Tryd.prog.types[36].bytes = 16 := by kernel_rfl
theorem bySl : Tryd.prog.types[40].bytes = 72 := by kernel_rfl
/-- The gathered list has room for one more. -/
theorem Gth.room {α : Type} {A : List α} {o : Bool} {b q : Nat} {l : List α} {n c : Nat} (h : Gth A (o, b, q, l, n, c)) : n ≤ c ∧ c ≤ l.length ∧ n = A.length ∧ (o = false → n = 0 ∧ c = 0) := ⟨h.2.2.1, h.2.2.2.1, h.2.1.symm, h.2.2.2.2⟩
/-- What is gathered, at a place. -/
theorem Gth.at {α : Type} {A : List α} {o : Bool} {b q : Nat} {l : List α} {n c : Nat} (h : Gth A (o, b, q, l, n, c)) {i : Nat} {d : α} (hi : i < n) : l.getD i d = A.getD i d := by
  have e : l.take n = A := h.1
  rw [← e, tk_get hi]
/-- The keys' slices are told in rising order. -/
theorem sd_keys {A : MpG} {clk : Nat} {g : Geo} {P : List Pg} {x : Cx} (hg : g.ok) (h : AOK x g P A clk) {y : Sq Int} (hy : SdG (A.map fun e => e.1) y) : Gth (keyL g P) y := by
  obtain ⟨L, h1, h2, h3⟩ := hy
  have : L = keyL g P := rise_one h1 rise_keyL fun k => (h2 k).trans ((h.keys.mem k).trans (mem_keyL hg).symm)
  rw [← this]; exact h3
end Go.Vx
set_option maxRecDepth 100000
namespace Go.Vx
open Go Go.Proofs
variable [Gl]

theorem keyD_len {g : Geo} {P : List Pg} : (keyD g P).length ≤ P.length := by
  unfold keyD kyd
  rw [List.length_map]; exact List.length_filter_le _ _
theorem sloL_len {g : Geo} {f : Int} {P : List Pg} {K : List Int} : (sloL g f P K).length ≤ K.length := by
  unfold sloL
  rw [List.length_map]; exact List.length_filter_le _ _
theorem keyL_len {g : Geo} {P : List Pg} (h : g.ok) : (keyL g P).length ≤ 536871100 := by
  obtain ⟨⟨h1, h2⟩, ⟨h3, h4⟩, h5, h6⟩ := h
  unfold keyL
  refine Nat.le_trans (List.length_filter_le _ _) ?_
  rw [upTo_len]; omega
end Go.Vx
