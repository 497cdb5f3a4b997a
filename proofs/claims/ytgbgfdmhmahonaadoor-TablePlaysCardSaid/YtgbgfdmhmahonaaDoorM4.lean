/-
  Round 20: the chapter's examples.
  Round 20: TableMoves.
  Round 20: TableMoves: the walk.
  Round 20: TableMoves of no slice.
  Round 20: two tables that say the same.
  Round 20: lists of slots in the order of their keys; two that say the same.
  Round 20: the reference's table: a key taken away.
  Round 20: the reference's table: a key given a page.
  Round 20: two lists of slots that say the same; slots as the document has them.
  Round 20: slots, turned into the document's.
  Conditions: none.
-/
import Derived.Test.YtgbgfdmhmahonaaDoorM3
set_option linter.unusedSectionVars false
set_option maxRecDepth 100000
set_option linter.unusedVariables false
set_option linter.unusedSimpArgs false
namespace Go.Vx
open Go Go.Proofs
variable [Gl]

theorem plainA : ∀ g, g < 3 → Plain C0 (Gl.A g)
  | 0, _ => ⟨0, _, _, List.Mem.head _⟩
  | 1, _ => ⟨1, _, _, List.Mem.head _⟩
  | 2, _ => ⟨2, _, _, List.Mem.head _⟩
  | g + 3, h => absurd h (by omega)
theorem Does.weaken {C : Nat → Codec} {P : Program} {tg : Tg} {mem : List (Ck C)} {args : List SV} {l l' : List (Alt C)} (h : Does P tg mem args l) (hw : ∀ f : SV → List (Ck C) → Prop, Ends l (fun A y => f (A.res y) (A.out y)) → Ends l' (fun A y => f (A.res y) (A.out y))) : Does P tg mem args l' := by
  intro w hm
  obtain ⟨f, vals, h1, h2⟩ := h w hm
  refine ⟨f, vals, h1, h2.mono ?_⟩
  rintro e w' ⟨r, m', g1, g2, g3, g4⟩
  exact ⟨r, m', g1, g2, g3, hw (fun a b => r = a ∧ m' = b) g4⟩
/-- A table whose maps are others. -/
abbrev tw : Tb → Ks × Nat × Ps × Nat → Tb
  | ⟨tp, tq, bs, ps, kb, _, _, pb, _, _⟩, (kl, kc, pl, pc) => ⟨tp, tq, bs, ps, kb, kl, kc, pb, pl, pc⟩
/-- Set where the key, and the page, may be. -/
theorem setOk_ok (x : Tb) (k : Int) (p : Pl) (m : Me) (h : Rep x) (hf : Fits x k p) (ht : ¬ Taken x k p) : Does (C := C0) Tryd.prog (.fn 8) (tbm x) [.ptr 0 0 0, .int .i64 k, .agg (plE p), .agg (meE m)]
    [⟨Ks × Nat × Ps × Nat, fun y => Rep (tw x y) ∧ tl (tw x y) = lset (tl x) ⟨k, p, m⟩, fun _ => .tup [.agg (plE (lget (tl x) k).pl), .bool (.tm (lhas (tl x) k)), .nili], fun y => tbm (tw x y)⟩] := by
  refine (set_ok x k p m h).weaken ?_
  rintro f ⟨A, hA, y, hy, hf'⟩
  simp only [List.mem_cons, List.not_mem_nil, or_false] at hA
  rcases hA with rfl | rfl | rfl
  · exact (hy hf).elim
  · exact (ht hy.2).elim
  · have := h.set (s := ⟨k, p, m⟩) (fun hat => Classical.byContradiction fun hn => ht ⟨hat, hn⟩)
    exact Ends.one ((tset x ⟨k, p, m⟩).kl, (tset x ⟨k, p, m⟩).kc, (tset x ⟨k, p, m⟩).pl, (tset x ⟨k, p, m⟩).pc) this hf'
theorem setOrd_ok (x : Tb) (k : Int) (p : Pl) (m : Me) (h : Rep x) (hf : Fits x k p) (ht : Taken x k p) : Does (C := C0) Tryd.prog (.fn 8) (tbm x) [.ptr 0 0 0, .int .i64 k, .agg (plE p), .agg (meE m)]
    [⟨Unit, fun _ => True, fun _ => .tup [.agg (plE (0, 0)), .bool .f, er (Gl.A 0)], fun _ => tbm x⟩] := by
  refine (set_ok x k p m h).weaken ?_
  rintro f ⟨A, hA, y, hy, hf'⟩
  simp only [List.mem_cons, List.not_mem_nil, or_false] at hA
  rcases hA with rfl | rfl | rfl
  · exact (hy hf).elim
  · exact Ends.one () trivial hf'
  · exact (hy.2 ht).elim
theorem setNum_ok (x : Tb) (k : Int) (p : Pl) (m : Me) (h : Rep x) (hf : ¬ Fits x k p) : Does (C := C0) Tryd.prog (.fn 8) (tbm x) [.ptr 0 0 0, .int .i64 k, .agg (plE p), .agg (meE m)]
    [⟨Unit, fun _ => True, fun _ => .tup [.agg (plE (0, 0)), .bool .f, er (Gl.A 2)], fun _ => tbm x⟩] := by
  refine (set_ok x k p m h).weaken ?_
  rintro f ⟨A, hA, y, hy, hf'⟩
  simp only [List.mem_cons, List.not_mem_nil, or_false] at hA
  rcases hA with rfl | rfl | rfl
  · exact Ends.one () trivial hf'
  · exact (hf hy.1).elim
  · exact (hf hy.1).elim
noncomputable def fcSetOk : Fc Tryd.prog C0 where
  tg := .fn 8
  X := Tb × Int × Pl × Me
  args := fun (_, k, p, m) => [.ptr 0 0 0, .int .i64 k, .agg (plE p), .agg (meE m)]
  mem := fun (x, _) => tbm x
  pre := fun (x, k, p, m) => Rep x ∧ Fits x k p ∧ ¬ Taken x k p
  alts := fun (x, k, p, m) => [⟨Ks × Nat × Ps × Nat, fun y => Rep (tw x y) ∧ tl (tw x y) = lset (tl x) ⟨k, p, m⟩, fun _ => .tup [.agg (plE (lget (tl x) k).pl), .bool (.tm (lhas (tl x) k)), .nili], fun y => tbm (tw x y)⟩]
  mat vs m := match vs with
    | [.ptr c 0 0, .int _ k, .agg [.int _ a, .int _ b], .agg [.int _ m1, .int _ m2, .int _ m3, .int _ m4, .int _ m5, .int _ m6]] => match tbOf m c with
      | some (x, l) => some ((x, k, (a, b), ⟨m1, m2, m3, m4, m5, m6⟩), l)
      | none => none
    | _ => none
  ok := fun (x, k, p, m) h => setOk_ok x k p m h.1 h.2.1 h.2.2
/-- .. of the examples: another one's page. -/
noncomputable def fcSet6 : Fc Tryd.prog C0 where
  tg := .fn 8
  X := Tb × Me
  args := fun (_, m) => [.ptr 0 0 0, .int .i64 6, .agg (plE (1, 1)), .agg (meE m)]
  mem := fun (x, _) => tbm x
  pre := fun (x, m) => Rep x ∧ Fits x 6 (1, 1) ∧ Taken x 6 (1, 1)
  alts := fun (x, m) => [⟨Unit, fun _ => True, fun _ => .tup [.agg (plE (0, 0)), .bool .f, er (Gl.A 0)], fun _ => tbm x⟩]
  mat vs m := match vs with
    | [.ptr c 0 0, .int _ (.ofNat 6), .agg [.int _ (.ofNat 1), .int _ b], .agg [.int _ m1, .int _ m2, .int _ m3, .int _ m4, .int _ m5, .int _ m6]] => match tbOf m c with
      | some (x, l) => some ((x, ⟨m1, m2, m3, m4, m5, m6⟩), l)
      | none => none
    | _ => none
  ok := fun (x, m) h => setOrd_ok x _ _ m h.1 h.2.1 h.2.2
noncomputable def fcSet64 : Fc Tryd.prog C0 where
  tg := .fn 8
  X := Tb × Me
  args := fun (_, m) => [.ptr 0 0 0, .int .i64 6, .agg (plE (4, 0)), .agg (meE m)]
  mem := fun (x, _) => tbm x
  pre := fun (x, m) => Rep x ∧ ¬ Fits x 6 (4, 0)
  alts := fun (x, m) => [⟨Unit, fun _ => True, fun _ => .tup [.agg (plE (0, 0)), .bool .f, er (Gl.A 2)], fun _ => tbm x⟩]
  mat vs m := match vs with
    | [.ptr c 0 0, .int _ (.ofNat 6), .agg [.int _ (.ofNat 4), .int _ b], .agg [.int _ m1, .int _ m2, .int _ m3, .int _ m4, .int _ m5, .int _ m6]] => match tbOf m c with
      | some (x, l) => some ((x, ⟨m1, m2, m3, m4, m5, m6⟩), l)
      | none => none
    | _ => none
  ok := fun (x, m) h => setNum_ok x _ _ m h.1 h.2
/-- Whose page. -/
theorem atL_ok (x : Tb) (p : Pl) (h : Rep x) : Tells (C := C0) Tryd.prog (.fn 10) (tbr x) [.ptr 0 0 0, .agg (plE p)] (.tup [.int .i64 (lwho (tl x) p), .bool (.tm (lat (tl x) p))]) := by
  rw [← h.phas, ← h.pget]; exact at_ok x p
def pcAtL : Pc Tryd.prog C0 where
  tg := .fn 10
  X := Tb × Pl
  args := fun (x, p) => [.ptr 0 0 0, .agg (plE p)]
  mem := fun (x, p) => tbr x
  pre := fun (x, p) => Rep x
  res := fun (x, p) => .tup [.int .i64 (lwho (tl x) p), .bool (.tm (lat (tl x) p))]
  mat vs m := match vs with
    | [.ptr p 0 0, .agg [.int _ a, .int _ b]] => match tbOf m p with
      | some (x, l) => some ((x, (a, b)), l)
      | none => none
    | _ => none
  ok := fun (x, p) h => atL_ok x p h
theorem lenL_ok (x : Tb) : Tells (C := C0) Tryd.prog (.fn 11) (tbr x) [.ptr 0 0 0] (.int .i64 ((tl x).length : Int)) := by
  rw [show (tl x).length = x.kl.length from List.length_map _]; exact len_ok x
def pcLenL : Pc Tryd.prog C0 where
  tg := .fn 11
  X := Tb
  args _ := [.ptr 0 0 0]
  mem x := tbr x
  pre _ := True
  res x := .int .i64 ((tl x).length : Int)
  mat vs m := match vs with
    | [.ptr p 0 0] => tbOf m p
    | _ => none
  ok x _ := lenL_ok x
theorem newOk_ok (b p : Int) (h : MayT b p) : Does (C := C0) Tryd.prog (.fn 7) [] [.int .i64 b, .int .i64 p]
    [⟨Nat × Nat × Nat, fun _ => True, fun _ => .tup [.ptr 0 0 0, .nili], fun y => tbm ⟨y.1, 0, b, p, y.2.1, [], 0, y.2.2, [], 0⟩⟩] := by
  refine (new_ok b p).weaken ?_
  rintro f ⟨A, hA, y, hy, hf'⟩
  simp only [List.mem_cons, List.not_mem_nil, or_false] at hA
  rcases hA with rfl | rfl
  · exact (hy h).elim
  · exact Ends.one (y : Nat × Nat × Nat) trivial hf'
noncomputable def fcNewOk : Fc Tryd.prog C0 where
  tg := .fn 7
  X := Int × Int
  args := fun (b, p) => [.int .i64 b, .int .i64 p]
  mem := fun _ => []
  pre := fun (b, p) => MayT b p
  alts := fun (b, p) => [⟨Nat × Nat × Nat, fun _ => True, fun _ => .tup [.ptr 0 0 0, .nili], fun y => tbm ⟨y.1, 0, b, p, y.2.1, [], 0, y.2.2, [], 0⟩⟩]
  mat vs _ := match vs with
    | [.int _ b, .int _ p] => some ((b, p), [])
    | _ => none
  ok := fun (b, p) h => newOk_ok b p h
theorem lset_nil (s : Slot) : lset [] s = [s] := rfl
theorem lset_one (a s : Slot) (h : a.key = s.key) : lset [a] s = [s] := by
  unfold lset ldel
  simp [h]
abbrev fs1 : Slot := ⟨5, (0, 1), me0⟩
abbrev fs2 : Slot := ⟨5, (1, 1), me0⟩
theorem sm_of {k a b : Int} {m : Me} (h1 : 0 ≤ k) (h2 : k ≤ 1073741824) (h3 : 0 ≤ a) (h4 : a < 64) (h5 : 0 ≤ b) (h6 : b < 64) : Sm ⟨k, (a, b), m⟩ := ⟨h1, h2, h3, h4, h5, h6⟩
theorem tok_one {x : Tb} (h : Rep x) {s : Slot} (hl : tl x = [s]) (hs : Sm s) : Tok x := by
  refine ⟨h, ?_, ?_⟩
  · intro t ht
    rw [hl] at ht
    rw [List.mem_singleton.1 ht]; exact hs
  · have := congrArg List.length hl
    rw [List.length_map] at this
    rw [this]; show 1 < 1048576; decide
theorem first_v {L0 L1 L2 : List Slot} (h0 : L0 = []) (h1 : L1 = [fs1]) (h2 : L2 = [fs2]) : ((SB.tm (!lhas L0 5 && (SB.tm (lhas L1 5)).val && (SB.tm (decide ((lget L1 5).pl.fst = 0))).val && (SB.tm (decide ((lget L1 5).pl.snd = 1))).val && (SB.tm (decide (Gl.A 0 = Gl.A 0))).val && (SB.tm (decide (Gl.A 2 = Gl.A 2))).val && (SB.tm !lat L2 (0, 1)).val &&
    (SB.tm (decide (((List.filter (inBlk 0) L2).length : Int) = 0))).val && (SB.tm (decide (((List.filter (inBlk 1) L2).length : Int) = 1))).val)).val) = SB.t.val := by
  subst h0 h1 h2
  simp only [SB.val]
  rfl
set_option maxHeartbeats 8000000 in
theorem first_ok : Tells (C := C0) Tryd.prog (.fn 6) [] [] (.bool .t) := by
  refine loc_pc (P := Tryd.prog) (E := ⟨[fcNewOk, fcSet6, fcSet64, fcSetOk], [pcAtL, pcLive], 104, []⟩) (L := []) mix Tryd.func6 rfl (by kernel_rfl) (by kernel_rfl) rfl rfl ?_
  ((conv => (arg 1; reduce)); with_reducible repeat' (first | exact Tr.yes_h | refine Tr.and_h ?_ ?_ | refine Tr.imp_h fun _ => ?_ | refine Tr.all_h fun _ => ?_ | refine Tr.lf_h ?_))
  all_goals try (first | first | (show Region.lexB _ _ = true; kernel_rfl) | (show planned _ _ = true; kernel_rfl) | exact rfl | exact True.intro | (first | exact key3 | exact key30 | exact zero3 | exact zero53 | exact eq30 | exact ⟨key3, zero53⟩ | exact ⟨key30, zero3⟩) | ((try dsimp only [imp, C0, cG, cInt, cPl, cSlot, cDo] at *); (try refine inR64 ?_ ?_) <;> (try simp only [List.length_set, List.length_append, List.length_take, List.length_drop]) <;> omega))
  · show 1 ≤ (4 : Int) ∧ (4 : Int) ≤ 64 ∧ 1 ≤ (8 : Int) ∧ (8 : Int) ≤ 64
    decide
  · refine ⟨Rep.new .., ⟨by decide, by decide, by decide, (by decide : (0 : Int) < 4), by decide, (by decide : (1 : Int) < 8)⟩, ?_⟩
    rintro ⟨h, _⟩
    exact absurd h (show ¬ lat [] (0, 1) = true by decide)
  · rename_i h b
    obtain ⟨h, hl⟩ := h
    have hl := hl.trans (lset_nil fs1)
    refine ⟨h, ⟨by decide, by decide, by decide, (by decide : (1 : Int) < 4), by decide, (by decide : (1 : Int) < 8)⟩, ?_⟩
    rintro ⟨h, _⟩
    rw [hl] at h
    exact absurd h (show ¬ lat [fs1] (1, 1) = true by decide)
  · rename_i hA b yB hB b2
    have hl := hA.2.trans (lset_nil fs1)
    obtain ⟨h, hl2⟩ := hB
    rw [hl] at hl2
    have hl2 := hl2.trans (lset_one fs1 fs2 rfl)
    refine ⟨h, ⟨by decide, by decide, by decide, (by decide : (1 : Int) < 4), by decide, (by decide : (1 : Int) < 8)⟩, ?_⟩
    show lat (tl _) _ = true ∧ lwho (tl _) _ ≠ 6
    rw [hl2]
    exact ⟨by decide, by decide⟩
  · rename_i hA b yB hB b2 u1 u2 b3
    refine ⟨hB.1, ?_⟩
    rintro ⟨h1, h2, h3, h4, h5, h6⟩
    exact absurd h4 (show ¬ (4 : Int) < 4 by decide)
  · rename_i hA b yB hB b2 u1 u2 b3 u3 u4 b4
    exact hB.1
  · exact plainA 0 (by decide)
  · exact plainA 0 (by decide)
  · exact plainA 2 (by decide)
  · exact plainA 2 (by decide)
  · rename_i hA b yB hB b2 u1 u2 b3 u3 u4 b4 hc
    have hl := hA.2.trans (lset_nil fs1)
    obtain ⟨h, hl2⟩ := hB
    rw [hl] at hl2
    have hl2 := hl2.trans (lset_one fs1 fs2 rfl)
    exact tok_one h hl2 (sm_of (by decide) (by decide) (by decide) (by decide) (by decide) (by decide))
  · rename_i hA b yB hB b2 u1 u2 b3 u3 u4 b4 hc
    have hl := hA.2.trans (lset_nil fs1)
    obtain ⟨h, hl2⟩ := hB
    rw [hl] at hl2
    have hl2 := hl2.trans (lset_one fs1 fs2 rfl)
    exact tok_one h hl2 (sm_of (by decide) (by decide) (by decide) (by decide) (by decide) (by decide))
  · rename_i hA b yB hB b2 u1 u2 b3 u3 u4 b4
    have hl := hA.2.trans (lset_nil fs1)
    obtain ⟨h, hl2⟩ := hB
    rw [hl] at hl2
    have hl2 := hl2.trans (lset_one fs1 fs2 rfl)
    exact first_v rfl hl hl2
def pcFirst : Pc Tryd.prog C0 where
  tg := .fn 6
  X := Unit
  args _ := []
  mem _ := []
  pre _ := True
  res _ := .bool .t
  mat _ _ := some ((), [])
  ok _ _ := first_ok
end Go.Vx
set_option linter.unusedSectionVars false
set_option maxRecDepth 100000
set_option linter.unusedVariables false
set_option linter.unusedSimpArgs false
namespace Go.Vx
open Go Go.Proofs
variable [Gl]

theorem set3_ok (x : Tb) (k : Int) (p : Pl) (m : Me) (h : Rep x) : Does (C := C0) Tryd.prog (.fn 8) (tbm x) [.ptr 0 0 0, .int .i64 k, .agg (plE p), .agg (meE m)]
    [⟨Ks × Nat × Ps × Nat, fun y => (Fits x k p ∧ ¬ Taken x k p) ∧ Rep (tw x y) ∧ tl (tw x y) = lset (tl x) ⟨k, p, m⟩, fun _ => .tup [.agg (plE (lget (tl x) k).pl), .bool (.tm (lhas (tl x) k)), .nili], fun y => tbm (tw x y)⟩,
     ⟨Unit, fun _ => ¬ Fits x k p, fun _ => .tup [.agg (plE (0, 0)), .bool .f, er (Gl.A 2)], fun _ => tbm x⟩,
     ⟨Unit, fun _ => Fits x k p ∧ Taken x k p, fun _ => .tup [.agg (plE (0, 0)), .bool .f, er (Gl.A 0)], fun _ => tbm x⟩] := by
  refine (set_ok x k p m h).weaken ?_
  rintro f ⟨A, hA, y, hy, hf'⟩
  simp only [List.mem_cons, List.not_mem_nil, or_false] at hA
  rcases hA with rfl | rfl | rfl
  · exact Ends.next (Ends.one () hy hf')
  · exact Ends.next (Ends.next (Ends.one () hy hf'))
  · have := h.set (s := ⟨k, p, m⟩) (fun hat => Classical.byContradiction fun hn => hy.2 ⟨hat, hn⟩)
    exact Ends.one ((tset x ⟨k, p, m⟩).kl, (tset x ⟨k, p, m⟩).kc, (tset x ⟨k, p, m⟩).pl, (tset x ⟨k, p, m⟩).pc) ⟨hy, this⟩ hf'
noncomputable def fcSet3 : Fc Tryd.prog C0 where
  tg := .fn 8
  X := Tb × Int × Pl × Me
  args := fun (_, k, p, m) => [.ptr 0 0 0, .int .i64 k, .agg (plE p), .agg (meE m)]
  mem := fun (x, _) => tbm x
  pre := fun (x, k, p, m) => Rep x
  alts := fun (x, k, p, m) => [⟨Ks × Nat × Ps × Nat, fun y => (Fits x k p ∧ ¬ Taken x k p) ∧ Rep (tw x y) ∧ tl (tw x y) = lset (tl x) ⟨k, p, m⟩, fun _ => .tup [.agg (plE (lget (tl x) k).pl), .bool (.tm (lhas (tl x) k)), .nili], fun y => tbm (tw x y)⟩,
     ⟨Unit, fun _ => ¬ Fits x k p, fun _ => .tup [.agg (plE (0, 0)), .bool .f, er (Gl.A 2)], fun _ => tbm x⟩,
     ⟨Unit, fun _ => Fits x k p ∧ Taken x k p, fun _ => .tup [.agg (plE (0, 0)), .bool .f, er (Gl.A 0)], fun _ => tbm x⟩]
  mat vs m := match vs with
    | [.ptr c 0 0, .int _ k, .agg [.int _ a, .int _ b], .agg [.int _ m1, .int _ m2, .int _ m3, .int _ m4, .int _ m5, .int _ m6]] => match tbOf m c with
      | some (x, l) => some ((x, k, (a, b), ⟨m1, m2, m3, m4, m5, m6⟩), l)
      | none => none
    | _ => none
  ok := fun (x, k, p, m) h => set3_ok x k p m h
theorem dropL_ok (x : Tb) (k : Int) (h : Rep x) : Does (C := C0) Tryd.prog (.fn 13) (tbm x) [.ptr 0 0 0, .int .i64 k]
    [⟨Ks × Nat × Ps × Nat, fun y => Rep (tw x y) ∧ tl (tw x y) = ldel (tl x) k, fun _ => .bool (.tm (lhas (tl x) k)), fun y => tbm (tw x y)⟩] := by
  refine (drop_ok x k).weaken ?_
  rintro f ⟨A, hA, y, hy, hf'⟩
  simp only [List.mem_cons, List.not_mem_nil, or_false] at hA
  subst hA
  have := h.drop k
  dsimp only at hf'
  rw [h.khas] at hf'
  exact Ends.one ((tdrop x k).kl, (tdrop x k).kc, (tdrop x k).pl, (tdrop x k).pc) this hf'
noncomputable def fcDropL : Fc Tryd.prog C0 where
  tg := .fn 13
  X := Tb × Int
  args := fun (_, k) => [.ptr 0 0 0, .int .i64 k]
  mem := fun (x, _) => tbm x
  pre := fun (x, k) => Rep x
  alts := fun (x, k) => [⟨Ks × Nat × Ps × Nat, fun y => Rep (tw x y) ∧ tl (tw x y) = ldel (tl x) k, fun _ => .bool (.tm (lhas (tl x) k)), fun y => tbm (tw x y)⟩]
  mat vs m := match vs with
    | [.ptr p 0 0, .int _ k] => match tbOf m p with
      | some (x, l) => some ((x, k), l)
      | none => none
    | _ => none
  ok := fun (x, k) h => dropL_ok x k h
end Go.Vx
set_option linter.unusedSectionVars false
set_option maxRecDepth 100000
set_option linter.unusedVariables false
set_option linter.unusedSimpArgs false
namespace Go.Vx
open Go Go.Proofs
variable [Gl]

abbrev an (x m : Int) : Int := ibit .and .i64 x m
/-- The table's maps, wherever they lie. -/
abbrev tz (y : Ks × Nat × Ps × Nat) : Tb := ⟨0, 0, 8, 8, 0, y.1, y.2.1, 0, y.2.2.1, y.2.2.2⟩
theorem Rep.re {a b : Nat} {c d : Int} {e f a' b' : Nat} {c' d' : Int} {e' f' : Nat} {kl : Ks} {kc : Nat} {pl : Ps} {pc : Nat} (h : Rep ⟨a, b, c, d, e, kl, kc, f, pl, pc⟩) : Rep ⟨a', b', c', d', e', kl, kc, f', pl, pc⟩ := ⟨h.ks, h.pp, h.ok, h.bk, h.bp⟩
theorem Rep.of {x x' : Tb} (h : Rep x) (e1 : x'.kl = x.kl) (e2 : x'.kc = x.kc) (e3 : x'.pl = x.pl) (e4 : x'.pc = x.pc) : Rep x' := by
  obtain ⟨a, b, c, d, e⟩ := h
  exact ⟨by rw [e1]; exact a, by rw [e1, e3]; exact b, by rw [e1]; exact c, by rw [e1, e2]; exact d, by rw [e3, e4]; exact e⟩
structure Mv (K : Int) (n i : Nat) (y : Ks × Nat × Ps × Nat) (p : Pl) : Prop where
  le : i ≤ n
  rep : Rep (tz y)
  st : (i = 0 ∧ tl (tz y) = []) ∨ (0 < i ∧ ∃ m, tl (tz y) = [⟨K, p, m⟩] ∧ Sm ⟨K, p, m⟩ ∧ p.1 < 8 ∧ p.2 < 8)
def Mo (K : Int) (n : Nat) : Inv' C0 := ⟨10, Nat × (Ks × Nat × Ps × Nat) × Pl, fun (i, y, p) => [(12, .int .i64 (i : Int)), (11, .int .i64 (i : Int))],
  fun (i, y, p) m => match m with
    | [a, t, k, l, la] => [a, t, ⟨k.block, k.base, k.sz, k.wr, k.gl, .mp 3 53 y.1 y.2.1⟩, ⟨l.block, l.base, l.sz, l.wr, l.gl, .mp 30 3 y.2.2.1 y.2.2.2⟩, ⟨la.block, la.base, la.sz, la.wr, la.gl, .one [.int .i64 p.1, .int .i64 p.2]⟩]
    | m => m,
  fun (i, y, p) => Mv K n i y p, fun (i, _) => n - i⟩
theorem an_mod {x : Int} {m : Nat} (h0 : 0 ≤ x) (h1 : x < 2 ^ 63) (hm : m < 60) : an x ((2 : Int) ^ m - 1) = x % 2 ^ m := by
  obtain ⟨a, rfl⟩ := Int.eq_ofNat_of_zero_le h0
  have hp : (2 : Nat) ^ m ≤ 2 ^ 60 := Nat.pow_le_pow_right (by decide) (by omega)
  have hp1 : 1 ≤ (2 : Nat) ^ m := Nat.one_le_two_pow
  have ha : a < 2 ^ 63 := by
    have : ((a : Nat) : Int) < ((2 ^ 63 : Nat) : Int) := by simpa using h1
    exact Int.ofNat_lt.1 this
  have e1 : ((2 : Int) ^ m - 1) = ((2 ^ m - 1 : Nat) : Int) := by
    rw [Int.natCast_sub hp1]; simp
  show IntKind.i64.wrap ((BitVec.ofInt 64 (a : Int) &&& BitVec.ofInt 64 ((2 : Int) ^ m - 1)).toNat : Int) = _
  rw [e1]
  have e2 : (BitVec.ofInt 64 ((a : Nat) : Int)).toNat = a := by
    rw [BitVec.ofInt_natCast, BitVec.toNat_ofNat, Nat.mod_eq_of_lt (Nat.lt_of_lt_of_le ha (by decide))]
  have e3 : (BitVec.ofInt 64 ((2 ^ m - 1 : Nat) : Int)).toNat = 2 ^ m - 1 := by
    rw [BitVec.ofInt_natCast, BitVec.toNat_ofNat, Nat.mod_eq_of_lt]
    have : (2 : Nat) ^ 60 < 2 ^ 64 := by decide
    omega
  rw [BitVec.toNat_and, e2, e3, Nat.and_two_pow_sub_one_eq_mod]
  have hlt : a % 2 ^ m < 2 ^ m := Nat.mod_lt _ (by omega)
  have e4 : ((a : Int) % 2 ^ m) = ((a % 2 ^ m : Nat) : Int) := by simp
  rw [e4]
  generalize a % 2 ^ m = r at hlt
  have h60 : (2 : Nat) ^ 60 = 1152921504606846976 := by decide
  have hr : (r : Int) < 9223372036854775808 := by omega
  unfold IntKind.wrap
  simp [IntKind.bits, IntKind.signed]
  omega
theorem an_le (x : Int) (m : Nat) (hm : m < 60) : 0 ≤ an x ((2 : Int) ^ m - 1) ∧ an x ((2 : Int) ^ m - 1) < 2 ^ m := by
  have hp : (2 : Nat) ^ m ≤ 2 ^ 60 := Nat.pow_le_pow_right (by decide) (by omega)
  have hp1 : 1 ≤ (2 : Nat) ^ m := Nat.one_le_two_pow
  have e1 : ((2 : Int) ^ m - 1) = ((2 ^ m - 1 : Nat) : Int) := by
    rw [Int.natCast_sub hp1]; simp
  show 0 ≤ IntKind.i64.wrap ((BitVec.ofInt 64 x &&& BitVec.ofInt 64 ((2 : Int) ^ m - 1)).toNat : Int) ∧ IntKind.i64.wrap ((BitVec.ofInt 64 x &&& BitVec.ofInt 64 ((2 : Int) ^ m - 1)).toNat : Int) < 2 ^ m
  rw [e1]
  have e3 : (BitVec.ofInt 64 ((2 ^ m - 1 : Nat) : Int)).toNat = 2 ^ m - 1 := by
    rw [BitVec.ofInt_natCast, BitVec.toNat_ofNat, Nat.mod_eq_of_lt]
    have : (2 : Nat) ^ 60 < 2 ^ 64 := by decide
    omega
  rw [BitVec.toNat_and, e3, Nat.and_two_pow_sub_one_eq_mod]
  have hlt : (BitVec.ofInt 64 x).toNat % 2 ^ m < 2 ^ m := Nat.mod_lt _ (by omega)
  have e5 : ((2 : Int) ^ m) = ((2 ^ m : Nat) : Int) := by simp
  rw [e5]
  generalize (BitVec.ofInt 64 x).toNat % 2 ^ m = r at hlt
  have h60 : (2 : Nat) ^ 60 = 1152921504606846976 := by decide
  have hr : (r : Int) < 9223372036854775808 := by omega
  unfold IntKind.wrap
  simp [IntKind.bits, IntKind.signed]
  omega
theorem an7 (x : Int) : 0 ≤ an x 7 ∧ an x 7 < 8 := an_le x 3 (by decide)
theorem an1023 (x : Int) : 0 ≤ an x 1023 ∧ an x 1023 < 1024 := an_le x 10 (by decide)
theorem an7_mod {x : Int} (h0 : 0 ≤ x) (h1 : x < 100) : an x 7 = x % 8 := an_mod (m := 3) h0 (by omega) (by decide)
/-- A page that may be. -/
abbrev pg (p : Pl) : Pl := (an p.1 7, an p.2 7)
theorem Mv.fin {K : Int} {n i : Nat} {y : Ks × Nat × Ps × Nat} {p : Pl} (h : Mv K n i y p) (h0 : decide ((i : Int) = 0) = false) : ∃ m, tl (tz y) = [⟨K, p, m⟩] ∧ Sm ⟨K, p, m⟩ ∧ p.1 < 8 ∧ p.2 < 8 := by
  rcases h.st with ⟨rfl, _⟩ | ⟨_, h⟩
  · simp at h0
  · exact h
theorem Mv.free {K : Int} {n i : Nat} {y : Ks × Nat × Ps × Nat} {p : Pl} (h : Mv K n i y p) {x : Tb} (hx : x.kl = y.1) (q : Pl) : ¬ Taken x K q := by
  rintro ⟨h1, h2⟩
  have e : tl x = tl (tz y) := by show x.kl.map _ = y.1.map _; rw [hx]
  rw [e] at h1 h2
  rcases h.st with ⟨_, h0⟩ | ⟨_, m, h0, _⟩
  · rw [h0] at h1; cases h1
  · rw [h0] at h1 h2
    have : p = q := by simpa [lat] using h1
    exact h2 (by simp [lwho, this])
theorem fits_any {x : Tb} (hb : x.bs = 8) (hp : x.ps = 8) {k : Int} {q : Pl} (h0 : 0 ≤ k) (h1 : k < 4096) (h2 : 0 ≤ q.1) (h3 : q.1 < 8) (h4 : 0 ≤ q.2) (h5 : q.2 < 8) : Fits x k q := ⟨h0, by omega, h2, by omega, h4, by omega⟩
theorem Mv.had {K : Int} {n i : Nat} {y : Ks × Nat × Ps × Nat} {p : Pl} (h : Mv K n i y p) {L : List Slot} (hL : L = tl (tz y)) :
    ((!(SB.tm (lhas L K)).val == (SB.tm (decide (0 < (i : Int)))).val || (SB.tm (lhas L K && (SB.tm !(decide ((lget L K).pl.1 = p.1) && decide ((lget L K).pl.2 = p.2))).val)).val) = true) → False := by
  subst hL
  rcases h.st with ⟨rfl, h0⟩ | ⟨hi, m, h0, _⟩
  · rw [h0]; simp [lhas, SB.val]
  · rw [h0]
    simp [lhas, lget, SB.val]
    intro hc; omega
theorem Mv.had0 {K : Int} {n i : Nat} {y : Ks × Nat × Ps × Nat} {p : Pl} (h : Mv K n i y p) : tl (tz y) = [] ∨ ∃ m, tl (tz y) = [⟨K, p, m⟩] := by
  rcases h.st with ⟨_, h0⟩ | ⟨_, m, h0, _⟩
  · exact .inl h0
  · exact .inr ⟨m, h0⟩
/-- Behind a round's Set there is one. -/
theorem Mv.one {K : Int} {n i : Nat} {y : Ks × Nat × Ps × Nat} {p : Pl} (h : Mv K n i y p) {L L0 : List Slot} (hL : L0 = tl (tz y)) {q : Pl} {m : Me} (h1 : L = lset L0 ⟨K, q, m⟩) : L = [⟨K, q, m⟩] := by
  rw [h1, hL]
  rcases h.had0 with h0 | ⟨m', h0⟩
  · rw [h0]; rfl
  · rw [h0]; exact lset_one _ _ rfl
theorem one_key {K : Int} {q : Pl} {m : Me} {L : List Slot} (hL : L = [⟨K, q, m⟩]) :
    ((!lat L q || (SB.tm (decide (lwho L q ≠ K))).val || (SB.tm (decide ((L.length : Int) ≠ 1))).val || (SB.tm (decide (((L.filter (inBlk q.1)).length : Int) ≠ 1))).val) = true) → False := by
  subst hL
  simp [lat, lwho, SB.val, inBlk]
theorem two_keys {K W : Int} (h : K < W) {p q : Pl} {m m' : Me} : lset [⟨K, p, m⟩] ⟨W, q, m'⟩ = [⟨K, p, m⟩, ⟨W, q, m'⟩] := by
  have : ¬ K = W := by omega
  simp [lset, ldel, this]
theorem drop_first {K W : Int} (h : K < W) {p q : Pl} {m m' : Me} : ldel [⟨K, p, m⟩, ⟨W, q, m'⟩] K = [⟨W, q, m'⟩] := by
  have : ¬ W = K := by omega
  simp [ldel, this]
section
variable {K W : Int} {n i : Nat} {y : Ks × Nat × Ps × Nat} {p : Pl} (h : Mv K n i y p) (h0 : decide ((i : Int) = 0) = false) (hK : K < 1024) (hW : 1024 ≤ W) (hW' : W < 4096)
include h h0
theorem Mv.k1 (hK : K < 1024) (hW : 1024 ≤ W) {x : Tb} (hx : x.kl = y.1) (ht : ¬ Taken x W p) : False := by
  obtain ⟨m, e, _⟩ := h.fin h0
  refine ht ⟨?_, ?_⟩
  · rw [show tl x = [⟨K, p, m⟩] from (congrArg (List.map (·.2.1)) hx).trans e]; simp [lat]
  · rw [show tl x = [⟨K, p, m⟩] from (congrArg (List.map (·.2.1)) hx).trans e]; simp [lwho]; omega
theorem Mv.k2 (hW : 1024 ≤ W) (hW' : W < 4096) {x : Tb} (hb : x.bs = 8) (hp : x.ps = 8) (hf : ¬ Fits x W p) : False := by
  obtain ⟨m, e, hs, h1, h2⟩ := h.fin h0
  exact hf (fits_any hb hp (by omega) hW' hs.b0 h1 hs.p0 h2)
theorem Mv.k3 (hW : 1024 ≤ W) (hW' : W < 4096) {x : Tb} (hb : x.bs = 8) (hp : x.ps = 8) (hf : ¬ Fits x W (an (p.1 + 1) 7, p.2)) : False := by
  obtain ⟨m, e, hs, h1, h2⟩ := h.fin h0
  exact hf (fits_any hb hp (by omega) hW' (an7 _).1 (an7 _).2 hs.p0 h2)
theorem Mv.k4 {x : Tb} (hx : x.kl = y.1) (ht : Taken x W (an (p.1 + 1) 7, p.2)) : False := by
  obtain ⟨m, e, hs, h1, h2⟩ := h.fin h0
  obtain ⟨h3, _⟩ := ht
  rw [show tl x = [⟨K, p, m⟩] from (congrArg (List.map (·.2.1)) hx).trans e] at h3
  have h4 : p = (an (p.1 + 1) 7, p.2) := by simpa [lat] using h3
  have h4 := congrArg Prod.fst h4
  have hs0 : 0 ≤ p.1 := hs.b0
  rw [an7_mod (by omega) (by omega)] at h4
  simp only at h4
  omega
theorem Mv.two (hK : K < 1024) (hW : 1024 ≤ W) {L L0 : List Slot} (hL : L0 = tl (tz y)) {q : Pl} {m : Me} (h1 : L = lset L0 ⟨W, q, m⟩) : ∃ m', L = [⟨K, p, m'⟩, ⟨W, q, m⟩] := by
  obtain ⟨m', e, _⟩ := h.fin h0
  exact ⟨m', by rw [h1, hL, e]; exact two_keys (by omega)⟩
end
theorem inR_add {x : Int} (h0 : 0 ≤ x) (h1 : x < 100000) (d : Int) (h2 : 0 ≤ d) (h3 : d < 100000) : inR .i64 (x + d) := inR64 (by omega) (by omega)
theorem smK (key a b : Int) (m : Me) : Sm ⟨an key 1023, (an a 7, an b 7), m⟩ :=
  sm_of (an1023 key).1 (by have := (an1023 key).2; omega) (an7 _).1 (by have := (an7 a).2; omega) (an7 _).1 (by have := (an7 b).2; omega)
set_option maxHeartbeats 16000000 in
theorem moves_ok (b q : Nat) (l : List Pl) (key other : Int) (k n c : Nat) (hl : k + n ≤ l.length) (hc : n ≤ c) : Tells (C := C0) Tryd.prog (.fn 3) [⟨b, q, 2, false, none, .rows 30 l⟩] [.int .i64 key, .int .i64 other, .sl 0 k n c] (.bool .t) := by
  refine loc_pc (P := Tryd.prog) (E := ⟨[fcNewOk, fcSet3, fcDropL], [pcFirst, pcSamePlace, pcAtL, pcLenL, pcLive], 188, [(12, [0], [.p 0, .p 1, .p 2, .p 3, .p 4, .p 5, .p 6, .p 7, .p 8, .p 9, .p 10, .p 11, .p 12, .e 13, .e 14])]⟩) (L := [Mo (an key 1023) n]) mix Tryd.func3 rfl (by kernel_rfl) (by kernel_rfl) rfl rfl ?_
  ((conv => (arg 1; reduce)); with_reducible repeat' (first | exact Tr.yes_h | refine Tr.and_h ?_ ?_ | refine Tr.imp_h fun _ => ?_ | refine Tr.all_h fun _ => ?_ | refine Tr.lf_h ?_))
  all_goals try (first | first | (show Region.lexB _ _ = true; kernel_rfl) | (show planned _ _ = true; kernel_rfl) | exact rfl | exact True.intro | (first | exact key3 | exact key30 | exact zero3 | exact zero53 | exact eq30 | exact ⟨key3, zero53⟩ | exact ⟨key30, zero3⟩) | ((try dsimp only [imp, C0, cG, cInt, cPl, cSlot, cDo] at *); (try refine inR64 ?_ ?_) <;> (try simp only [List.length_set, List.length_append, List.length_take, List.length_drop]) <;> omega))
  · exact (by decide : 1 ≤ (8 : Int) ∧ (8 : Int) ≤ 64 ∧ 1 ≤ (8 : Int) ∧ (8 : Int) ≤ 64)
  · rename_i Y0 p0 h0
    exact inR_add (an1023 other).1 (by have := (an1023 other).2; omega) 1024 (by decide) (by decide)
  · rename_i Y0 p0 h0 b0
    refine Stands.one (0, ([], 0, [], 0), (0, 0)) ⟨⟨Nat.zero_le _, Rep.new .., .inl ⟨rfl, rfl⟩⟩, ?_⟩
    ((conv => (arg 1; reduce)); with_reducible repeat' (first | exact Tr.yes_h | refine Tr.and_h ?_ ?_ | refine Tr.imp_h fun _ => ?_ | refine Tr.all_h fun _ => ?_ | refine Tr.lf_h ?_))
    all_goals (first | first | (show Region.lexB _ _ = true; kernel_rfl) | (show planned _ _ = true; kernel_rfl) | exact rfl | exact True.intro | (first | exact key3 | exact key30 | exact zero3 | exact zero53 | exact eq30 | exact ⟨key3, zero53⟩ | exact ⟨key30, zero3⟩) | ((try dsimp only [imp, C0, cG, cInt, cPl, cSlot, cDo] at *); (try refine inR64 ?_ ?_) <;> (try simp only [List.length_set, List.length_append, List.length_take, List.length_drop]) <;> omega))
  · rename_i Y0 p0 h0 b0 v0 hv0 h1
    exact of_decide_eq_true h1
  · rename_i Y0 p0 h0 b0 v0 hv0 h1
    obtain ⟨i, y, p⟩ := v0
    have h1 : decide ((i : Int) < (n : Int)) = true := h1
    have h1 := of_decide_eq_true h1
    show (i : Int).toNat + k < l.length
    omega
  · rename_i Y0 p0 h0 b0 v0 hv0 h1
    exact of_decide_eq_true h1
  · rename_i Y0 p0 h0 b0 v0 hv0 h1
    obtain ⟨i, y, p⟩ := v0
    have h1 : decide ((i : Int) < (n : Int)) = true := h1
    have h1 := of_decide_eq_true h1
    show (i : Int).toNat + k < l.length
    omega
  · rename_i Y0 p0 h0 b0 v0 hv0 h1 b1
    exact hv0.rep.of rfl rfl rfl rfl
  · rename_i Y0 p0 h0 b0 v0 hv0 h1 b1 Y1 p1 b2 h2
    exact (hv0.had rfl h2).elim
  · rename_i Y0 p0 h0 b0 v0 hv0 h1 b1 Y1 p1 b2 h2
    obtain ⟨i, y, p⟩ := v0
    have h1 : decide ((i : Int) < (n : Int)) = true := h1
    have h1 := of_decide_eq_true h1
    have h0 : decide (60 < (n : Int)) = false := h0
    have h0 := of_decide_eq_false h0
    exact inR64 (by show _ ≤ (i : Int) + 1; omega) (by show (i : Int) + 1 ≤ _; omega)
  · rename_i Y0 p0 h0 b0 v0 hv0 h1 b1 Y1 p1 b2 h2
    exact p1.2.1
  · rename_i Y0 p0 h0 b0 v0 hv0 h1 b1 Y1 p1 b2 h2 h3
    exact tok_one p1.2.1 (hv0.one rfl p1.2.2) (smK key _ _ _)
  · rename_i Y0 p0 h0 b0 v0 hv0 h1 b1 Y1 p1 b2 h2 h3
    exact (one_key (hv0.one rfl p1.2.2) h3).elim
  · rename_i Y0 p0 h0 b0 v0 hv0 h1 b1 Y1 p1 b2 h2 h3
    obtain ⟨i, y, p⟩ := v0
    have h1 : decide ((i : Int) < (n : Int)) = true := h1
    have h1 := of_decide_eq_true h1
    have h0 : decide (60 < (n : Int)) = false := h0
    have h0 := of_decide_eq_false h0
    exact inR64 (by show _ ≤ (i : Int) + 1; omega) (by show (i : Int) + 1 ≤ _; omega)
  · rename_i Y0 p0 h0 b0 v0 hv0 h1 b1 Y1 p1 b2 h2 h3
    obtain ⟨i, y, p⟩ := v0
    have h1 : decide ((i : Int) < (n : Int)) = true := h1
    have h1 := of_decide_eq_true h1
    refine Stands.one (Nat.succ i, Y1, pg (l.getD ((i : Int).toNat + k) (0, 0))) ⟨⟨by omega, p1.2.1.of rfl rfl rfl rfl, .inr ⟨Nat.succ_pos _, _, hv0.one rfl p1.2.2, smK key _ _ _, (an7 _).2, (an7 _).2⟩⟩, ?_, ?_⟩
    · show n - (i + 1) < n - i
      omega
    ((conv => (arg 1; reduce)); with_reducible repeat' (first | exact Tr.yes_h | refine Tr.and_h ?_ ?_ | refine Tr.imp_h fun _ => ?_ | refine Tr.all_h fun _ => ?_ | refine Tr.lf_h ?_))
    all_goals (first | first | (show Region.lexB _ _ = true; kernel_rfl) | (show planned _ _ = true; kernel_rfl) | exact rfl | exact True.intro | (first | exact key3 | exact key30 | exact zero3 | exact zero53 | exact eq30 | exact ⟨key3, zero53⟩ | exact ⟨key30, zero3⟩) | ((try dsimp only [imp, C0, cG, cInt, cPl, cSlot, cDo] at *); (try refine inR64 ?_ ?_) <;> (try simp only [List.length_set, List.length_append, List.length_take, List.length_drop]) <;> omega))
  · rename_i Y0 p0 h0 b0 v0 hv0 h1 b1 Y1 p1 b2
    exact (p1 (fits_any (k := an key 1023) rfl rfl (an1023 key).1 (by have := (an1023 key).2; omega) (an7 _).1 (an7 _).2 (an7 _).1 (an7 _).2)).elim
  · rename_i Y0 p0 h0 b0 v0 hv0 h1 b1 Y1 p1 b2
    exact (hv0.free rfl _ p1.2).elim
  · rename_i Y0 p0 h0 b0 v0 hv0 h1 h2
    obtain ⟨i, y, p⟩ := v0
    rcases hv0.st with ⟨_, e⟩ | ⟨hi, _⟩
    · show decide (((tl (tz y)).length : Int) = 0) = true
      rw [e]; rfl
    · have h2 : decide ((i : Int) = 0) = true := h2
      have h2 := of_decide_eq_true h2
      omega
  · rename_i Y0 p0 h0 b0 v0 hv0 h1 h2
    exact hv0.rep.of rfl rfl rfl rfl
  · rename_i Y0 p0 h0 b0 v0 hv0 h1 h2 Y1 p1 b1
    obtain ⟨m', _, hs, g1, g2⟩ := hv0.fin h2
    exact inR_add hs.b0 (Int.lt_trans g1 (by decide)) 1 (by decide) (by decide)
  · rename_i Y0 p0 h0 b0 v0 hv0 h1 h2 Y1 p1 b1 b2
    exact p1.2.1
  · rename_i Y0 p0 h0 b0 v0 hv0 h1 h2 Y1 p1 b1 b2 Y2 p2 b3
    have hK := (an1023 key).2
    have hW := (an1023 other).1
    have hW' := (an1023 other).2
    exact (hv0.k1 h2 hK (W := an other 1023 + 1024) (by omega) rfl p1.1.2).elim
  · rename_i Y0 p0 h0 b0 v0 hv0 h1 h2 Y1 p1 b1 b2 Y2 p2 b3
    have hK := (an1023 key).2
    have hW := (an1023 other).1
    have hW' := (an1023 other).2
    exact (hv0.k1 h2 hK (W := an other 1023 + 1024) (by omega) rfl p1.1.2).elim
  · rename_i Y0 p0 h0 b0 v0 hv0 h1 h2 Y1 p1 b1 b2 Y2 p2 b3
    have hK := (an1023 key).2
    have hW := (an1023 other).1
    have hW' := (an1023 other).2
    exact (hv0.k1 h2 hK (W := an other 1023 + 1024) (by omega) rfl p1.1.2).elim
  · rename_i Y0 p0 h0 b0 v0 hv0 h1 h2 Y1 p1 b1
    obtain ⟨m', _, hs, g1, g2⟩ := hv0.fin h2
    exact inR_add hs.b0 (Int.lt_trans g1 (by decide)) 1 (by decide) (by decide)
  · rename_i Y0 p0 h0 b0 v0 hv0 h1 h2 Y1 p1 b1 b2
    exact hv0.rep.of rfl rfl rfl rfl
  · rename_i Y0 p0 h0 b0 v0 hv0 h1 h2 Y1 p1 b1 b2 Y2 p2 b3
    have hK := (an1023 key).2
    have hW := (an1023 other).1
    have hW' := (an1023 other).2
    exact (hv0.k2 h2 (W := an other 1023 + 1024) (by omega) (by omega) rfl rfl p1).elim
  · rename_i Y0 p0 h0 b0 v0 hv0 h1 h2 Y1 p1 b1 b2 Y2 p2 b3
    have hK := (an1023 key).2
    have hW := (an1023 other).1
    have hW' := (an1023 other).2
    exact (hv0.k2 h2 (W := an other 1023 + 1024) (by omega) (by omega) rfl rfl p1).elim
  · rename_i Y0 p0 h0 b0 v0 hv0 h1 h2 Y1 p1 b1 b2 Y2 p2 b3 h3
    have hK := (an1023 key).2
    have hW := (an1023 other).1
    have hW' := (an1023 other).2
    exact (hv0.k2 h2 (W := an other 1023 + 1024) (by omega) (by omega) rfl rfl p1).elim
  · rename_i Y0 p0 h0 b0 v0 hv0 h1 h2 Y1 p1 b1 b2 Y2 p2 b3 h3 Y3 p3 h4
    have hK := (an1023 key).2
    have hW := (an1023 other).1
    have hW' := (an1023 other).2
    exact (hv0.k2 h2 (W := an other 1023 + 1024) (by omega) (by omega) rfl rfl p1).elim
  · rename_i Y0 p0 h0 b0 v0 hv0 h1 h2 Y1 p1 b1 b2 Y2 p2 b3 h3 Y3 p3 h4 Y4 p4
    have hK := (an1023 key).2
    have hW := (an1023 other).1
    have hW' := (an1023 other).2
    exact (hv0.k2 h2 (W := an other 1023 + 1024) (by omega) (by omega) rfl rfl p1).elim
  · rename_i Y0 p0 h0 b0 v0 hv0 h1 h2 Y1 p1 b1 b2 Y2 p2 b3 h3 Y3 p3 h4
    have hK := (an1023 key).2
    have hW := (an1023 other).1
    have hW' := (an1023 other).2
    exact (hv0.k2 h2 (W := an other 1023 + 1024) (by omega) (by omega) rfl rfl p1).elim
  · rename_i Y0 p0 h0 b0 v0 hv0 h1 h2 Y1 p1 b1 b2 Y2 p2 b3 h3
    have hK := (an1023 key).2
    have hW := (an1023 other).1
    have hW' := (an1023 other).2
    exact (hv0.k2 h2 (W := an other 1023 + 1024) (by omega) (by omega) rfl rfl p1).elim
  · rename_i Y0 p0 h0 b0 v0 hv0 h1 h2 Y1 p1 b1 b2 Y2 p2 b3
    have hK := (an1023 key).2
    have hW := (an1023 other).1
    have hW' := (an1023 other).2
    exact (hv0.k2 h2 (W := an other 1023 + 1024) (by omega) (by omega) rfl rfl p1).elim
  · rename_i Y0 p0 h0 b0 v0 hv0 h1 h2 Y1 p1 b1 b2 Y2 p2 b3
    have hK := (an1023 key).2
    have hW := (an1023 other).1
    have hW' := (an1023 other).2
    exact (hv0.k2 h2 (W := an other 1023 + 1024) (by omega) (by omega) rfl rfl p1).elim
  · rename_i Y0 p0 h0 b0 v0 hv0 h1 h2 Y1 p1 b1 b2 Y2 p2 b3
    have hK := (an1023 key).2
    have hW := (an1023 other).1
    have hW' := (an1023 other).2
    exact (hv0.k2 h2 (W := an other 1023 + 1024) (by omega) (by omega) rfl rfl p1).elim
  · rename_i Y0 p0 h0 b0 v0 hv0 h1 h2 Y1 p1 b1 b2 Y2 p2 b3
    have hK := (an1023 key).2
    have hW := (an1023 other).1
    have hW' := (an1023 other).2
    exact (hv0.k2 h2 (W := an other 1023 + 1024) (by omega) (by omega) rfl rfl p1).elim
  · rename_i Y0 p0 h0 b0 v0 hv0 h1 h2 Y1 p1 b1 b2 Y2 p2 b3
    have hK := (an1023 key).2
    have hW := (an1023 other).1
    have hW' := (an1023 other).2
    exact (hv0.k2 h2 (W := an other 1023 + 1024) (by omega) (by omega) rfl rfl p1).elim
  · rename_i Y0 p0 h0 b0 v0 hv0 h1 h2 Y1 p1 b1 b2 Y2 p2 b3
    have hK := (an1023 key).2
    have hW := (an1023 other).1
    have hW' := (an1023 other).2
    exact (hv0.k2 h2 (W := an other 1023 + 1024) (by omega) (by omega) rfl rfl p1).elim
  · rename_i Y0 p0 h0 b0 v0 hv0 h1 h2 Y1 p1 b1
    obtain ⟨m', _, hs, g1, g2⟩ := hv0.fin h2
    exact inR_add hs.b0 (Int.lt_trans g1 (by decide)) 1 (by decide) (by decide)
  · rename_i Y0 p0 h0 b0 v0 hv0 h1 h2 Y1 p1 b1 b2
    exact hv0.rep.of rfl rfl rfl rfl
  · rename_i Y0 p0 h0 b0 v0 hv0 h1 h2 Y1 p1 b1 b2 Y2 p2 b3
    exact plainA 0 (by decide)
  · rename_i Y0 p0 h0 b0 v0 hv0 h1 h2 Y1 p1 b1 b2 Y2 p2 b3
    exact plainA 0 (by decide)
  · rename_i Y0 p0 h0 b0 v0 hv0 h1 h2 Y1 p1 b1 b2 Y2 p2 b3 h3
    exact p2.2.1
  · rename_i Y0 p0 h0 b0 v0 hv0 h1 h2 Y1 p1 b1 b2 Y2 p2 b3 h3 Y3 p3 h4
    exact p3.1
  · rename_i Y0 p0 h0 b0 v0 hv0 h1 h2 Y1 p1 b1 b2 Y2 p2 b3 h3 Y3 p3 h4 Y4 p4
    have hK := (an1023 key).2
    have hW := (an1023 other).1
    have hW' := (an1023 other).2
    obtain ⟨m', e2⟩ := hv0.two h2 hK (W := an other 1023 + 1024) (by omega) rfl p2.2.2
    have e3 := p3.2.trans ((congrArg (fun L => ldel L (an key 1023)) e2).trans (drop_first (by omega)))
    show (!lhas (tl _) (an key 1023)) = true
    rw [e3]
    have : ¬ an other 1023 + 1024 = an key 1023 := by omega
    simp [lhas, this]
  · rename_i Y0 p0 h0 b0 v0 hv0 h1 h2 Y1 p1 b1 b2 Y2 p2 b3 h3 Y3 p3 h4
    have hK := (an1023 key).2
    have hW := (an1023 other).1
    have hW' := (an1023 other).2
    obtain ⟨m', e2⟩ := hv0.two h2 hK (W := an other 1023 + 1024) (by omega) rfl p2.2.2
    have e3 := p3.2.trans ((congrArg (fun L => ldel L (an key 1023)) e2).trans (drop_first (by omega)))
    have h4 : (lhas (tl _) (an key 1023) && decide (((tl _).length : Int) = 1)) = false := h4
    rw [e2, e3] at h4
    simp [lhas] at h4
  · rename_i Y0 p0 h0 b0 v0 hv0 h1 h2 Y1 p1 b1 b2 Y2 p2 b3 h3
    have hK := (an1023 key).2
    have hW := (an1023 other).1
    have hW' := (an1023 other).2
    obtain ⟨m', e2⟩ := hv0.two h2 hK (W := an other 1023 + 1024) (by omega) rfl p2.2.2
    have h3 : (decide (Gl.A 0 = Gl.A 0) && decide (((tl _).length : Int) = 2)) = false := h3
    rw [e2] at h3
    simp at h3
  · rename_i Y0 p0 h0 b0 v0 hv0 h1 h2 Y1 p1 b1 b2 Y2 p2 b3
    have hK := (an1023 key).2
    have hW := (an1023 other).1
    have hW' := (an1023 other).2
    exact (hv0.k3 h2 (W := an other 1023 + 1024) (by omega) (by omega) rfl rfl p2).elim
  · rename_i Y0 p0 h0 b0 v0 hv0 h1 h2 Y1 p1 b1 b2 Y2 p2 b3
    have hK := (an1023 key).2
    have hW := (an1023 other).1
    have hW' := (an1023 other).2
    exact (hv0.k3 h2 (W := an other 1023 + 1024) (by omega) (by omega) rfl rfl p2).elim
  · rename_i Y0 p0 h0 b0 v0 hv0 h1 h2 Y1 p1 b1 b2 Y2 p2 b3
    have hK := (an1023 key).2
    have hW := (an1023 other).1
    have hW' := (an1023 other).2
    exact (hv0.k3 h2 (W := an other 1023 + 1024) (by omega) (by omega) rfl rfl p2).elim
  · rename_i Y0 p0 h0 b0 v0 hv0 h1 h2 Y1 p1 b1 b2 Y2 p2 b3
    exact (hv0.k4 h2 rfl p2.2).elim
  · rename_i Y0 p0 h0 b0 v0 hv0 h1 h2 Y1 p1 b1 b2 Y2 p2 b3
    exact (hv0.k4 h2 rfl p2.2).elim
  · rename_i Y0 p0 h0 b0 v0 hv0 h1 h2 Y1 p1 b1 b2 Y2 p2 b3
    exact (hv0.k4 h2 rfl p2.2).elim
end Go.Vx
set_option linter.unusedSectionVars false
set_option maxRecDepth 100000
set_option linter.unusedVariables false
set_option linter.unusedSimpArgs false
namespace Go.Vx
open Go Go.Proofs
variable [Gl]
def Mo0 : Inv' C0 := ⟨10, Unit, fun _ => [(12, .int .i64 0), (11, .int .i64 0)], fun _ m => m, fun _ => True, fun _ => 0⟩
set_option maxHeartbeats 16000000 in
theorem moves_nil (key other : Int) : Tells (C := C0) Tryd.prog (.fn 3) [] [.int .i64 key, .int .i64 other, .nils] (.bool .t) := by
  refine loc_pc (P := Tryd.prog) (E := ⟨[fcNewOk, fcSet3, fcDropL], [pcFirst, pcSamePlace, pcAtL, pcLenL, pcLive], 188, [(12, [], [.p 0, .p 1, .p 2, .p 3, .p 4, .p 5, .p 6, .p 7, .p 8, .p 9, .p 10, .p 11, .p 12, .e 13, .e 14])]⟩) (L := [Mo0]) mix Tryd.func3 rfl (by kernel_rfl) (by kernel_rfl) rfl rfl ?_
  ((conv => (arg 1; reduce)); with_reducible repeat' (first | exact Tr.yes_h | refine Tr.and_h ?_ ?_ | refine Tr.imp_h fun _ => ?_ | refine Tr.all_h fun _ => ?_ | refine Tr.lf_h ?_))
  all_goals try (first | first | (show Region.lexB _ _ = true; kernel_rfl) | (show planned _ _ = true; kernel_rfl) | exact rfl | exact True.intro | (first | exact key3 | exact key30 | exact zero3 | exact zero53 | exact eq30 | exact ⟨key3, zero53⟩ | exact ⟨key30, zero3⟩) | ((try dsimp only [imp, C0, cG, cInt, cPl, cSlot, cDo] at *); (try refine inR64 ?_ ?_) <;> (try simp only [List.length_set, List.length_append, List.length_take, List.length_drop]) <;> omega))
  all_goals try exact absurd (by with_reducible assumption : decide ((0 : Int) < 0) = true) (by decide)
  all_goals try exact absurd (by with_reducible assumption : decide ((0 : Int) = 0) = false) (by decide)
  · exact (by decide : 1 ≤ (8 : Int) ∧ (8 : Int) ≤ 64 ∧ 1 ≤ (8 : Int) ∧ (8 : Int) ≤ 64)
  · exact inR_add (an1023 other).1 (by have := (an1023 other).2; omega) 1024 (by decide) (by decide)
  · refine Stands.one () ⟨trivial, ?_⟩
    ((conv => (arg 1; reduce)); with_reducible repeat' (first | exact Tr.yes_h | refine Tr.and_h ?_ ?_ | refine Tr.imp_h fun _ => ?_ | refine Tr.all_h fun _ => ?_ | refine Tr.lf_h ?_))
    all_goals (first | first | (show Region.lexB _ _ = true; kernel_rfl) | (show planned _ _ = true; kernel_rfl) | exact rfl | exact True.intro | (first | exact key3 | exact key30 | exact zero3 | exact zero53 | exact eq30 | exact ⟨key3, zero53⟩ | exact ⟨key30, zero3⟩) | ((try dsimp only [imp, C0, cG, cInt, cPl, cSlot, cDo] at *); (try refine inR64 ?_ ?_) <;> (try simp only [List.length_set, List.length_append, List.length_take, List.length_drop]) <;> omega))
end Go.Vx
set_option linter.unusedSectionVars false
set_option maxRecDepth 100000
set_option linter.unusedVariables false
set_option linter.unusedSimpArgs false
namespace Go.Vx
open Go Go.Proofs
variable [Gl]

def alikeB (a b : Slot) : Bool := decide (a.key = b.key) && (decide (a.pl.1 = b.pl.1) && decide (a.pl.2 = b.pl.2)) && decide (a.me.seq = b.me.seq) && decide (a.me.kind = b.me.kind)
def sameB : List Slot → List Slot → Bool
  | [], [] => true
  | a :: A, b :: B => alikeB a b && sameB A B
  | _, _ => false
theorem alike_tell (a b : Slot) : Tells (C := C0) Tryd.prog (.fn 36) [] [.agg (slotE a), .agg (slotE b)] (.bool (.tm (alikeB a b))) := by
  refine loc_pc (P := Tryd.prog) (E := ⟨[], [], 35, []⟩) (L := []) mix Tryd.func36 rfl (by kernel_rfl) (by kernel_rfl) rfl rfl ?_
  ((conv => (arg 1; reduce)); with_reducible repeat' (first | exact Tr.yes_h | refine Tr.and_h ?_ ?_ | refine Tr.imp_h fun _ => ?_ | refine Tr.all_h fun _ => ?_ | refine Tr.lf_h ?_))
  all_goals try (first | first | (show Region.lexB _ _ = true; kernel_rfl) | (show planned _ _ = true; kernel_rfl) | exact rfl | exact True.intro | (first | exact key3 | exact key30 | exact zero3 | exact zero53 | exact eq30 | exact ⟨key3, zero53⟩ | exact ⟨key30, zero3⟩) | ((try dsimp only [imp, C0, cG, cInt, cPl, cSlot, cDo] at *); (try refine inR64 ?_ ?_) <;> (try simp only [List.length_set, List.length_append, List.length_take, List.length_drop]) <;> omega))
def pcAlike : Pc Tryd.prog C0 where
  tg := .fn 36
  X := Slot × Slot
  args := fun (a, b) => [.agg (slotE a), .agg (slotE b)]
  mem := fun _ => []
  pre := fun _ => True
  res := fun (a, b) => .bool (.tm (alikeB a b))
  mat vs _ := match vs with
    | [.agg [.int _ k, .int _ a, .int _ p, .int _ m1, .int _ m2, .int _ m3, .int _ m4, .int _ m5, .int _ m6], .agg [.int _ k', .int _ a', .int _ p', .int _ n1, .int _ n2, .int _ n3, .int _ n4, .int _ n5, .int _ n6]] =>
      some ((⟨k, (a, p), ⟨m1, m2, m3, m4, m5, m6⟩⟩, ⟨k', (a', p'), ⟨n1, n2, n3, n4, n5, n6⟩⟩), [])
    | _ => none
  ok := fun (a, b) _ => alike_tell a b
theorem sameB_len : ∀ {A B : List Slot}, sameB A B = true → A.length = B.length
  | [], [], _ => rfl
  | a :: A, b :: B, h => by
    simp only [sameB, Bool.and_eq_true] at h
    simp [sameB_len h.2]
  | [], _ :: _, h => by cases h
  | _ :: _, [], h => by cases h
theorem sameB_ne {A B : List Slot} (h : A.length ≠ B.length) : sameB A B = false := by
  cases hs : sameB A B with
  | false => rfl
  | true => exact (h (sameB_len hs)).elim
theorem sameB_snoc : ∀ {A B : List Slot} (h : A.length = B.length) (a b : Slot), sameB (A ++ [a]) (B ++ [b]) = (sameB A B && alikeB a b)
  | [], [], _, a, b => by simp [sameB]
  | x :: A, y :: B, h, a, b => by
    simp only [List.cons_append, sameB]
    rw [sameB_snoc (by simpa using h), Bool.and_assoc]
  | [], _ :: _, h, _, _ => by cases h
  | _ :: _, [], h, _, _ => by cases h
theorem sameB_cut : ∀ {A B : List Slot} (i : Nat), sameB A B = true → sameB (A.take i) (B.take i) = true
  | _, _, 0, _ => by simp [sameB]
  | [], [], i + 1, _ => rfl
  | a :: A, b :: B, i + 1, h => by
    simp only [sameB, Bool.and_eq_true] at h
    simp only [List.take_succ_cons, sameB, Bool.and_eq_true]
    exact ⟨h.1, sameB_cut i h.2⟩
  | [], _ :: _, _ + 1, h => by cases h
  | _ :: _, [], _ + 1, h => by cases h
structure Eqi (l l' : List Slot) (n n' : Nat) (i : Nat) : Prop where
  le : i ≤ n
  is : sameB (l.take i) (l'.take i) = true
def Eqv (l l' : List Slot) (n n' : Nat) : Inv' C0 := ⟨4, Nat, fun i => [(17, .int .i64 (i : Int))], fun _ m => m, fun i => Eqi l l' n n' i, fun i => n - i⟩
theorem take_add {l : List Slot} {i : Nat} (h : i < l.length) : l.take (i + 1) = l.take i ++ [l.getD i slot0] := by
  rw [List.take_add_one]
  simp [List.getD, h]
theorem nn_eq {n n' : Nat} (h : decide ((n : Int) ≠ (n' : Int)) = false) : n = n' := by
  have := of_decide_eq_false h
  omega
theorem Eqi.step {l l' : List Slot} {n n' i : Nat} (h : Eqi l l' n n' i) (hi : i < n) (hl : n ≤ l.length) (hl' : n ≤ l'.length) (ha : alikeB (l.getD i slot0) (l'.getD i slot0) = true) : Eqi l l' n n' (i + 1) := by
  refine ⟨hi, ?_⟩
  rw [take_add (by omega), take_add (by omega), sameB_snoc (by simp; omega), h.is, ha]; rfl
theorem Eqi.bad {l l' : List Slot} {n i : Nat} (hi : i < n) (hl : n ≤ l.length) (hl' : n ≤ l'.length) (ha : alikeB (l.getD i slot0) (l'.getD i slot0) = false) : sameB (l.take n) (l'.take n) = false := by
  cases hs : sameB (l.take n) (l'.take n) with
  | false => rfl
  | true =>
    have := sameB_cut (i + 1) hs
    rw [List.take_take, List.take_take, Nat.min_eq_left (by omega), take_add (by omega), take_add (by omega), sameB_snoc (by simp; omega), ha, Bool.and_false] at this
    cases this
theorem Eqi.done {l l' : List Slot} {n n' i : Nat} (h : Eqi l l' n n' i) (hi : n ≤ i) (hn : n = n') : sameB (l.take n) (l'.take n') = true := by
  have : i = n := Nat.le_antisymm h.le hi
  rw [← hn, ← this]; exact h.is
set_option maxHeartbeats 8000000 in
theorem equal_ok (b q : Nat) (l : List Slot) (n c b' q' : Nat) (l' : List Slot) (n' c' : Nat) (hl : n ≤ l.length) (hl' : n' ≤ l'.length) (hn : n < 1048576) :
    Tells (C := C0) Tryd.prog (.fn 35) [⟨b, q, 9, false, none, .rows 53 l⟩, ⟨b', q', 9, false, none, .rows 53 l'⟩] [.sl 0 0 n c, .sl 1 0 n' c', .fn (.func 36) [] []] (.bool (.tm (sameB (l.take n) (l'.take n')))) := by
  refine loc_pc (P := Tryd.prog) (E := ⟨[], [pcAlike], 32, []⟩) (L := [Eqv l l' n n']) mix Tryd.func35 rfl (by kernel_rfl) (by kernel_rfl) rfl rfl ?_
  ((conv => (arg 1; reduce)); with_reducible repeat' (first | exact Tr.yes_h | refine Tr.and_h ?_ ?_ | refine Tr.imp_h fun _ => ?_ | refine Tr.all_h fun _ => ?_ | refine Tr.lf_h ?_))
  all_goals try (first | first | (show Region.lexB _ _ = true; kernel_rfl) | (show planned _ _ = true; kernel_rfl) | exact rfl | exact True.intro | (first | exact key3 | exact key30 | exact zero3 | exact zero53 | exact eq30 | exact ⟨key3, zero53⟩ | exact ⟨key30, zero3⟩) | ((try dsimp only [imp, C0, cG, cInt, cPl, cSlot, cDo] at *); (try refine inR64 ?_ ?_) <;> (try simp only [List.length_set, List.length_append, List.length_take, List.length_drop]) <;> omega))
  · rename_i h
    have h := of_decide_eq_true h
    show false = sameB _ _
    rw [sameB_ne (by simp only [List.length_take]; omega)]
  · refine Stands.one (0 : Nat) ⟨⟨Nat.zero_le _, by simp [sameB]⟩, ?_⟩
    ((conv => (arg 1; reduce)); with_reducible repeat' (first | exact Tr.yes_h | refine Tr.and_h ?_ ?_ | refine Tr.imp_h fun _ => ?_ | refine Tr.all_h fun _ => ?_ | refine Tr.lf_h ?_))
    all_goals (first | first | (show Region.lexB _ _ = true; kernel_rfl) | (show planned _ _ = true; kernel_rfl) | exact rfl | exact True.intro | (first | exact key3 | exact key30 | exact zero3 | exact zero53 | exact eq30 | exact ⟨key3, zero53⟩ | exact ⟨key30, zero3⟩) | ((try dsimp only [imp, C0, cG, cInt, cPl, cSlot, cDo] at *); (try refine inR64 ?_ ?_) <;> (try simp only [List.length_set, List.length_append, List.length_take, List.length_drop]) <;> omega))
  · rename_i i hi h
    exact of_decide_eq_true h
  · rename_i i hi h
    change Nat at i
    have h := of_decide_eq_true h
    show (i : Int).toNat + 0 < l.length
    omega
  · rename_i h0 i hi h b1
    change Nat at i
    have h := of_decide_eq_true h
    have h0 := nn_eq h0
    show (i : Int) < (n' : Int)
    omega
  · rename_i h0 i hi h b1
    change Nat at i
    have h := of_decide_eq_true h
    have h0 := nn_eq h0
    show (i : Int).toNat + 0 < l'.length
    omega
  · rename_i h0 i hi h b1 b2 ha
    change Nat at i
    have h := of_decide_eq_true h
    have h0 := nn_eq h0
    have ha : (!alikeB (l.getD i slot0) (l'.getD i slot0)) = true := ha
    show false = sameB _ _
    subst h0
    rw [Eqi.bad (i := i) (by omega) hl hl' (by simpa using ha)]
  · rename_i h0 i hi h b1 b2 ha
    change Nat at i
    have h := of_decide_eq_true h
    exact inR64 (by show _ ≤ (i : Int) + 1; omega) (by show (i : Int) + 1 ≤ _; omega)
  · rename_i h0 i hi h b1 b2 ha
    change Nat at i
    have h := of_decide_eq_true h
    have h0 := nn_eq h0
    have ha : (!alikeB (l.getD i slot0) (l'.getD i slot0)) = false := ha
    refine Stands.one (Nat.succ i) ⟨hi.step (by omega) hl (by omega) (by simpa using ha), ?_, ?_⟩
    · show n - (i + 1) < n - i
      omega
    ((conv => (arg 1; reduce)); with_reducible repeat' (first | exact Tr.yes_h | refine Tr.and_h ?_ ?_ | refine Tr.imp_h fun _ => ?_ | refine Tr.all_h fun _ => ?_ | refine Tr.lf_h ?_))
    all_goals (first | first | (show Region.lexB _ _ = true; kernel_rfl) | (show planned _ _ = true; kernel_rfl) | exact rfl | exact True.intro | (first | exact key3 | exact key30 | exact zero3 | exact zero53 | exact eq30 | exact ⟨key3, zero53⟩ | exact ⟨key30, zero3⟩) | ((try dsimp only [imp, C0, cG, cInt, cPl, cSlot, cDo] at *); (try refine inR64 ?_ ?_) <;> (try simp only [List.length_set, List.length_append, List.length_take, List.length_drop]) <;> omega))
  · rename_i h0 i hi h
    change Nat at i
    have h := of_decide_eq_false h
    exact (hi.done (by omega) (nn_eq h0)).symm
def pcEqual : Pc Tryd.prog C0 where
  tg := .fn 35
  X := (Nat × Nat × List Slot × Nat × Nat) × (Nat × Nat × List Slot × Nat × Nat)
  args := fun ((b, q, l, n, c), (b', q', l', n', c')) => [.sl 0 0 n c, .sl 1 0 n' c', .fn (.func 36) [] []]
  mem := fun ((b, q, l, n, c), (b', q', l', n', c')) => [⟨b, q, 9, false, none, .rows 53 l⟩, ⟨b', q', 9, false, none, .rows 53 l'⟩]
  pre := fun ((b, q, l, n, c), (b', q', l', n', c')) => n ≤ l.length ∧ n' ≤ l'.length ∧ n < 1048576
  res := fun ((b, q, l, n, c), (b', q', l', n', c')) => .bool (.tm (sameB (l.take n) (l'.take n')))
  mat vs m := match vs with
    | [.sl r 0 n c, .sl r' 0 n' c', .fn (.func 36) [] []] => match nth m r, nth m r' with
      | ⟨b, q, _, _, _, .rows 53 l⟩, ⟨b', q', _, _, _, .rows 53 l'⟩ => some (((b, q, l, n, c), (b', q', l', n', c')), [r, r'])
      | _, _ => none
    | _ => none
  ok := fun ((b, q, l, n, c), (b', q', l', n', c')) h => equal_ok b q l n c b' q' l' n' c' h.1 h.2.1 h.2.2
theorem equal_nn : Tells (C := C0) Tryd.prog (.fn 35) [] [.nils, .nils, .fn (.func 36) [] []] (.bool .t) := by
  refine loc_pc (P := Tryd.prog) (E := ⟨[], [pcAlike], 32, []⟩) (L := [⟨4, Unit, fun _ => [(17, .int .i64 0)], fun _ m => m, fun _ => True, fun _ => 0⟩]) mix Tryd.func35 rfl (by kernel_rfl) (by kernel_rfl) rfl rfl ?_
  ((conv => (arg 1; reduce)); with_reducible repeat' (first | exact Tr.yes_h | refine Tr.and_h ?_ ?_ | refine Tr.imp_h fun _ => ?_ | refine Tr.all_h fun _ => ?_ | refine Tr.lf_h ?_))
  all_goals try (first | first | (show Region.lexB _ _ = true; kernel_rfl) | (show planned _ _ = true; kernel_rfl) | exact rfl | exact True.intro | (first | exact key3 | exact key30 | exact zero3 | exact zero53 | exact eq30 | exact ⟨key3, zero53⟩ | exact ⟨key30, zero3⟩) | ((try dsimp only [imp, C0, cG, cInt, cPl, cSlot, cDo] at *); (try refine inR64 ?_ ?_) <;> (try simp only [List.length_set, List.length_append, List.length_take, List.length_drop]) <;> omega))
  all_goals try exact absurd (by with_reducible assumption : decide ((0 : Int) < 0) = true) (by decide)
  all_goals try exact absurd (by with_reducible assumption : decide ((0 : Int) ≠ 0) = true) (by decide)
  refine Stands.one () ⟨trivial, ?_⟩
  ((conv => (arg 1; reduce)); with_reducible repeat' (first | exact Tr.yes_h | refine Tr.and_h ?_ ?_ | refine Tr.imp_h fun _ => ?_ | refine Tr.all_h fun _ => ?_ | refine Tr.lf_h ?_))
  all_goals (first | first | (show Region.lexB _ _ = true; kernel_rfl) | (show planned _ _ = true; kernel_rfl) | exact rfl | exact True.intro | (first | exact key3 | exact key30 | exact zero3 | exact zero53 | exact eq30 | exact ⟨key3, zero53⟩ | exact ⟨key30, zero3⟩) | ((try dsimp only [imp, C0, cG, cInt, cPl, cSlot, cDo] at *); (try refine inR64 ?_ ?_) <;> (try simp only [List.length_set, List.length_append, List.length_take, List.length_drop]) <;> omega))
def pcEqualN : Pc Tryd.prog C0 where
  tg := .fn 35
  X := Unit
  args := fun _ => [.nils, .nils, .fn (.func 36) [] []]
  mem := fun _ => []
  pre := fun _ => True
  res := fun _ => .bool .t
  mat vs m := match vs with
    | [.nils, .nils, .fn (.func 36) [] []] => some ((), [])
    | _ => none
  ok := fun _ _ => equal_nn
theorem equal_ns (b q : Nat) (l : List Slot) (n c : Nat) (h0 : 0 < n) : Tells (C := C0) Tryd.prog (.fn 35) [⟨b, q, 9, false, none, .rows 53 l⟩] [.nils, .sl 0 0 n c, .fn (.func 36) [] []] (.bool .f) := by
  refine loc_pc (P := Tryd.prog) (E := ⟨[], [pcAlike], 32, []⟩) (L := [⟨4, Unit, fun _ => [(17, .int .i64 0)], fun _ m => m, fun _ => True, fun _ => 0⟩]) mix Tryd.func35 rfl (by kernel_rfl) (by kernel_rfl) rfl rfl ?_
  ((conv => (arg 1; reduce)); with_reducible repeat' (first | exact Tr.yes_h | refine Tr.and_h ?_ ?_ | refine Tr.imp_h fun _ => ?_ | refine Tr.all_h fun _ => ?_ | refine Tr.lf_h ?_))
  all_goals try (first | first | (show Region.lexB _ _ = true; kernel_rfl) | (show planned _ _ = true; kernel_rfl) | exact rfl | exact True.intro | (first | exact key3 | exact key30 | exact zero3 | exact zero53 | exact eq30 | exact ⟨key3, zero53⟩ | exact ⟨key30, zero3⟩) | ((try dsimp only [imp, C0, cG, cInt, cPl, cSlot, cDo] at *); (try refine inR64 ?_ ?_) <;> (try simp only [List.length_set, List.length_append, List.length_take, List.length_drop]) <;> omega))
  all_goals (
    have h := ‹decide ((0 : Int) ≠ (n : Int)) = false›
    have h := of_decide_eq_false h
    omega)
def pcEqualA : Pc Tryd.prog C0 where
  tg := .fn 35
  X := Nat × Nat × List Slot × Nat × Nat
  args := fun (b, q, l, n, c) => [.nils, .sl 0 0 n c, .fn (.func 36) [] []]
  mem := fun (b, q, l, n, c) => [⟨b, q, 9, false, none, .rows 53 l⟩]
  pre := fun (b, q, l, n, c) => 0 < n
  res := fun (b, q, l, n, c) => .bool .f
  mat vs m := match vs with
    | [.nils, .sl r 0 n c, .fn (.func 36) [] []] => match nth m r with
      | ⟨b, q, _, _, _, .rows 53 l⟩ => some ((b, q, l, n, c), [r])
      | _ => none
    | _ => none
  ok := fun (b, q, l, n, c) h => equal_ns b q l n c h
theorem equal_sn (b q : Nat) (l : List Slot) (n c : Nat) (h0 : 0 < n) : Tells (C := C0) Tryd.prog (.fn 35) [⟨b, q, 9, false, none, .rows 53 l⟩] [.sl 0 0 n c, .nils, .fn (.func 36) [] []] (.bool .f) := by
  refine loc_pc (P := Tryd.prog) (E := ⟨[], [pcAlike], 32, []⟩) (L := [⟨4, Unit, fun _ => [(17, .int .i64 0)], fun _ m => m, fun _ => True, fun _ => 0⟩]) mix Tryd.func35 rfl (by kernel_rfl) (by kernel_rfl) rfl rfl ?_
  ((conv => (arg 1; reduce)); with_reducible repeat' (first | exact Tr.yes_h | refine Tr.and_h ?_ ?_ | refine Tr.imp_h fun _ => ?_ | refine Tr.all_h fun _ => ?_ | refine Tr.lf_h ?_))
  all_goals try (first | first | (show Region.lexB _ _ = true; kernel_rfl) | (show planned _ _ = true; kernel_rfl) | exact rfl | exact True.intro | (first | exact key3 | exact key30 | exact zero3 | exact zero53 | exact eq30 | exact ⟨key3, zero53⟩ | exact ⟨key30, zero3⟩) | ((try dsimp only [imp, C0, cG, cInt, cPl, cSlot, cDo] at *); (try refine inR64 ?_ ?_) <;> (try simp only [List.length_set, List.length_append, List.length_take, List.length_drop]) <;> omega))
  all_goals (
    have h := ‹decide ((n : Int) ≠ (0 : Int)) = false›
    have h := of_decide_eq_false h
    omega)
def pcEqualB : Pc Tryd.prog C0 where
  tg := .fn 35
  X := Nat × Nat × List Slot × Nat × Nat
  args := fun (b, q, l, n, c) => [.sl 0 0 n c, .nils, .fn (.func 36) [] []]
  mem := fun (b, q, l, n, c) => [⟨b, q, 9, false, none, .rows 53 l⟩]
  pre := fun (b, q, l, n, c) => 0 < n
  res := fun (b, q, l, n, c) => .bool .f
  mat vs m := match vs with
    | [.sl r 0 n c, .nils, .fn (.func 36) [] []] => match nth m r with
      | ⟨b, q, _, _, _, .rows 53 l⟩ => some ((b, q, l, n, c), [r])
      | _ => none
    | _ => none
  ok := fun (b, q, l, n, c) h => equal_sn b q l n c h
end Go.Vx
set_option linter.unusedSectionVars false
set_option linter.unusedVariables false
set_option linter.unusedSimpArgs false
namespace Go.Vx
open Go Go.Proofs

def srtK (L : List Slot) : List Slot := L.mergeSort fun a b => decide (a.key ≤ b.key)
theorem srtK_srt (L : List Slot) : Srt leKey L (srtK L) := by
  refine ⟨List.mergeSort_perm _ _, ?_⟩
  have := List.pairwise_mergeSort (le := fun a b : Slot => decide (a.key ≤ b.key)) (fun a b c h1 h2 => by simp at *; omega) (fun a b => by simp; omega) L
  exact this.imp fun h => of_decide_eq_true h
theorem srtK_one {L l' : List Slot} (hL : Lok L) (h : Srt leKey L l') : l' = srtK L := by
  refine List.Perm.eq_of_pairwise (le := leKey) (fun a b ha hb h1 h2 => ?_) h.ord (srtK_srt L).ord (h.perm.trans (srtK_srt L).perm.symm)
  exact hL.key (h.perm.mem_iff.1 ha) ((srtK_srt L).perm.mem_iff.1 hb) (Int.le_antisymm h1 h2)
theorem sameB_iff : ∀ {A B : List Slot}, sameB A B = true ↔ A.length = B.length ∧ ∀ i, i < A.length → alikeB (A.getD i slot0) (B.getD i slot0) = true
  | [], [] => by simp [sameB]
  | [], _ :: _ => by simp [sameB]
  | _ :: _, [] => by simp [sameB]
  | a :: A, b :: B => by
    simp only [sameB, Bool.and_eq_true, sameB_iff (A := A) (B := B), List.length_cons, Nat.add_right_cancel_iff]
    constructor
    · rintro ⟨h1, h2, h3⟩
      refine ⟨h2, fun i hi => ?_⟩
      cases i with
      | zero => exact h1
      | succ i => exact h3 i (by omega)
    · rintro ⟨h2, h3⟩
      exact ⟨h3 0 (by omega), h2, fun i hi => h3 (i + 1) (by omega)⟩
theorem alikeB_comm (a b : Slot) : alikeB a b = alikeB b a := by
  unfold alikeB
  rw [decide_eq_decide.2 (eq_comm : a.key = b.key ↔ _), decide_eq_decide.2 (eq_comm : a.pl.1 = b.pl.1 ↔ _), decide_eq_decide.2 (eq_comm : a.pl.2 = b.pl.2 ↔ _), decide_eq_decide.2 (eq_comm : a.me.seq = b.me.seq ↔ _), decide_eq_decide.2 (eq_comm : a.me.kind = b.me.kind ↔ _)]
theorem alikeB_self (a : Slot) : alikeB a a = true := by simp [alikeB]
theorem sameB_comm : ∀ (A B : List Slot), sameB A B = sameB B A
  | [], [] => rfl
  | [], _ :: _ => rfl
  | _ :: _, [] => rfl
  | a :: A, b :: B => by simp only [sameB, alikeB_comm a b, sameB_comm A B]
theorem sameB_self : ∀ (A : List Slot), sameB A A = true
  | [] => rfl
  | a :: A => by simp [sameB, alikeB_self, sameB_self A]
/-- The other one has that key, and says the same of it. -/
def good (M : List Slot) (s : Slot) : Bool :=
  lhas M s.key && (decide ((lget M s.key).pl.1 = s.pl.1) && decide ((lget M s.key).pl.2 = s.pl.2)) && decide ((lget M s.key).me.seq = s.me.seq) && decide ((lget M s.key).me.kind = s.me.kind)
theorem keys_one {A B : List Int} (hA : A.Pairwise (· ≤ ·)) (hB : B.Pairwise (· ≤ ·)) (nA : A.Nodup) (nB : B.Nodup) (hl : A.length = B.length) (hs : ∀ a ∈ A, a ∈ B) : A = B := by
  have hs' : ∀ b ∈ B, b ∈ A := by
    intro b hb
    refine Classical.byContradiction fun hn => ?_
    have h1 : (b :: A).Nodup := List.nodup_cons.2 ⟨hn, nA⟩
    have h2 : (b :: A).length ≤ B.length := h1.length_le_of_subset (fun x hx => by
      rcases List.mem_cons.1 hx with rfl | hx
      · exact hb
      · exact hs x hx)
    simp only [List.length_cons] at h2
    omega
  have hp : A.Perm B := (List.perm_ext_iff_of_nodup nA nB).2 fun a => ⟨hs a, hs' a⟩
  exact List.Perm.eq_of_pairwise (le := (· ≤ ·)) (fun a b _ _ h1 h2 => Int.le_antisymm h1 h2) hA hB hp
theorem getD_map_key {A : List Slot} {i : Nat} (h : i < A.length) : (A.map (·.key)).getD i 0 = (A.getD i slot0).key := by
  simp [List.getD, h]
theorem getD_mem {A : List Slot} {i : Nat} (h : i < A.length) : A.getD i slot0 ∈ A := by
  have : A.getD i slot0 = A[i] := by simp [List.getD, h]
  rw [this]; exact List.getElem_mem h
theorem same_good {L M : List Slot} (hL : Lok L) (hM : Lok M) : sameB (srtK L) (srtK M) = (decide (((srtK L).length : Int) = (M.length : Int)) && (srtK L).all (good M)) := by
  have pL := srtK_srt L
  have pM := srtK_srt M
  have nL : ((srtK L).map (·.key)).Nodup := (pL.perm.map _).symm.nodup hL.nk
  have nM : ((srtK M).map (·.key)).Nodup := (pM.perm.map _).symm.nodup hM.nk
  have lM := pM.perm.length_eq
  refine Bool.eq_iff_iff.2 ?_
  rw [sameB_iff, Bool.and_eq_true, decide_eq_true_eq, List.all_eq_true]
  constructor
  · rintro ⟨h1, h2⟩
    refine ⟨by omega, fun s hs => ?_⟩
    obtain ⟨i, hi, rfl⟩ := List.getElem_of_mem hs
    have h3 := h2 i hi
    have e1 : (srtK L).getD i slot0 = (srtK L)[i] := by simp [List.getD, hi]
    rw [e1] at h3
    have hb : (srtK M).getD i slot0 ∈ M := pM.perm.mem_iff.1 (getD_mem (by omega))
    generalize (srtK M).getD i slot0 = b at h3 hb
    generalize (srtK L)[i] = a at h3
    simp only [alikeB, Bool.and_eq_true, decide_eq_true_eq] at h3
    obtain ⟨⟨⟨k, p1, p2⟩, sq⟩, kd⟩ := h3
    have hh : lhas M a.key = true := lhas_iff.2 ⟨b, hb, k.symm⟩
    have hg : lget M a.key = b := by rw [k]; exact hM.get hb
    simp only [good, hh, hg, Bool.true_and, Bool.and_eq_true, decide_eq_true_eq]
    exact ⟨⟨⟨p1.symm, p2.symm⟩, sq.symm⟩, kd.symm⟩
  · rintro ⟨h1, h2⟩
    have hlen : (srtK L).length = (srtK M).length := by omega
    have hkeys : (srtK L).map (·.key) = (srtK M).map (·.key) := by
      refine keys_one (List.pairwise_map.2 pL.ord) (List.pairwise_map.2 pM.ord) nL nM (by simpa using hlen) ?_
      intro k hk
      obtain ⟨a, ha, rfl⟩ := List.mem_map.1 hk
      have hg := h2 a ha
      simp only [good, Bool.and_eq_true] at hg
      obtain ⟨b, hb, hbk⟩ := lhas_iff.1 hg.1.1.1
      exact List.mem_map.2 ⟨b, pM.perm.mem_iff.2 hb, hbk⟩
    refine ⟨hlen, fun i hi => ?_⟩
    have hk : ((srtK L).getD i slot0).key = ((srtK M).getD i slot0).key := by
      rw [← getD_map_key hi, ← getD_map_key (by omega), hkeys]
    have hg := h2 _ (getD_mem hi)
    have hb : (srtK M).getD i slot0 ∈ M := pM.perm.mem_iff.1 (getD_mem (by omega))
    generalize (srtK M).getD i slot0 = b at hk hb
    generalize (srtK L).getD i slot0 = a at hk hg
    have hgt : lget M a.key = b := by rw [hk]; exact hM.get hb
    simp only [good, hgt, Bool.and_eq_true, decide_eq_true_eq] at hg
    obtain ⟨⟨⟨_, p1, p2⟩, sq⟩, kd⟩ := hg
    simp only [alikeB, Bool.and_eq_true, decide_eq_true_eq]
    exact ⟨⟨⟨hk, p1.symm, p2.symm⟩, sq.symm⟩, kd.symm⟩
end Go.Vx
set_option linter.unusedSectionVars false
set_option maxRecDepth 100000
set_option linter.unusedVariables false
set_option linter.unusedSimpArgs false
namespace Go.Vx
open Go Go.Proofs
variable [Gl]

/-- The reference's table in memory: its slots are rows from the first on. -/
structure Rt where
  bp : Nat
  bq : Nat
  bs : Int
  ps : Int
  b : Nat
  q : Nat
  l : List Slot
  n : Nat
  c : Nat
abbrev rtm (w : Bool) : Rt → List (Ck C0)
  | ⟨bp, bq, bs, ps, b, q, l, n, c⟩ => [⟨bp, bq, 3, w, none, .one [.int .i64 bs, .int .i64 ps, .sl 1 0 n c]⟩, ⟨b, q, 9, false, none, .rows 56 l⟩]
abbrev Rw := Nat × Nat × List Slot × Nat × Nat
/-- Behind a call that lays its list anew. -/
abbrev rtn : Rt → Rw → List (Ck C0)
  | ⟨bp, bq, bs, ps, b, q, l, n, c⟩, (b', q', l', n', c') => [⟨bp, bq, 3, true, none, .one [.int .i64 bs, .int .i64 ps, .sl 2 0 n' c']⟩, ⟨b, q, 9, false, none, .rows 56 l⟩, ⟨b', q', 9, true, none, .rows 56 l'⟩]
abbrev rl (x : Rt) : List Slot := x.l.take x.n
abbrev rlw (y : Rw) : List Slot := y.2.2.1.take y.2.2.2.1
structure Rk (l : List Slot) (n c : Nat) : Prop where
  cap : n ≤ c
  fit : c ≤ l.length
  few : n < 524288
theorem by56 : Tryd.prog.types[56].bytes = 72 := by kernel_rfl
theorem rl_len {l : List Slot} {n c : Nat} (h : Rk l n c) : (l.take n).length = n := by
  have := h.cap; have := h.fit
  rw [List.length_take]; omega
theorem rl_get {l : List Slot} {n j : Nat} (hj : j < n) : (l.take n).getD j slot0 = l.getD j slot0 := by
  simp [List.getD, List.getElem?_take, hj]
structure Dr (R : List Slot) (k : Int) (n i : Nat) : Prop where
  le : i ≤ n
  no : ∀ j, j < i → (R.getD j slot0).key ≠ k
def Dri (l : List Slot) (k : Int) (n : Nat) : Inv' C0 := ⟨2, Nat, fun i => [(5, .int .i64 (i : Int))], fun _ m => m, fun i => Dr (l.take n) k n i, fun i => n - i⟩
theorem Dr.none {R : List Slot} {k : Int} {n i : Nat} (h : Dr R k n i) (hi : n ≤ i) (hn : R.length = n) : lhas R k = false := by
  cases hh : lhas R k with
  | false => rfl
  | true =>
    obtain ⟨s, hs, hk⟩ := lhas_iff.1 hh
    obtain ⟨j, hj, rfl⟩ := List.getElem_of_mem hs
    have := h.no j (by omega)
    rw [show R.getD j slot0 = R[j] by simp [List.getD, hj]] at this
    exact (this hk).elim
theorem Dr.step {R : List Slot} {k : Int} {n i : Nat} (h : Dr R k n i) (hi : i < n) (hk : (R.getD i slot0).key ≠ k) : Dr R k n (i + 1) := by
  refine ⟨hi, fun j hj => ?_⟩
  rcases Nat.lt_succ_iff_lt_or_eq.1 hj with h1 | h1
  · exact h.no j h1
  · rw [h1]; exact hk
theorem del_at {R : List Slot} {k : Int} {i : Nat} (hn : (R.map (·.key)).Nodup) (hi : i < R.length) (hk : (R.getD i slot0).key = k) : lhas R k = true ∧ R.take i ++ R.drop (i + 1) = ldel R k := by
  have e : R.getD i slot0 = R[i] := by simp [List.getD, hi]
  rw [e] at hk
  refine ⟨lhas_iff.2 ⟨R[i], List.getElem_mem hi, hk⟩, ?_⟩
  have hR : R = R.take i ++ R[i] :: R.drop (i + 1) := by
    rw [← List.drop_eq_getElem_cons hi, List.take_append_drop]
  have hn' : ∀ s, s ∈ R.take i ∨ s ∈ R.drop (i + 1) → s.key ≠ k := by
    rw [hR, List.map_append, List.map_cons, List.nodup_append] at hn
    obtain ⟨_, h2, h3⟩ := hn
    rw [List.nodup_cons] at h2
    intro s hs
    rcases hs with hs | hs
    · have := h3 s.key (List.mem_map.2 ⟨s, hs, rfl⟩) R[i].key (by simp)
      rw [hk] at this; exact this
    · intro he
      exact h2.1 (by rw [hk, ← he]; exact List.mem_map.2 ⟨s, hs, rfl⟩)
  unfold ldel
  conv => rhs; rw [hR]
  rw [List.filter_append, List.filter_cons_of_neg (by simp [hk]), List.filter_eq_self.2 (fun s hs => by simp [hn' s (.inl hs)]), List.filter_eq_self.2 (fun s hs => by simp [hn' s (.inr hs)])]
theorem fst_row {r l sp : List Slot} {n i : Nat} (hi : i ≤ n) (hl : n ≤ l.length) : (((r.drop 0).take 0 ++ (l.drop 0).take i ++ sp).drop 0).take (0 + i) = (l.take n).take i := by
  simp only [List.take_zero, List.nil_append, Nat.zero_add, List.drop_zero]
  rw [List.take_append_of_le_length (by simp; omega), List.take_take, List.take_take, Nat.min_self, Nat.min_eq_left hi]
theorem snd_row {l : List Slot} {n c j : Nat} (hj : j ≤ n) (hc : n ≤ c) (hl : c ≤ l.length) : (l.drop (srow c j 0)).take (n - j) = (l.take n).drop j := by
  unfold srow
  split
  · rw [show n - j = 0 by omega, List.take_zero, List.drop_of_length_le (by simp; omega)]
  · rw [List.drop_take]; rfl
theorem fst_len {r l sp : List Slot} {i c : Nat} (hi : i ≤ l.length) (h : c ≤ 0 + i + sp.length) : 0 + c ≤ ((r.drop 0).take 0 ++ (l.drop 0).take i ++ sp).length := by
  simp only [List.length_append, List.length_take, List.length_drop]
  omega
theorem srow_le {c j n l : Nat} (hj : j ≤ n) (hc : n ≤ c) (hl : c ≤ l) : srow c j 0 + (n - j) ≤ l := by
  unfold srow
  split <;> omega
set_option maxHeartbeats 8000000 in
theorem rdrop_ok (x : Rt) (k : Int) (h : Rk x.l x.n x.c) (hn : ((rl x).map (·.key)).Nodup) : Does (C := C0) Tryd.prog (.fn 14) (rtm true x) [.ptr 0 0 0, .int .i64 k]
    [⟨Unit, fun _ => lhas (rl x) k = false, fun _ => .bool .f, fun _ => rtm true x⟩,
     ⟨Rw, fun y => lhas (rl x) k = true ∧ rlw y = ldel (rl x) k ∧ y.2.2.2.1 + 1 = x.n ∧ y.2.2.2.1 ≤ y.2.2.2.2 ∧ y.2.2.2.2 ≤ y.2.2.1.length, fun _ => .bool .t, fun y => rtn x y⟩] := by
  refine loc_fn (P := Tryd.prog) (E := ⟨[], [], 51, [(5, [0], [.p 0, .p 1, .p 2, .p 3, .p 4, .p 6, .p 7, .p 8, .p 9, .p 10, .p 11, .e 5, .e 12, .p 13])]⟩) (L := [Dri x.l k x.n]) mix Tryd.func14 rfl (by kernel_rfl) (by kernel_rfl) rfl rfl ?_
  ((conv => (arg 1; reduce)); with_reducible repeat' (first | exact Tr.yes_h | refine Tr.and_h ?_ ?_ | refine Tr.imp_h fun _ => ?_ | refine Tr.all_h fun _ => ?_ | refine Tr.lf_h ?_))
  all_goals try (first | first | (show Region.lexB _ _ = true; kernel_rfl) | (show planned _ _ = true; kernel_rfl) | exact rfl | exact True.intro | (first | exact key3 | exact key30 | exact zero3 | exact zero53 | exact eq30 | exact ⟨key3, zero53⟩ | exact ⟨key30, zero3⟩) | ((try dsimp only [imp, C0, cG, cInt, cPl, cSlot, cDo] at *); (try refine inR64 ?_ ?_) <;> (try simp only [List.length_set, List.length_append, List.length_take, List.length_drop]) <;> omega))
  · refine Stands.one (0 : Nat) ⟨⟨Nat.zero_le _, fun j hj => absurd hj (Nat.not_lt_zero _)⟩, ?_⟩
    ((conv => (arg 1; reduce)); with_reducible repeat' (first | exact Tr.yes_h | refine Tr.and_h ?_ ?_ | refine Tr.imp_h fun _ => ?_ | refine Tr.all_h fun _ => ?_ | refine Tr.lf_h ?_))
    all_goals (first | first | (show Region.lexB _ _ = true; kernel_rfl) | (show planned _ _ = true; kernel_rfl) | exact rfl | exact True.intro | (first | exact key3 | exact key30 | exact zero3 | exact zero53 | exact eq30 | exact ⟨key3, zero53⟩ | exact ⟨key30, zero3⟩) | ((try dsimp only [imp, C0, cG, cInt, cPl, cSlot, cDo] at *); (try refine inR64 ?_ ?_) <;> (try simp only [List.length_set, List.length_append, List.length_take, List.length_drop]) <;> omega))
  · rename_i i hi hc
    exact of_decide_eq_true hc
  · rename_i i hi hc
    change Nat at i
    have hc := of_decide_eq_true hc
    have g1 := h.cap
    have g2 := h.fit
    have g3 := h.few
    show (i : Int).toNat + 0 < x.l.length
    omega
  · rename_i i hi hc hk
    change Nat at i
    have hc := of_decide_eq_true hc
    have g1 := h.cap
    have g2 := h.fit
    have g3 := h.few
    show (i : Int) ≤ (x.c : Int)
    omega
  · rename_i i hi hc hk
    change Nat at i
    have hc := of_decide_eq_true hc
    have g1 := h.cap
    have g2 := h.fit
    have g3 := h.few
    rw [by56]
    exact ⟨Int.le_refl 0, by omega, by omega, by omega⟩
  · rename_i i hi hc hk b1
    change Nat at i
    have hc := of_decide_eq_true hc
    have g1 := h.cap
    have g2 := h.fit
    have g3 := h.few
    rw [by56]
    exact ⟨Nat.zero_le _, by simp, by show 0 + (i : Int).toNat ≤ x.l.length; omega, by show (Int.toNat 0 + (i : Int).toNat) * 72 ≤ _; omega⟩
  · rename_i i hi hc hk b1 b2 q2 sp cap h1 h2
    change Nat at i
    have hc := of_decide_eq_true hc
    have g1 := h.cap
    have g2 := h.fit
    have g3 := h.few
    exact inR64 (by show _ ≤ (i : Int) + 1; omega) (by show (i : Int) + 1 ≤ _; omega)
  · rename_i i hi hc hk b1 b2 q2 sp cap h1 h2
    change Nat at i
    have hc := of_decide_eq_true hc
    have g1 := h.cap
    have g2 := h.fit
    have g3 := h.few
    show (i : Int) + 1 ≤ (x.n : Int)
    omega
  · rename_i i hi hc hk b1 b2 q2 sp cap h1 h2
    change Nat at i
    have hc := of_decide_eq_true hc
    have g1 := h.cap
    have g2 := h.fit
    have g3 := h.few
    rw [by56]
    refine ⟨h1, fst_len (l := x.l) (i := i) (by omega) h2, srow_le (j := i + 1) (by omega) g1 g2, ?_⟩
    show (Int.toNat 0 + (i : Int).toNat + (x.n - ((i : Int) + 1).toNat)) * 72 ≤ 140737488355328
    omega
  · rename_i i hi hc hk b1 b2 q2 sp cap h1 h2 b3 q3 sp3 cap3 h3 h4
    change Nat at i
    have hc := of_decide_eq_true hc
    have g1 := h.cap
    have g2 := h.fit
    have g3 := h.few
    have h3 : 0 + i + (x.n - (i + 1)) ≤ cap3 := h3
    have h4 : cap3 ≤ 0 + i + (x.n - (i + 1)) + sp3.length := h4
    have hk := of_decide_eq_true hk
    have hk : ((rl x).getD i slot0).key = k := by rw [rl_get (by omega)]; exact hk
    have hL := rl_len h
    have hL : (rl x).length = x.n := hL
    obtain ⟨k1, k2⟩ := del_at hn (i := i) (by omega) hk
    have e1 : ((((List.replicate (x.n : Int).toNat slot0).drop 0).take 0 ++ (x.l.drop 0).take i ++ sp).drop 0).take (0 + i) = (rl x).take i := fst_row (by omega) (by omega)
    have e2 : (x.l.drop (srow x.c (i + 1) 0)).take (x.n - (i + 1)) = (rl x).drop (i + 1) := snd_row (by omega) g1 g2
    have hl : ((rl x).take i ++ (rl x).drop (i + 1)).length = x.n - 1 := by
      simp only [List.length_append, List.length_take, List.length_drop, hL]
      omega
    have e3 : ((((List.replicate (x.n : Int).toNat slot0).drop 0).take 0 ++ (x.l.drop 0).take i ++ sp).drop 0).take (0 + i) ++ (x.l.drop (srow x.c (i + 1) 0)).take (x.n - (i + 1)) ++ sp3 = ((rl x).take i ++ (rl x).drop (i + 1)) ++ sp3 := by rw [e1, e2]
    have e4 : 0 + i + (x.n - (i + 1)) = x.n - 1 := by omega
    refine Ends.next (Ends.one (b3, q3, ((rl x).take i ++ (rl x).drop (i + 1)) ++ sp3, x.n - 1, cap3) ⟨k1, ?_, ?_, ?_, ?_⟩ ?_)
    · show (((rl x).take i ++ (rl x).drop (i + 1)) ++ sp3).take (x.n - 1) = _
      rw [List.take_append_of_le_length (by omega), List.take_of_length_le (by omega)]
      exact k2
    · show x.n - 1 + 1 = x.n
      omega
    · show x.n - 1 ≤ cap3
      omega
    · show cap3 ≤ (((rl x).take i ++ (rl x).drop (i + 1)) ++ sp3).length
      rw [List.length_append]; omega
    ((conv => (arg 1; reduce)); with_reducible repeat' (first | exact Tr.yes_h | refine Tr.and_h ?_ ?_ | refine Tr.imp_h fun _ => ?_ | refine Tr.all_h fun _ => ?_ | refine Tr.lf_h ?_))
    all_goals first | (first | first | (show Region.lexB _ _ = true; kernel_rfl) | (show planned _ _ = true; kernel_rfl) | exact rfl | exact True.intro | (first | exact key3 | exact key30 | exact zero3 | exact zero53 | exact eq30 | exact ⟨key3, zero53⟩ | exact ⟨key30, zero3⟩) | ((try dsimp only [imp, C0, cG, cInt, cPl, cSlot, cDo] at *); (try refine inR64 ?_ ?_) <;> (try simp only [List.length_set, List.length_append, List.length_take, List.length_drop]) <;> omega)) | exact e3 | exact e3.symm | exact e4 | exact e4.symm
  · rename_i i hi hc hk
    change Nat at i
    have hc := of_decide_eq_true hc
    have g1 := h.cap
    have g2 := h.fit
    have g3 := h.few
    exact inR64 (by show _ ≤ (i : Int) + 1; omega) (by show (i : Int) + 1 ≤ _; omega)
  · rename_i i hi hc hk
    change Nat at i
    have hc := of_decide_eq_true hc
    have g1 := h.cap
    have g2 := h.fit
    have g3 := h.few
    have hk := of_decide_eq_false hk
    refine Stands.one (Nat.succ i) ⟨hi.step (by omega) (by rw [rl_get (by omega)]; exact hk), ?_, ?_⟩
    · show x.n - (i + 1) < x.n - i
      omega
    ((conv => (arg 1; reduce)); with_reducible repeat' (first | exact Tr.yes_h | refine Tr.and_h ?_ ?_ | refine Tr.imp_h fun _ => ?_ | refine Tr.all_h fun _ => ?_ | refine Tr.lf_h ?_))
    all_goals (first | first | (show Region.lexB _ _ = true; kernel_rfl) | (show planned _ _ = true; kernel_rfl) | exact rfl | exact True.intro | (first | exact key3 | exact key30 | exact zero3 | exact zero53 | exact eq30 | exact ⟨key3, zero53⟩ | exact ⟨key30, zero3⟩) | ((try dsimp only [imp, C0, cG, cInt, cPl, cSlot, cDo] at *); (try refine inR64 ?_ ?_) <;> (try simp only [List.length_set, List.length_append, List.length_take, List.length_drop]) <;> omega))
  · rename_i i hi hc
    change Nat at i
    have hc := of_decide_eq_false hc
    refine Ends.one () (hi.none (by omega) (rl_len h)) ?_
    ((conv => (arg 1; reduce)); with_reducible repeat' (first | exact Tr.yes_h | refine Tr.and_h ?_ ?_ | refine Tr.imp_h fun _ => ?_ | refine Tr.all_h fun _ => ?_ | refine Tr.lf_h ?_))
    all_goals (first | first | (show Region.lexB _ _ = true; kernel_rfl) | (show planned _ _ = true; kernel_rfl) | exact rfl | exact True.intro | (first | exact key3 | exact key30 | exact zero3 | exact zero53 | exact eq30 | exact ⟨key3, zero53⟩ | exact ⟨key30, zero3⟩) | ((try dsimp only [imp, C0, cG, cInt, cPl, cSlot, cDo] at *); (try refine inR64 ?_ ?_) <;> (try simp only [List.length_set, List.length_append, List.length_take, List.length_drop]) <;> omega))
noncomputable def fcRDrop : Fc Tryd.prog C0 where
  tg := .fn 14
  X := Rt × Int
  args := fun (x, k) => [.ptr 0 0 0, .int .i64 k]
  mem := fun (x, k) => rtm true x
  pre := fun (x, k) => Rk x.l x.n x.c ∧ ((rl x).map (·.key)).Nodup
  alts := fun (x, k) => [⟨Unit, fun _ => lhas (rl x) k = false, fun _ => .bool .f, fun _ => rtm true x⟩,
     ⟨Rw, fun y => lhas (rl x) k = true ∧ rlw y = ldel (rl x) k ∧ y.2.2.2.1 + 1 = x.n ∧ y.2.2.2.1 ≤ y.2.2.2.2 ∧ y.2.2.2.2 ≤ y.2.2.1.length, fun _ => .bool .t, fun y => rtn x y⟩]
  mat vs m := match vs with
    | [.ptr p 0 0, .int _ k] => match nth m p with
      | ⟨bp, bq, _, _, _, .one [.int _ bs, .int _ ps, .sl r 0 n c]⟩ => match nth m r with
        | ⟨b, q, _, _, _, .rows 56 l⟩ => some ((⟨bp, bq, bs, ps, b, q, l, n, c⟩, k), [p, r])
        | _ => none
      | _ => none
    | _ => none
  ok := fun (x, k) h => rdrop_ok x k h.1 h.2
/-- The table whose list is nil. -/
abbrev rtz (bp bq : Nat) (bs ps : Int) : List (Ck C0) := [⟨bp, bq, 3, true, none, .one [.int .i64 bs, .int .i64 ps, .nils]⟩]
theorem rdrop_nil (bp bq : Nat) (bs ps : Int) (k : Int) : Does (C := C0) Tryd.prog (.fn 14) (rtz bp bq bs ps) [.ptr 0 0 0, .int .i64 k] [⟨Unit, fun _ => True, fun _ => .bool .f, fun _ => rtz bp bq bs ps⟩] := by
  refine loc_fn (P := Tryd.prog) (E := ⟨[], [], 51, [(5, [0], [.p 0, .p 1, .p 2, .p 3, .p 4, .p 6, .p 7, .p 8, .p 9, .p 10, .p 11, .e 5, .e 12, .p 13])]⟩) (L := [⟨2, Unit, fun _ => [(5, .int .i64 0)], fun _ m => m, fun _ => True, fun _ => 0⟩]) mix Tryd.func14 rfl (by kernel_rfl) (by kernel_rfl) rfl rfl ?_
  ((conv => (arg 1; reduce)); with_reducible repeat' (first | exact Tr.yes_h | refine Tr.and_h ?_ ?_ | refine Tr.imp_h fun _ => ?_ | refine Tr.all_h fun _ => ?_ | refine Tr.lf_h ?_))
  all_goals try (first | first | (show Region.lexB _ _ = true; kernel_rfl) | (show planned _ _ = true; kernel_rfl) | exact rfl | exact True.intro | (first | exact key3 | exact key30 | exact zero3 | exact zero53 | exact eq30 | exact ⟨key3, zero53⟩ | exact ⟨key30, zero3⟩) | ((try dsimp only [imp, C0, cG, cInt, cPl, cSlot, cDo] at *); (try refine inR64 ?_ ?_) <;> (try simp only [List.length_set, List.length_append, List.length_take, List.length_drop]) <;> omega))
  all_goals try exact absurd (by with_reducible assumption : decide ((0 : Int) < 0) = true) (by decide)
  · refine Stands.one () ⟨trivial, ?_⟩
    ((conv => (arg 1; reduce)); with_reducible repeat' (first | exact Tr.yes_h | refine Tr.and_h ?_ ?_ | refine Tr.imp_h fun _ => ?_ | refine Tr.all_h fun _ => ?_ | refine Tr.lf_h ?_))
    all_goals (first | first | (show Region.lexB _ _ = true; kernel_rfl) | (show planned _ _ = true; kernel_rfl) | exact rfl | exact True.intro | (first | exact key3 | exact key30 | exact zero3 | exact zero53 | exact eq30 | exact ⟨key3, zero53⟩ | exact ⟨key30, zero3⟩) | ((try dsimp only [imp, C0, cG, cInt, cPl, cSlot, cDo] at *); (try refine inR64 ?_ ?_) <;> (try simp only [List.length_set, List.length_append, List.length_take, List.length_drop]) <;> omega))
  · refine Ends.one () trivial ?_
    ((conv => (arg 1; reduce)); with_reducible repeat' (first | exact Tr.yes_h | refine Tr.and_h ?_ ?_ | refine Tr.imp_h fun _ => ?_ | refine Tr.all_h fun _ => ?_ | refine Tr.lf_h ?_))
    all_goals (first | first | (show Region.lexB _ _ = true; kernel_rfl) | (show planned _ _ = true; kernel_rfl) | exact rfl | exact True.intro | (first | exact key3 | exact key30 | exact zero3 | exact zero53 | exact eq30 | exact ⟨key3, zero53⟩ | exact ⟨key30, zero3⟩) | ((try dsimp only [imp, C0, cG, cInt, cPl, cSlot, cDo] at *); (try refine inR64 ?_ ?_) <;> (try simp only [List.length_set, List.length_append, List.length_take, List.length_drop]) <;> omega))
noncomputable def fcRDrop0 : Fc Tryd.prog C0 where
  tg := .fn 14
  X := Nat × Nat × Int × Int × Int
  args := fun (bp, bq, bs, ps, k) => [.ptr 0 0 0, .int .i64 k]
  mem := fun (bp, bq, bs, ps, k) => rtz bp bq bs ps
  pre := fun _ => True
  alts := fun (bp, bq, bs, ps, k) => [⟨Unit, fun _ => True, fun _ => .bool .f, fun _ => rtz bp bq bs ps⟩]
  mat vs m := match vs with
    | [.ptr p 0 0, .int _ k] => match nth m p with
      | ⟨bp, bq, _, _, _, .one [.int _ bs, .int _ ps, .nils]⟩ => some ((bp, bq, bs, ps, k), [p])
      | _ => none
    | _ => none
  ok := fun (bp, bq, bs, ps, k) _ => rdrop_nil bp bq bs ps k
end Go.Vx
set_option linter.unusedSectionVars false
set_option maxRecDepth 100000
set_option linter.unusedVariables false
set_option linter.unusedSimpArgs false
namespace Go.Vx
open Go Go.Proofs
variable [Gl]

/-- Rising keys, no two alike. -/
abbrev Ris (R : List Slot) : Prop := R.Pairwise fun a b => a.key < b.key
def rins (R : List Slot) (s : Slot) : List Slot := R.filter (fun t => decide (t.key < s.key)) ++ [s] ++ R.filter (fun t => decide (s.key < t.key))
/-- Another one's page. -/
def rtk (R : List Slot) (k : Int) (p : Pl) : Bool := R.any fun s => decide (s.key ≠ k) && (decide (s.pl.1 = p.1) && decide (s.pl.2 = p.2))
abbrev RFits (x : Rt) (k : Int) (p : Pl) : Prop := 0 ≤ k ∧ k ≤ 1073741824 ∧ 0 ≤ p.1 ∧ p.1 < x.bs ∧ 0 ≤ p.2 ∧ p.2 < x.ps
theorem count_ok (n : Int) : Tells (C := C0) Tryd.prog (.fn 25) [] [.int .i64 n] (.bool (.tm (decide (0 ≤ n) && decide (n ≤ 1073741824)))) := by
  refine loc_pc (P := Tryd.prog) (E := ⟨[], [], 9, []⟩) (L := []) mix Tryd.func25 rfl (by kernel_rfl) (by kernel_rfl) rfl rfl ?_
  ((conv => (arg 1; reduce)); with_reducible repeat' (first | exact Tr.yes_h | refine Tr.and_h ?_ ?_ | refine Tr.imp_h fun _ => ?_ | refine Tr.all_h fun _ => ?_ | refine Tr.lf_h ?_))
  all_goals try (first | first | (show Region.lexB _ _ = true; kernel_rfl) | (show planned _ _ = true; kernel_rfl) | exact rfl | exact True.intro | (first | exact key3 | exact key30 | exact zero3 | exact zero53 | exact eq30 | exact ⟨key3, zero53⟩ | exact ⟨key30, zero3⟩) | ((try dsimp only [imp, C0, cG, cInt, cPl, cSlot, cDo] at *); (try refine inR64 ?_ ?_) <;> (try simp only [List.length_set, List.length_append, List.length_take, List.length_drop]) <;> omega))
def pcCount : Pc Tryd.prog C0 where
  tg := .fn 25
  X := Int
  args n := [.int .i64 n]
  mem _ := []
  pre _ := True
  res n := .bool (.tm (decide (0 ≤ n) && decide (n ≤ 1073741824)))
  mat vs _ := match vs with
    | [.int _ n] => some (n, [])
    | _ => none
  ok n _ := count_ok n
structure R4 (R : List Slot) (k : Int) (p : Pl) (n i : Nat) : Prop where
  le : i ≤ n
  no : ∀ j, j < i → (decide ((R.getD j slot0).key ≠ k) && (decide ((R.getD j slot0).pl.1 = p.1) && decide ((R.getD j slot0).pl.2 = p.2))) = false
def S4 (l : List Slot) (k : Int) (p : Pl) (n : Nat) : Inv' C0 := ⟨4, Nat, fun i => [(11, .int .i64 (i : Int))], fun _ m => m, fun i => R4 (l.take n) k p n i, fun i => n - i⟩
structure R9 (R : List Slot) (k : Int) (n i : Nat) : Prop where
  le : i ≤ n
  lt : ∀ j, j < i → (R.getD j slot0).key < k
def S9 (l : List Slot) (k : Int) (n : Nat) : Inv' C0 := ⟨9, Nat, fun i => [(12, .int .i64 (i : Int))], fun _ m => m, fun i => R9 (l.take n) k n i, fun i => n - i⟩
theorem R4.none {R : List Slot} {k : Int} {p : Pl} {n i : Nat} (h : R4 R k p n i) (hi : n ≤ i) (hn : R.length = n) : rtk R k p = false := by
  cases hh : rtk R k p with
  | false => rfl
  | true =>
    obtain ⟨s, hs, hk⟩ := List.any_eq_true.1 hh
    obtain ⟨j, hj, rfl⟩ := List.getElem_of_mem hs
    have := h.no j (by omega)
    rw [show R.getD j slot0 = R[j] by simp [List.getD, hj]] at this
    rw [this] at hk; cases hk
theorem R4.step {R : List Slot} {k : Int} {p : Pl} {n i : Nat} (h : R4 R k p n i) (hi : i < n) (hk : (decide ((R.getD i slot0).key ≠ k) && (decide ((R.getD i slot0).pl.1 = p.1) && decide ((R.getD i slot0).pl.2 = p.2))) = false) : R4 R k p n (i + 1) := by
  refine ⟨hi, fun j hj => ?_⟩
  rcases Nat.lt_succ_iff_lt_or_eq.1 hj with h1 | h1
  · exact h.no j h1
  · rw [h1]; exact hk
theorem R4.is {R : List Slot} {k : Int} {p : Pl} {i : Nat} (hi : i < R.length) (hk : (decide ((R.getD i slot0).key ≠ k) && (decide ((R.getD i slot0).pl.1 = p.1) && decide ((R.getD i slot0).pl.2 = p.2))) = true) : rtk R k p = true := by
  rw [show R.getD i slot0 = R[i] by simp [List.getD, hi]] at hk
  exact List.any_eq_true.2 ⟨R[i], List.getElem_mem hi, hk⟩
theorem R9.step {R : List Slot} {k : Int} {n i : Nat} (h : R9 R k n i) (hi : i < n) (hk : (R.getD i slot0).key < k) : R9 R k n (i + 1) := by
  refine ⟨hi, fun j hj => ?_⟩
  rcases Nat.lt_succ_iff_lt_or_eq.1 hj with h1 | h1
  · exact h.lt j h1
  · rw [h1]; exact hk
section
variable {R : List Slot} {k : Int} {n i : Nat} (hR : Ris R) (h : R9 R k n i) (hn : R.length = n)
include hR h hn
theorem R9.parts (h2 : i < n → ¬ (R.getD i slot0).key < k) : (∀ s ∈ R.take i, s.key < k) ∧ ∀ s ∈ R.drop i, k ≤ s.key := by
  constructor
  · intro s hs
    obtain ⟨j, hj, rfl⟩ := List.getElem_of_mem hs
    rw [List.length_take] at hj
    have := h.lt j (by omega)
    rw [show R.getD j slot0 = R[j]'(by omega) by simp [List.getD, show j < R.length by omega]] at this
    simpa using this
  · intro s hs
    obtain ⟨j, hj, rfl⟩ := List.getElem_of_mem hs
    rw [List.length_drop] at hj
    have h3 := h2 (by omega)
    rw [show R.getD i slot0 = R[i]'(by omega) by simp [List.getD, show i < R.length by omega]] at h3
    rw [List.getElem_drop]
    by_cases hj0 : j = 0
    · subst hj0; simp only [Nat.add_zero]; omega
    · have := List.pairwise_iff_getElem.1 hR i (i + j) (by omega) (by omega) (by omega)
      omega
/-- The key is not there. -/
theorem R9.new (h2 : i < n → ¬ (R.getD i slot0).key < k) (h3 : (decide ((i : Int) < (n : Int)) && decide ((R.getD i slot0).key = k)) = false) : lhas R k = false ∧ lget R k = slot0 ∧ ∀ s : Slot, s.key = k → R.take i ++ [s] ++ R.drop i = rins R s := by
  obtain ⟨p1, p2⟩ := h.parts hR hn h2
  have h4 : i < n → (R.getD i slot0).key ≠ k := by
    intro hi hk
    rw [decide_eq_true (show (i : Int) < (n : Int) by omega), decide_eq_true hk] at h3
    cases h3
  have p3 : ∀ s ∈ R.drop i, k < s.key := by
    intro s hs
    have h5 := p2 s hs
    obtain ⟨j, hj, rfl⟩ := List.getElem_of_mem hs
    rw [List.length_drop] at hj
    rw [List.getElem_drop] at h5 ⊢
    have h6 := h4 (by omega)
    rw [show R.getD i slot0 = R[i]'(by omega) by simp [List.getD, show i < R.length by omega]] at h6
    by_cases hj0 : j = 0
    · subst hj0; simp only [Nat.add_zero] at h5 ⊢; omega
    · have h7 := List.pairwise_iff_getElem.1 hR i (i + j) (by omega) (by omega) (by omega)
      have h8 := p2 R[i] (by rw [List.drop_eq_getElem_cons (show i < R.length by omega)]; exact List.mem_cons_self ..)
      omega
  have hno : ∀ s ∈ R, s.key ≠ k := by
    intro s hs
    rw [← List.take_append_drop i R] at hs
    rcases List.mem_append.1 hs with hs | hs
    · have := p1 s hs; omega
    · have := p3 s hs; omega
  have hl : lhas R k = false := by
    cases hh : lhas R k with
    | false => rfl
    | true =>
      obtain ⟨s, hs, hk⟩ := lhas_iff.1 hh
      exact (hno s hs hk).elim
  refine ⟨hl, ?_, ?_⟩
  · unfold lget
    cases hf : R.find? fun s => decide (s.key = k) with
    | none => rfl
    | some s => exact (hno s (List.mem_of_find?_eq_some hf) (by simpa using List.find?_some hf)).elim
  · rintro s rfl
    unfold rins
    have e1 : R.filter (fun t => decide (t.key < s.key)) = R.take i := by
      conv => lhs; rw [← List.take_append_drop i R]
      rw [List.filter_append, List.filter_eq_self.2 (fun t ht => decide_eq_true (p1 t ht)), List.filter_eq_nil_iff.2 (fun t ht => by have := p2 t ht; simp; omega), List.append_nil]
    have e2 : R.filter (fun t => decide (s.key < t.key)) = R.drop i := by
      conv => lhs; rw [← List.take_append_drop i R]
      rw [List.filter_append, List.filter_eq_nil_iff.2 (fun t ht => by have := p1 t ht; simp; omega), List.filter_eq_self.2 (fun t ht => decide_eq_true (p3 t ht)), List.nil_append]
    rw [e1, e2]
/-- The key is there. -/
theorem R9.old (h2 : i < n → ¬ (R.getD i slot0).key < k) (h3 : (decide ((i : Int) < (n : Int)) && decide ((R.getD i slot0).key = k)) = true) : lhas R k = true ∧ lget R k = R.getD i slot0 ∧ i < n ∧ ∀ s : Slot, s.key = k → R.take i ++ [s] ++ R.drop (i + 1) = rins R s := by
  obtain ⟨p1, p2⟩ := h.parts hR hn h2
  simp only [Bool.and_eq_true, decide_eq_true_eq] at h3
  have hi : i < n := by omega
  have hk := h3.2
  have e0 : R.getD i slot0 = R[i]'(by omega) := by simp [List.getD, show i < R.length by omega]
  rw [e0] at hk ⊢
  have hm : R[i]'(by omega) ∈ R := List.getElem_mem _
  have nd : (R.map (·.key)).Nodup := by
    rw [List.Nodup, List.pairwise_map]
    exact hR.imp fun h => by omega
  have p3 : ∀ s ∈ R.drop (i + 1), k < s.key := by
    intro s hs
    obtain ⟨j, hj, rfl⟩ := List.getElem_of_mem hs
    rw [List.length_drop] at hj
    rw [List.getElem_drop]
    have := List.pairwise_iff_getElem.1 hR i (i + 1 + j) (by omega) (by omega) (by omega)
    omega
  refine ⟨lhas_iff.2 ⟨_, hm, hk⟩, ?_, hi, ?_⟩
  · unfold lget
    rw [find_of hm (by simpa using hk) (fun b hb hbk => nodup_inj nd hb hm (by rw [hk]; simpa using hbk))]; rfl
  · rintro s rfl
    unfold rins
    have hR' : R = R.take i ++ R[i]'(by omega) :: R.drop (i + 1) := by
      rw [← List.drop_eq_getElem_cons (show i < R.length by omega), List.take_append_drop]
    have e1 : R.filter (fun t => decide (t.key < s.key)) = R.take i := by
      conv => lhs; rw [← List.take_append_drop i R]
      rw [List.filter_append, List.filter_eq_self.2 (fun t ht => decide_eq_true (p1 t ht)), List.filter_eq_nil_iff.2 (fun t ht => by have := p2 t ht; simp; omega), List.append_nil]
    have e2 : R.filter (fun t => decide (s.key < t.key)) = R.drop (i + 1) := by
      conv => lhs; rw [hR']
      rw [List.filter_append, List.filter_eq_nil_iff.2 (fun t ht => by have := p1 t ht; simp; omega), List.nil_append, List.filter_cons_of_neg (by simp; omega), List.filter_eq_self.2 (fun t ht => decide_eq_true (p3 t ht))]
    rw [e1, e2]
end
theorem rfits_f {x : Rt} {k : Int} {p : Pl} (h : (!(decide (0 ≤ k) && decide (k ≤ 1073741824)) || decide (p.1 < 0) || decide (x.bs ≤ p.1) || decide (p.2 < 0) || decide (x.ps ≤ p.2)) = false) : RFits x k p := by
  simp only [Bool.or_eq_false_iff, Bool.not_eq_false', Bool.and_eq_true, decide_eq_true_eq, decide_eq_false_iff_not] at h
  show 0 ≤ k ∧ k ≤ 1073741824 ∧ 0 ≤ p.1 ∧ p.1 < x.bs ∧ 0 ≤ p.2 ∧ p.2 < x.ps
  omega
theorem rfits_t {x : Rt} {k : Int} {p : Pl} (h : (!(decide (0 ≤ k) && decide (k ≤ 1073741824)) || decide (p.1 < 0) || decide (x.bs ≤ p.1) || decide (p.2 < 0) || decide (x.ps ≤ p.2)) = true) : ¬ RFits x k p := by
  simp only [Bool.or_eq_true, Bool.not_eq_true', Bool.and_eq_false_iff, decide_eq_true_eq, decide_eq_false_iff_not] at h
  show ¬ (0 ≤ k ∧ k ≤ 1073741824 ∧ 0 ≤ p.1 ∧ p.1 < x.bs ∧ 0 ≤ p.2 ∧ p.2 < x.ps)
  omega
theorem and_take {l : List Slot} {n i : Nat} {b : Bool} {q : Slot → Bool} (h : (decide ((i : Int) < (n : Int)) && q (l.getD i slot0)) = b) : (decide ((i : Int) < (n : Int)) && q ((l.take n).getD i slot0)) = b := by
  by_cases hi : i < n
  · rw [rl_get hi]; exact h
  · have : decide ((i : Int) < (n : Int)) = false := decide_eq_false (by omega)
    rw [this] at h ⊢; exact h
theorem not_lt_of {l : List Slot} {n i : Nat} {k : Int} (h : (decide ((i : Int) < (n : Int)) && decide ((l.getD i slot0).key < k)) = false) : i < n → ¬ ((l.take n).getD i slot0).key < k := by
  intro hi
  rw [rl_get hi]
  rw [decide_eq_true (show (i : Int) < (n : Int) by omega), Bool.true_and] at h
  exact of_decide_eq_false h
theorem mid_row {A sp : List Slot} {s : Slot} {i : Nat} (hA : A.length = i) : ((A ++ [s] ++ sp).drop 0).take (0 + i + 1) = A ++ [s] := by
  rw [List.drop_zero, List.take_append_of_le_length (by simp; omega), List.take_of_length_le (by simp; omega)]
theorem R9.le' {R : List Slot} {k : Int} {n i : Nat} (h : R9 R k n i) : i ≤ n := h.le
/-- The rows behind the whole of it. -/
theorem set_rows {r l sp sp2 sp3 : List Slot} {s : Slot} {n c i j : Nat} (hi : i ≤ n) (hj : j ≤ n) (hc : n ≤ c) (hl : c ≤ l.length) :
    (((((r.drop 0).take 0 ++ (l.drop 0).take i ++ sp).drop 0).take (0 + i) ++ [s] ++ sp2).drop 0).take (0 + i + 1) ++ (l.drop (srow c j 0)).take (n - j) ++ sp3 = ((l.take n).take i ++ [s] ++ (l.take n).drop j) ++ sp3 := by
  rw [fst_row (n := n) hi (by omega), mid_row (by simp; omega), snd_row hj hc hl]
set_option maxHeartbeats 16000000 in
theorem rset_ok (x : Rt) (k : Int) (p : Pl) (m : Me) (h : Rk x.l x.n x.c) (hR : Ris (rl x)) : Does (C := C0) Tryd.prog (.fn 15) (rtm true x) [.ptr 0 0 0, .int .i64 k, .agg (plE p), .agg (meE m)]
    [⟨Rw, fun y => (RFits x k p ∧ rtk (rl x) k p = false) ∧ rlw y = rins (rl x) ⟨k, p, m⟩ ∧ y.2.2.2.1 ≤ x.n + 1 ∧ y.2.2.2.1 ≤ y.2.2.2.2 ∧ y.2.2.2.2 ≤ y.2.2.1.length, fun _ => .tup [.agg (plE (lget (rl x) k).pl), .bool (.tm (lhas (rl x) k)), .int .i64 0], fun y => rtn x y⟩,
     ⟨Unit, fun _ => ¬ RFits x k p, fun _ => .tup [.agg (plE (0, 0)), .bool .f, .int .i64 102], fun _ => rtm true x⟩,
     ⟨Unit, fun _ => RFits x k p ∧ rtk (rl x) k p = true, fun _ => .tup [.agg (plE (0, 0)), .bool .f, .int .i64 110], fun _ => rtm true x⟩] := by
  refine loc_fn (P := Tryd.prog) (E := ⟨[], [pcCount, pcSamePlace], 166, [(11, [0], [.p 0, .p 1, .p 2, .p 3, .p 4, .p 5, .p 7, .p 8, .p 9, .p 10, .p 11, .p 12, .e 6, .e 13, .p 14])]⟩) (L := [S4 x.l k p x.n, S9 x.l k x.n]) mix Tryd.func15 rfl (by kernel_rfl) (by kernel_rfl) rfl rfl ?_
  ((conv => (arg 1; reduce)); with_reducible repeat' (first | exact Tr.yes_h | refine Tr.and_h ?_ ?_ | refine Tr.imp_h fun _ => ?_ | refine Tr.all_h fun _ => ?_ | refine Tr.lf_h ?_))
  all_goals try (first | first | (show Region.lexB _ _ = true; kernel_rfl) | (show planned _ _ = true; kernel_rfl) | exact rfl | exact True.intro | (first | exact key3 | exact key30 | exact zero3 | exact zero53 | exact eq30 | exact ⟨key3, zero53⟩ | exact ⟨key30, zero3⟩) | ((try dsimp only [imp, C0, cG, cInt, cPl, cSlot, cDo] at *); (try refine inR64 ?_ ?_) <;> (try simp only [List.length_set, List.length_append, List.length_take, List.length_drop]) <;> omega))
  · rename_i b0 b1 b2 h0
    refine Ends.next (Ends.one () (rfits_t h0) ?_)
    ((conv => (arg 1; reduce)); with_reducible repeat' (first | exact Tr.yes_h | refine Tr.and_h ?_ ?_ | refine Tr.imp_h fun _ => ?_ | refine Tr.all_h fun _ => ?_ | refine Tr.lf_h ?_))
    all_goals (first | first | (show Region.lexB _ _ = true; kernel_rfl) | (show planned _ _ = true; kernel_rfl) | exact rfl | exact True.intro | (first | exact key3 | exact key30 | exact zero3 | exact zero53 | exact eq30 | exact ⟨key3, zero53⟩ | exact ⟨key30, zero3⟩) | ((try dsimp only [imp, C0, cG, cInt, cPl, cSlot, cDo] at *); (try refine inR64 ?_ ?_) <;> (try simp only [List.length_set, List.length_append, List.length_take, List.length_drop]) <;> omega))
  · rename_i b0 b1 b2 h0
    refine Stands.one (0 : Nat) ⟨⟨Nat.zero_le _, fun j hj => absurd hj (Nat.not_lt_zero _)⟩, ?_⟩
    ((conv => (arg 1; reduce)); with_reducible repeat' (first | exact Tr.yes_h | refine Tr.and_h ?_ ?_ | refine Tr.imp_h fun _ => ?_ | refine Tr.all_h fun _ => ?_ | refine Tr.lf_h ?_))
    all_goals (first | first | (show Region.lexB _ _ = true; kernel_rfl) | (show planned _ _ = true; kernel_rfl) | exact rfl | exact True.intro | (first | exact key3 | exact key30 | exact zero3 | exact zero53 | exact eq30 | exact ⟨key3, zero53⟩ | exact ⟨key30, zero3⟩) | ((try dsimp only [imp, C0, cG, cInt, cPl, cSlot, cDo] at *); (try refine inR64 ?_ ?_) <;> (try simp only [List.length_set, List.length_append, List.length_take, List.length_drop]) <;> omega))
  · rename_i b0 b1 b2 h0 v0 hv0 h1
    exact of_decide_eq_true h1
  · rename_i b0 b1 b2 h0 v0 hv0 h1
    change Nat at v0
    have h1' := of_decide_eq_true h1
    have g1 := h.cap
    have g2 := h.fit
    have g3 := h.few
    show (v0 : Int).toNat + 0 < x.l.length
    omega
  · rename_i b0 b1 b2 h0 v0 hv0 h1 h2
    exact of_decide_eq_true h1
  · rename_i b0 b1 b2 h0 v0 hv0 h1 h2
    change Nat at v0
    have h1' := of_decide_eq_true h1
    have g1 := h.cap
    have g2 := h.fit
    have g3 := h.few
    show (v0 : Int).toNat + 0 < x.l.length
    omega
  · rename_i b0 b1 b2 h0 v0 hv0 h1 h2
    change Nat at v0
    have h1' := of_decide_eq_true h1
    have g1 := h.cap
    have g2 := h.fit
    have g3 := h.few
    have h2 : (decide (((rl x).getD v0 slot0).key ≠ k) && (decide (((rl x).getD v0 slot0).pl.1 = p.1) && decide (((rl x).getD v0 slot0).pl.2 = p.2))) = true := by rw [rl_get (by omega)]; exact h2
    refine Ends.next (Ends.next (Ends.one () ⟨rfits_f h0, R4.is (i := v0) (by rw [rl_len h]; omega) h2⟩ ?_))
    ((conv => (arg 1; reduce)); with_reducible repeat' (first | exact Tr.yes_h | refine Tr.and_h ?_ ?_ | refine Tr.imp_h fun _ => ?_ | refine Tr.all_h fun _ => ?_ | refine Tr.lf_h ?_))
    all_goals (first | first | (show Region.lexB _ _ = true; kernel_rfl) | (show planned _ _ = true; kernel_rfl) | exact rfl | exact True.intro | (first | exact key3 | exact key30 | exact zero3 | exact zero53 | exact eq30 | exact ⟨key3, zero53⟩ | exact ⟨key30, zero3⟩) | ((try dsimp only [imp, C0, cG, cInt, cPl, cSlot, cDo] at *); (try refine inR64 ?_ ?_) <;> (try simp only [List.length_set, List.length_append, List.length_take, List.length_drop]) <;> omega))
  · rename_i b0 b1 b2 h0 v0 hv0 h1 h2
    change Nat at v0
    have h1' := of_decide_eq_true h1
    have g1 := h.cap
    have g2 := h.fit
    have g3 := h.few
    exact inR64 (by show _ ≤ (v0 : Int) + 1; omega) (by show (v0 : Int) + 1 ≤ _; omega)
  · rename_i b0 b1 b2 h0 v0 hv0 h1 h2
    change Nat at v0
    have h1' := of_decide_eq_true h1
    have g1 := h.cap
    have g2 := h.fit
    have g3 := h.few
    have h2 : (decide (((rl x).getD v0 slot0).key ≠ k) && (decide (((rl x).getD v0 slot0).pl.1 = p.1) && decide (((rl x).getD v0 slot0).pl.2 = p.2))) = false := by rw [rl_get (by omega)]; exact h2
    refine Stands.one (Nat.succ v0) ⟨R4.step hv0 (by omega) h2, ?_, ?_⟩
    · show x.n - (v0 + 1) < x.n - v0
      omega
    ((conv => (arg 1; reduce)); with_reducible repeat' (first | exact Tr.yes_h | refine Tr.and_h ?_ ?_ | refine Tr.imp_h fun _ => ?_ | refine Tr.all_h fun _ => ?_ | refine Tr.lf_h ?_))
    all_goals (first | first | (show Region.lexB _ _ = true; kernel_rfl) | (show planned _ _ = true; kernel_rfl) | exact rfl | exact True.intro | (first | exact key3 | exact key30 | exact zero3 | exact zero53 | exact eq30 | exact ⟨key3, zero53⟩ | exact ⟨key30, zero3⟩) | ((try dsimp only [imp, C0, cG, cInt, cPl, cSlot, cDo] at *); (try refine inR64 ?_ ?_) <;> (try simp only [List.length_set, List.length_append, List.length_take, List.length_drop]) <;> omega))
  · rename_i b0 b1 b2 h0 v0 hv0 h1
    refine Stands.one (0 : Nat) ⟨⟨Nat.zero_le _, fun j hj => absurd hj (Nat.not_lt_zero _)⟩, ?_⟩
    ((conv => (arg 1; reduce)); with_reducible repeat' (first | exact Tr.yes_h | refine Tr.and_h ?_ ?_ | refine Tr.imp_h fun _ => ?_ | refine Tr.all_h fun _ => ?_ | refine Tr.lf_h ?_))
    all_goals (first | first | (show Region.lexB _ _ = true; kernel_rfl) | (show planned _ _ = true; kernel_rfl) | exact rfl | exact True.intro | (first | exact key3 | exact key30 | exact zero3 | exact zero53 | exact eq30 | exact ⟨key3, zero53⟩ | exact ⟨key30, zero3⟩) | ((try dsimp only [imp, C0, cG, cInt, cPl, cSlot, cDo] at *); (try refine inR64 ?_ ?_) <;> (try simp only [List.length_set, List.length_append, List.length_take, List.length_drop]) <;> omega))
  · rename_i b0 b1 b2 h0 v0 hv0 h1 v1 hv1 h2
    exact of_decide_eq_true h2
  · rename_i b0 b1 b2 h0 v0 hv0 h1 v1 hv1 h2
    change Nat at v1
    have hi := R9.le' hv1
    have h2' := of_decide_eq_true h2
    have g1 := h.cap
    have g2 := h.fit
    have g3 := h.few
    show (v1 : Int).toNat + 0 < x.l.length
    omega
  · rename_i b0 b1 b2 h0 v0 hv0 h1 v1 hv1 h2
    change Nat at v1
    have hi := R9.le' hv1
    have g1 := h.cap
    have g2 := h.fit
    have g3 := h.few
    exact inR64 (by show _ ≤ (v1 : Int) + 1; omega) (by show (v1 : Int) + 1 ≤ _; omega)
  · rename_i b0 b1 b2 h0 v0 hv0 h1 v1 hv1 h2
    change Nat at v1
    have hi := R9.le' hv1
    have g1 := h.cap
    have g2 := h.fit
    have g3 := h.few
    have h2' : (decide ((v1 : Int) < (x.n : Int)) && decide ((x.l.getD v1 slot0).key < k)) = true := h2
    simp only [Bool.and_eq_true, decide_eq_true_eq] at h2'
    refine Stands.one (Nat.succ v1) ⟨R9.step hv1 (by omega) (by rw [rl_get (by omega)]; exact h2'.2), ?_, ?_⟩
    · show x.n - (v1 + 1) < x.n - v1
      omega
    ((conv => (arg 1; reduce)); with_reducible repeat' (first | exact Tr.yes_h | refine Tr.and_h ?_ ?_ | refine Tr.imp_h fun _ => ?_ | refine Tr.all_h fun _ => ?_ | refine Tr.lf_h ?_))
    all_goals (first | first | (show Region.lexB _ _ = true; kernel_rfl) | (show planned _ _ = true; kernel_rfl) | exact rfl | exact True.intro | (first | exact key3 | exact key30 | exact zero3 | exact zero53 | exact eq30 | exact ⟨key3, zero53⟩ | exact ⟨key30, zero3⟩) | ((try dsimp only [imp, C0, cG, cInt, cPl, cSlot, cDo] at *); (try refine inR64 ?_ ?_) <;> (try simp only [List.length_set, List.length_append, List.length_take, List.length_drop]) <;> omega))
  · rename_i b0 b1 b2 h0 v0 hv0 h1 v1 hv1 h2
    have g1 := h.cap
    have g2 := h.fit
    have g3 := h.few
    exact inR64 (by show _ ≤ (x.n : Int) + 1; omega) (by show (x.n : Int) + 1 ≤ _; omega)
  · rename_i b0 b1 b2 h0 v0 hv0 h1 v1 hv1 h2
    change Nat at v1
    have hi := R9.le' hv1
    have g1 := h.cap
    have g2 := h.fit
    have g3 := h.few
    show (v1 : Int) ≤ (x.c : Int)
    omega
  · rename_i b0 b1 b2 h0 v0 hv0 h1 v1 hv1 h2
    change Nat at v1
    have hi := R9.le' hv1
    have g1 := h.cap
    have g2 := h.fit
    have g3 := h.few
    rw [by56]
    exact ⟨Int.le_refl 0, by omega, by omega, by omega⟩
  · rename_i b0 b1 b2 h0 v0 hv0 h1 v1 hv1 h2 b3
    change Nat at v1
    have hi := R9.le' hv1
    have g1 := h.cap
    have g2 := h.fit
    have g3 := h.few
    rw [by56]
    exact ⟨Nat.zero_le _, by simp, by show 0 + (v1 : Int).toNat ≤ x.l.length; omega, by show (Int.toNat 0 + (v1 : Int).toNat) * 72 ≤ _; omega⟩
  · rename_i b0 b1 b2 h0 v0 hv0 h1 v1 hv1 h2 b3 b4 b5 h3 b6 h4 h5 b7
    change Nat at v1
    have hi := R9.le' hv1
    have g1 := h.cap
    have g2 := h.fit
    have g3 := h.few
    rw [by56]
    refine ⟨h4, fst_len (l := x.l) (i := v1) (by omega) h5, by simp, ?_⟩
    show (Int.toNat 0 + (v1 : Int).toNat + 1) * 72 ≤ 140737488355328
    omega
  · rename_i b0 b1 b2 h0 v0 hv0 h1 v1 hv1 h2 b3 b4 b5 h3 b6 h4 h5 b7 b8 b9 h6 b10 h7 h8 b11 h9
    change Nat at v1
    have hi := R9.le' hv1
    have h9' := of_decide_eq_true h9
    have g1 := h.cap
    have g2 := h.fit
    have g3 := h.few
    exact h9'
  · rename_i b0 b1 b2 h0 v0 hv0 h1 v1 hv1 h2 b3 b4 b5 h3 b6 h4 h5 b7 b8 b9 h6 b10 h7 h8 b11 h9
    change Nat at v1
    have hi := R9.le' hv1
    have h9' := of_decide_eq_true h9
    have g1 := h.cap
    have g2 := h.fit
    have g3 := h.few
    show (v1 : Int).toNat + 0 < x.l.length
    omega
  · rename_i b0 b1 b2 h0 v0 hv0 h1 v1 hv1 h2 b3 b4 b5 h3 b6 h4 h5 b7 b8 b9 h6 b10 h7 h8 b11 h9
    change Nat at v1
    have hi := R9.le' hv1
    have h9' : (decide ((v1 : Int) < (x.n : Int)) && decide ((x.l.getD v1 slot0).key = k)) = true := h9
    simp only [Bool.and_eq_true, decide_eq_true_eq] at h9'
    have g1 := h.cap
    have g2 := h.fit
    have g3 := h.few
    exact h9'.1
  · rename_i b0 b1 b2 h0 v0 hv0 h1 v1 hv1 h2 b3 b4 b5 h3 b6 h4 h5 b7 b8 b9 h6 b10 h7 h8 b11 h9
    change Nat at v1
    have hi := R9.le' hv1
    have h9' : (decide ((v1 : Int) < (x.n : Int)) && decide ((x.l.getD v1 slot0).key = k)) = true := h9
    simp only [Bool.and_eq_true, decide_eq_true_eq] at h9'
    have g1 := h.cap
    have g2 := h.fit
    have g3 := h.few
    show (v1 : Int).toNat + 0 < x.l.length
    omega
  · rename_i b0 b1 b2 h0 v0 hv0 h1 v1 hv1 h2 b3 b4 b5 h3 b6 h4 h5 b7 b8 b9 h6 b10 h7 h8 b11 h9
    change Nat at v1
    have hi := R9.le' hv1
    have h9' : (decide ((v1 : Int) < (x.n : Int)) && decide ((x.l.getD v1 slot0).key = k)) = true := h9
    simp only [Bool.and_eq_true, decide_eq_true_eq] at h9'
    have g1 := h.cap
    have g2 := h.fit
    have g3 := h.few
    exact inR64 (by show _ ≤ (v1 : Int) + 1; omega) (by show (v1 : Int) + 1 ≤ _; omega)
  · rename_i b0 b1 b2 h0 v0 hv0 h1 v1 hv1 h2 b3 b4 b5 h3 b6 h4 h5 b7 b8 b9 h6 b10 h7 h8 b11 h9
    change Nat at v1
    have hi := R9.le' hv1
    have h9' : (decide ((v1 : Int) < (x.n : Int)) && decide ((x.l.getD v1 slot0).key = k)) = true := h9
    simp only [Bool.and_eq_true, decide_eq_true_eq] at h9'
    have g1 := h.cap
    have g2 := h.fit
    have g3 := h.few
    show (v1 : Int) + 1 ≤ (x.n : Int)
    omega
  · rename_i b0 b1 b2 h0 v0 hv0 h1 v1 hv1 h2 b3 b4 b5 h3 b6 h4 h5 b7 b8 b9 h6 b10 h7 h8 b11 h9
    change Nat at v1
    have hi := R9.le' hv1
    have h9' : (decide ((v1 : Int) < (x.n : Int)) && decide ((x.l.getD v1 slot0).key = k)) = true := h9
    simp only [Bool.and_eq_true, decide_eq_true_eq] at h9'
    have g1 := h.cap
    have g2 := h.fit
    have g3 := h.few
    have hA : ((((List.replicate ((x.n : Int) + 1).toNat slot0).drop 0).take 0 ++ (x.l.drop 0).take v1 ++ h3).drop 0).take (0 + v1) = (rl x).take v1 := fst_row (by omega) (by omega)
    have hA' : (((((List.replicate ((x.n : Int) + 1).toNat slot0).drop 0).take 0 ++ (x.l.drop 0).take v1 ++ h3).drop 0).take (0 + v1)).length = v1 := by
      rw [hA, List.length_take, rl_len h]; omega
    rw [by56]
    refine ⟨h7, ?_, srow_le (j := (v1 + 1)) (by omega) g1 g2, ?_⟩
    · have h8' : b10 ≤ 0 + v1 + 1 + h6.length := h8
      show 0 + b10 ≤ ((((((List.replicate ((x.n : Int) + 1).toNat slot0).drop 0).take 0 ++ (x.l.drop 0).take v1 ++ h3).drop 0).take (0 + v1)) ++ [_] ++ h6).length
      simp only [List.length_append, List.length_singleton, hA']
      omega
    · show (Int.toNat 0 + (v1 : Int).toNat + 1 + (x.n - (v1 + 1))) * 72 ≤ 140737488355328
      omega
  · rename_i b0 b1 b2 h0 v0 hv0 h1 v1 hv1 h2 b3 b4 b5 h3 b6 h4 h5 b7 b8 b9 h6 b10 h7 h8 b11 h9 b12 b13 h10 b14 h11 h12
    change Nat at v1
    have hi := R9.le' hv1
    have h9' : (decide ((v1 : Int) < (x.n : Int)) && decide ((x.l.getD v1 slot0).key = k)) = true := h9
    simp only [Bool.and_eq_true, decide_eq_true_eq] at h9'
    have g1 := h.cap
    have g2 := h.fit
    have g3 := h.few
    have hno : rtk (rl x) k p = false := R4.none hv0 (by have := of_decide_eq_false h1; change Nat at v0; omega) (rl_len h)
    obtain ⟨k1, k2, hlt, k3⟩ := R9.old hR hv1 (rl_len h) (not_lt_of h2) (and_take (q := fun s => decide (s.key = k)) h9)
    have k4 := k3 ⟨k, p, m⟩ rfl
    have hlen : ((rl x).take v1 ++ [(⟨k, p, m⟩ : Slot)] ++ (rl x).drop (v1 + 1)).length = 0 + v1 + 1 + (x.n - (v1 + 1)) := by
      simp only [List.length_append, List.length_take, List.length_drop, List.length_singleton, rl_len h]
      omega
    have h11' : 0 + v1 + 1 + (x.n - (v1 + 1)) ≤ b14 := h11
    have h12' : b14 ≤ 0 + v1 + 1 + (x.n - (v1 + 1)) + h10.length := h12
    have e3 := set_rows (r := List.replicate ((x.n : Int) + 1).toNat slot0) (l := x.l) (sp := h3) (sp2 := h6) (sp3 := h10) (s := ⟨k, p, m⟩) (i := v1) (j := (v1 + 1)) (n := x.n) (by omega) (by omega) g1 g2
    refine Ends.one (b12, b13, ((rl x).take v1 ++ [(⟨k, p, m⟩ : Slot)] ++ (rl x).drop (v1 + 1)) ++ h10, 0 + v1 + 1 + (x.n - (v1 + 1)), b14) ⟨⟨rfits_f h0, hno⟩, ?_, ?_, h11', ?_⟩ ?_
    · show (((rl x).take v1 ++ [(⟨k, p, m⟩ : Slot)] ++ (rl x).drop (v1 + 1)) ++ h10).take (0 + v1 + 1 + (x.n - (v1 + 1))) = _
      rw [List.take_append_of_le_length (by omega), List.take_of_length_le (by omega)]
      exact k4
    · show 0 + v1 + 1 + (x.n - (v1 + 1)) ≤ x.n + 1
      omega
    · show b14 ≤ (((rl x).take v1 ++ [(⟨k, p, m⟩ : Slot)] ++ (rl x).drop (v1 + 1)) ++ h10).length
      rw [List.length_append, hlen]; exact h12'
    ((conv => (arg 1; reduce)); with_reducible repeat' (first | exact Tr.yes_h | refine Tr.and_h ?_ ?_ | refine Tr.imp_h fun _ => ?_ | refine Tr.all_h fun _ => ?_ | refine Tr.lf_h ?_))
    all_goals first | (first | first | (show Region.lexB _ _ = true; kernel_rfl) | (show planned _ _ = true; kernel_rfl) | exact rfl | exact True.intro | (first | exact key3 | exact key30 | exact zero3 | exact zero53 | exact eq30 | exact ⟨key3, zero53⟩ | exact ⟨key30, zero3⟩) | ((try dsimp only [imp, C0, cG, cInt, cPl, cSlot, cDo] at *); (try refine inR64 ?_ ?_) <;> (try simp only [List.length_set, List.length_append, List.length_take, List.length_drop]) <;> omega)) | exact e3 | exact e3.symm | exact k1.symm.trans h9.symm | exact (h9.trans k1.symm) | (rw [k2, rl_get (by omega)]; rfl) | (rw [k1]; exact h9)
  · rename_i b0 b1 b2 h0 v0 hv0 h1 v1 hv1 h2 b3 b4 b5 h3 b6 h4 h5 b7 b8 b9 h6 b10 h7 h8 b11 h9
    change Nat at v1
    have hi := R9.le' hv1
    have g1 := h.cap
    have g2 := h.fit
    have g3 := h.few
    show (v1 : Int) ≤ (x.n : Int)
    omega
  · rename_i b0 b1 b2 h0 v0 hv0 h1 v1 hv1 h2 b3 b4 b5 h3 b6 h4 h5 b7 b8 b9 h6 b10 h7 h8 b11 h9
    change Nat at v1
    have hi := R9.le' hv1
    have g1 := h.cap
    have g2 := h.fit
    have g3 := h.few
    have hA : ((((List.replicate ((x.n : Int) + 1).toNat slot0).drop 0).take 0 ++ (x.l.drop 0).take v1 ++ h3).drop 0).take (0 + v1) = (rl x).take v1 := fst_row (by omega) (by omega)
    have hA' : (((((List.replicate ((x.n : Int) + 1).toNat slot0).drop 0).take 0 ++ (x.l.drop 0).take v1 ++ h3).drop 0).take (0 + v1)).length = v1 := by
      rw [hA, List.length_take, rl_len h]; omega
    rw [by56]
    refine ⟨h7, ?_, srow_le (j := v1) (by omega) g1 g2, ?_⟩
    · have h8' : b10 ≤ 0 + v1 + 1 + h6.length := h8
      show 0 + b10 ≤ ((((((List.replicate ((x.n : Int) + 1).toNat slot0).drop 0).take 0 ++ (x.l.drop 0).take v1 ++ h3).drop 0).take (0 + v1)) ++ [_] ++ h6).length
      simp only [List.length_append, List.length_singleton, hA']
      omega
    · show (Int.toNat 0 + (v1 : Int).toNat + 1 + (x.n - v1)) * 72 ≤ 140737488355328
      omega
  · rename_i b0 b1 b2 h0 v0 hv0 h1 v1 hv1 h2 b3 b4 b5 h3 b6 h4 h5 b7 b8 b9 h6 b10 h7 h8 b11 h9 b12 b13 h10 b14 h11 h12
    change Nat at v1
    have hi := R9.le' hv1
    have g1 := h.cap
    have g2 := h.fit
    have g3 := h.few
    have hno : rtk (rl x) k p = false := R4.none hv0 (by have := of_decide_eq_false h1; change Nat at v0; omega) (rl_len h)
    obtain ⟨k1, k2,  k3⟩ := R9.new hR hv1 (rl_len h) (not_lt_of h2) (and_take (q := fun s => decide (s.key = k)) h9)
    have k4 := k3 ⟨k, p, m⟩ rfl
    have hlen : ((rl x).take v1 ++ [(⟨k, p, m⟩ : Slot)] ++ (rl x).drop v1).length = 0 + v1 + 1 + (x.n - v1) := by
      simp only [List.length_append, List.length_take, List.length_drop, List.length_singleton, rl_len h]
      omega
    have h11' : 0 + v1 + 1 + (x.n - v1) ≤ b14 := h11
    have h12' : b14 ≤ 0 + v1 + 1 + (x.n - v1) + h10.length := h12
    have e3 := set_rows (r := List.replicate ((x.n : Int) + 1).toNat slot0) (l := x.l) (sp := h3) (sp2 := h6) (sp3 := h10) (s := ⟨k, p, m⟩) (i := v1) (j := v1) (n := x.n) (by omega) (by omega) g1 g2
    refine Ends.one (b12, b13, ((rl x).take v1 ++ [(⟨k, p, m⟩ : Slot)] ++ (rl x).drop v1) ++ h10, 0 + v1 + 1 + (x.n - v1), b14) ⟨⟨rfits_f h0, hno⟩, ?_, ?_, h11', ?_⟩ ?_
    · show (((rl x).take v1 ++ [(⟨k, p, m⟩ : Slot)] ++ (rl x).drop v1) ++ h10).take (0 + v1 + 1 + (x.n - v1)) = _
      rw [List.take_append_of_le_length (by omega), List.take_of_length_le (by omega)]
      exact k4
    · show 0 + v1 + 1 + (x.n - v1) ≤ x.n + 1
      omega
    · show b14 ≤ (((rl x).take v1 ++ [(⟨k, p, m⟩ : Slot)] ++ (rl x).drop v1) ++ h10).length
      rw [List.length_append, hlen]; exact h12'
    ((conv => (arg 1; reduce)); with_reducible repeat' (first | exact Tr.yes_h | refine Tr.and_h ?_ ?_ | refine Tr.imp_h fun _ => ?_ | refine Tr.all_h fun _ => ?_ | refine Tr.lf_h ?_))
    all_goals first | (first | first | (show Region.lexB _ _ = true; kernel_rfl) | (show planned _ _ = true; kernel_rfl) | exact rfl | exact True.intro | (first | exact key3 | exact key30 | exact zero3 | exact zero53 | exact eq30 | exact ⟨key3, zero53⟩ | exact ⟨key30, zero3⟩) | ((try dsimp only [imp, C0, cG, cInt, cPl, cSlot, cDo] at *); (try refine inR64 ?_ ?_) <;> (try simp only [List.length_set, List.length_append, List.length_take, List.length_drop]) <;> omega)) | exact e3 | exact e3.symm | exact (h9.trans k1.symm) | (rw [k2]; done) | (rw [k2]; rfl) | (rw [k1]; exact h9)
noncomputable def fcRSet : Fc Tryd.prog C0 where
  tg := .fn 15
  X := Rt × Int × Pl × Me
  args := fun (x, k, p, m) => [.ptr 0 0 0, .int .i64 k, .agg (plE p), .agg (meE m)]
  mem := fun (x, k, p, m) => rtm true x
  pre := fun (x, k, p, m) => Rk x.l x.n x.c ∧ Ris (rl x)
  alts := fun (x, k, p, m) => [⟨Rw, fun y => (RFits x k p ∧ rtk (rl x) k p = false) ∧ rlw y = rins (rl x) ⟨k, p, m⟩ ∧ y.2.2.2.1 ≤ x.n + 1 ∧ y.2.2.2.1 ≤ y.2.2.2.2 ∧ y.2.2.2.2 ≤ y.2.2.1.length, fun _ => .tup [.agg (plE (lget (rl x) k).pl), .bool (.tm (lhas (rl x) k)), .int .i64 0], fun y => rtn x y⟩,
     ⟨Unit, fun _ => ¬ RFits x k p, fun _ => .tup [.agg (plE (0, 0)), .bool .f, .int .i64 102], fun _ => rtm true x⟩,
     ⟨Unit, fun _ => RFits x k p ∧ rtk (rl x) k p = true, fun _ => .tup [.agg (plE (0, 0)), .bool .f, .int .i64 110], fun _ => rtm true x⟩]
  mat vs m := match vs with
    | [.ptr p 0 0, .int _ k, .agg [.int _ a, .int _ b], .agg [.int _ m1, .int _ m2, .int _ m3, .int _ m4, .int _ m5, .int _ m6]] => match nth m p with
      | ⟨bp, bq, _, _, _, .one [.int _ bs, .int _ ps, .sl r 0 n c]⟩ => match nth m r with
        | ⟨b0, q, _, _, _, .rows 56 l⟩ => some ((⟨bp, bq, bs, ps, b0, q, l, n, c⟩, k, (a, b), ⟨m1, m2, m3, m4, m5, m6⟩), [p, r])
        | _ => none
      | _ => none
    | _ => none
  ok := fun (x, k, p, m) h => rset_ok x k p m h.1 h.2
/-- The table whose list is nil, behind a call that lays one. -/
abbrev rtzn (bp bq : Nat) (bs ps : Int) : Rw → List (Ck C0)
  | (b', q', l', n', c') => [⟨bp, bq, 3, true, none, .one [.int .i64 bs, .int .i64 ps, .sl 1 0 n' c']⟩, ⟨b', q', 9, true, none, .rows 56 l'⟩]
abbrev rz (bs ps : Int) : Rt := ⟨0, 0, bs, ps, 0, 0, [], 0, 0⟩
set_option maxHeartbeats 16000000 in
theorem rset_nil (bp bq : Nat) (bs ps : Int) (k : Int) (p : Pl) (m : Me) : Does (C := C0) Tryd.prog (.fn 15) (rtz bp bq bs ps) [.ptr 0 0 0, .int .i64 k, .agg (plE p), .agg (meE m)]
    [⟨Rw, fun y => RFits (rz bs ps) k p ∧ rlw y = [⟨k, p, m⟩] ∧ y.2.2.2.1 ≤ 1 ∧ y.2.2.2.1 ≤ y.2.2.2.2 ∧ y.2.2.2.2 ≤ y.2.2.1.length, fun _ => .tup [.agg (plE (0, 0)), .bool .f, .int .i64 0], fun y => rtzn bp bq bs ps y⟩,
     ⟨Unit, fun _ => ¬ RFits (rz bs ps) k p, fun _ => .tup [.agg (plE (0, 0)), .bool .f, .int .i64 102], fun _ => rtz bp bq bs ps⟩] := by
  refine loc_fn (P := Tryd.prog) (E := ⟨[], [pcCount, pcSamePlace], 166, [(11, [0], [.p 0, .p 1, .p 2, .p 3, .p 4, .p 5, .p 7, .p 8, .p 9, .p 10, .p 11, .p 12, .e 6, .e 13, .p 14])]⟩) (L := [⟨4, Unit, fun _ => [(11, .int .i64 0)], fun _ m => m, fun _ => True, fun _ => 0⟩, ⟨9, Unit, fun _ => [(12, .int .i64 0)], fun _ m => m, fun _ => True, fun _ => 0⟩]) mix Tryd.func15 rfl (by kernel_rfl) (by kernel_rfl) rfl rfl ?_
  ((conv => (arg 1; reduce)); with_reducible repeat' (first | exact Tr.yes_h | refine Tr.and_h ?_ ?_ | refine Tr.imp_h fun _ => ?_ | refine Tr.all_h fun _ => ?_ | refine Tr.lf_h ?_))
  all_goals try (first | first | (show Region.lexB _ _ = true; kernel_rfl) | (show planned _ _ = true; kernel_rfl) | exact rfl | exact True.intro | (first | exact key3 | exact key30 | exact zero3 | exact zero53 | exact eq30 | exact ⟨key3, zero53⟩ | exact ⟨key30, zero3⟩) | ((try dsimp only [imp, C0, cG, cInt, cPl, cSlot, cDo] at *); (try refine inR64 ?_ ?_) <;> (try simp only [List.length_set, List.length_append, List.length_take, List.length_drop]) <;> omega))
  all_goals try exact absurd (by with_reducible assumption : decide ((0 : Int) < 0) = true) (by decide)
  · rename_i b0 b1 b2 h0
    refine Ends.next (Ends.one () (rfits_t (x := rz bs ps) h0) ?_)
    ((conv => (arg 1; reduce)); with_reducible repeat' (first | exact Tr.yes_h | refine Tr.and_h ?_ ?_ | refine Tr.imp_h fun _ => ?_ | refine Tr.all_h fun _ => ?_ | refine Tr.lf_h ?_))
    all_goals (first | first | (show Region.lexB _ _ = true; kernel_rfl) | (show planned _ _ = true; kernel_rfl) | exact rfl | exact True.intro | (first | exact key3 | exact key30 | exact zero3 | exact zero53 | exact eq30 | exact ⟨key3, zero53⟩ | exact ⟨key30, zero3⟩) | ((try dsimp only [imp, C0, cG, cInt, cPl, cSlot, cDo] at *); (try refine inR64 ?_ ?_) <;> (try simp only [List.length_set, List.length_append, List.length_take, List.length_drop]) <;> omega))
  · refine Stands.one () ⟨trivial, ?_⟩
    ((conv => (arg 1; reduce)); with_reducible repeat' (first | exact Tr.yes_h | refine Tr.and_h ?_ ?_ | refine Tr.imp_h fun _ => ?_ | refine Tr.all_h fun _ => ?_ | refine Tr.lf_h ?_))
    all_goals (first | first | (show Region.lexB _ _ = true; kernel_rfl) | (show planned _ _ = true; kernel_rfl) | exact rfl | exact True.intro | (first | exact key3 | exact key30 | exact zero3 | exact zero53 | exact eq30 | exact ⟨key3, zero53⟩ | exact ⟨key30, zero3⟩) | ((try dsimp only [imp, C0, cG, cInt, cPl, cSlot, cDo] at *); (try refine inR64 ?_ ?_) <;> (try simp only [List.length_set, List.length_append, List.length_take, List.length_drop]) <;> omega))
  · refine Stands.one () ⟨trivial, ?_⟩
    ((conv => (arg 1; reduce)); with_reducible repeat' (first | exact Tr.yes_h | refine Tr.and_h ?_ ?_ | refine Tr.imp_h fun _ => ?_ | refine Tr.all_h fun _ => ?_ | refine Tr.lf_h ?_))
    all_goals (first | first | (show Region.lexB _ _ = true; kernel_rfl) | (show planned _ _ = true; kernel_rfl) | exact rfl | exact True.intro | (first | exact key3 | exact key30 | exact zero3 | exact zero53 | exact eq30 | exact ⟨key3, zero53⟩ | exact ⟨key30, zero3⟩) | ((try dsimp only [imp, C0, cG, cInt, cPl, cSlot, cDo] at *); (try refine inR64 ?_ ?_) <;> (try simp only [List.length_set, List.length_append, List.length_take, List.length_drop]) <;> omega))
  · rw [by56]
    exact ⟨Int.le_refl 0, by decide, by decide, by decide⟩
  · rw [by56]
    exact ⟨by decide, by simp, by simp, by decide⟩
  · rename_i b0 b1 b2 h0 v0 hv0 h1 v1 hv1 h2 b3 b4 b5 b6 h3 b7 h4 h5 b8 h6
    have h4' : 1 ≤ b7 := h4
    have h5' : b7 ≤ 1 + h3.length := h5
    refine Ends.one (b5, b6, [(⟨k, p, m⟩ : Slot)] ++ h3, 1, b7) ⟨rfits_f (x := rz bs ps) h0, rfl, Nat.le_refl 1, h4', ?_⟩ ?_
    · show b7 ≤ ([(⟨k, p, m⟩ : Slot)] ++ h3).length
      rw [List.length_append]; exact h5'
    ((conv => (arg 1; reduce)); with_reducible repeat' (first | exact Tr.yes_h | refine Tr.and_h ?_ ?_ | refine Tr.imp_h fun _ => ?_ | refine Tr.all_h fun _ => ?_ | refine Tr.lf_h ?_))
    all_goals (first | first | (show Region.lexB _ _ = true; kernel_rfl) | (show planned _ _ = true; kernel_rfl) | exact rfl | exact True.intro | (first | exact key3 | exact key30 | exact zero3 | exact zero53 | exact eq30 | exact ⟨key3, zero53⟩ | exact ⟨key30, zero3⟩) | ((try dsimp only [imp, C0, cG, cInt, cPl, cSlot, cDo] at *); (try refine inR64 ?_ ?_) <;> (try simp only [List.length_set, List.length_append, List.length_take, List.length_drop]) <;> omega))
noncomputable def fcRSet0 : Fc Tryd.prog C0 where
  tg := .fn 15
  X := Nat × Nat × Int × Int × Int × Pl × Me
  args := fun (bp, bq, bs, ps, k, p, m) => [.ptr 0 0 0, .int .i64 k, .agg (plE p), .agg (meE m)]
  mem := fun (bp, bq, bs, ps, k, p, m) => rtz bp bq bs ps
  pre := fun _ => True
  alts := fun (bp, bq, bs, ps, k, p, m) => [⟨Rw, fun y => RFits (rz bs ps) k p ∧ rlw y = [⟨k, p, m⟩] ∧ y.2.2.2.1 ≤ 1 ∧ y.2.2.2.1 ≤ y.2.2.2.2 ∧ y.2.2.2.2 ≤ y.2.2.1.length, fun _ => .tup [.agg (plE (0, 0)), .bool .f, .int .i64 0], fun y => rtzn bp bq bs ps y⟩,
     ⟨Unit, fun _ => ¬ RFits (rz bs ps) k p, fun _ => .tup [.agg (plE (0, 0)), .bool .f, .int .i64 102], fun _ => rtz bp bq bs ps⟩]
  mat vs m := match vs with
    | [.ptr p 0 0, .int _ k, .agg [.int _ a, .int _ b], .agg [.int _ m1, .int _ m2, .int _ m3, .int _ m4, .int _ m5, .int _ m6]] => match nth m p with
      | ⟨bp, bq, _, _, _, .one [.int _ bs, .int _ ps, .nils]⟩ => some ((bp, bq, bs, ps, k, (a, b), ⟨m1, m2, m3, m4, m5, m6⟩), [p])
      | _ => none
    | _ => none
  ok := fun (bp, bq, bs, ps, k, p, m) _ => rset_nil bp bq bs ps k p m
end Go.Vx
set_option linter.unusedSectionVars false
set_option maxRecDepth 100000
set_option linter.unusedVariables false
set_option linter.unusedSimpArgs false
namespace Go.Vx
open Go Go.Proofs
variable [Gl]

def eqMe (a b : Me) : Bool := decide (a.kind = b.kind) && decide (a.key = b.key) && decide (a.seq = b.seq) && decide (a.stamp = b.stamp) && decide (a.batch = b.batch) && decide (a.floor = b.floor)
theorem sameMeta_ok (a b : Me) : Tells (C := C0) Tryd.prog (.fn 28) [] [.agg (meE a), .agg (meE b)] (.bool (.tm (eqMe a b))) := by
  refine loc_pc (P := Tryd.prog) (E := ⟨[], [], 45, []⟩) (L := []) mix Tryd.func28 rfl (by kernel_rfl) (by kernel_rfl) rfl rfl ?_
  ((conv => (arg 1; reduce)); with_reducible repeat' (first | exact Tr.yes_h | refine Tr.and_h ?_ ?_ | refine Tr.imp_h fun _ => ?_ | refine Tr.all_h fun _ => ?_ | refine Tr.lf_h ?_))
  all_goals (first | first | (show Region.lexB _ _ = true; kernel_rfl) | (show planned _ _ = true; kernel_rfl) | exact rfl | exact True.intro | (first | exact key3 | exact key30 | exact zero3 | exact zero53 | exact eq30 | exact ⟨key3, zero53⟩ | exact ⟨key30, zero3⟩) | ((try dsimp only [imp, C0, cG, cInt, cPl, cSlot, cDo] at *); (try refine inR64 ?_ ?_) <;> (try simp only [List.length_set, List.length_append, List.length_take, List.length_drop]) <;> omega))
def pcSameMeta : Pc Tryd.prog C0 where
  tg := .fn 28
  X := Me × Me
  args x := [.agg (meE x.1), .agg (meE x.2)]
  mem _ := []
  pre _ := True
  res x := .bool (.tm (eqMe x.1 x.2))
  mat vs _ := match vs with
    | [.agg [.int _ a1, .int _ a2, .int _ a3, .int _ a4, .int _ a5, .int _ a6], .agg [.int _ b1, .int _ b2, .int _ b3, .int _ b4, .int _ b5, .int _ b6]] => some ((⟨a1, a2, a3, a4, a5, a6⟩, ⟨b1, b2, b3, b4, b5, b6⟩), [])
    | _ => none
  ok x _ := sameMeta_ok x.1 x.2
def eqSlot (a b : Slot) : Bool := decide (a.key = b.key) && (decide (a.pl.1 = b.pl.1) && decide (a.pl.2 = b.pl.2)) && eqMe a.me b.me
theorem eqMe_iff {a b : Me} : eqMe a b = true ↔ a = b := by
  obtain ⟨a1, a2, a3, a4, a5, a6⟩ := a
  obtain ⟨b1, b2, b3, b4, b5, b6⟩ := b
  simp [eqMe, and_assoc]
theorem eqSlot_iff {a b : Slot} : eqSlot a b = true ↔ a = b := by
  obtain ⟨a1, ⟨a2, a3⟩, a4⟩ := a
  obtain ⟨b1, ⟨b2, b3⟩, b4⟩ := b
  simp [eqSlot, eqMe_iff, and_assoc]
/-- Are they one list. -/
def lEqB : List Slot → List Slot → Bool
  | [], [] => true
  | a :: r, b :: s => eqSlot a b && lEqB r s
  | _, _ => false
theorem lEqB_iff : ∀ {a b : List Slot}, lEqB a b = true ↔ a = b
  | [], [] => by simp [lEqB]
  | [], _ :: _ => by simp [lEqB]
  | _ :: _, [] => by simp [lEqB]
  | a :: r, b :: s => by
    rw [lEqB, Bool.and_eq_true, eqSlot_iff, lEqB_iff, List.cons.injEq]
@[irreducible] def lEq (a b : List Slot) : Bool := lEqB a b
theorem lEq_iff {a b : List Slot} : lEq a b = true ↔ a = b := by unfold lEq; exact lEqB_iff
theorem lEq_no {a b : List Slot} (h : a ≠ b) : lEq a b = false := by
  cases hh : lEq a b with
  | false => rfl
  | true => exact (h (lEq_iff.1 hh)).elim
theorem lEq_yes {a b : List Slot} (h : a = b) : lEq a b = true := lEq_iff.2 h
/-- The test of one round. -/
theorem ne_slot {a b : Slot} : (decide (a.key ≠ b.key) || (!(decide (a.pl.1 = b.pl.1) && decide (a.pl.2 = b.pl.2))) || (!eqMe a.me b.me)) = !eqSlot a b := by
  unfold eqSlot
  by_cases h : a.key = b.key <;> simp [h, Bool.not_and]
theorem rows_at {l : List Slot} {i n v : Nat} (hv : v < n) : ((l.drop i).take n).getD v slot0 = l.getD (v + i) slot0 := by
  simp only [List.getD_eq_getElem?_getD, List.getElem?_take, if_pos hv, List.getElem?_drop, Nat.add_comm i v]
theorem rows_len {l : List Slot} {i n : Nat} (h : i + n ≤ l.length) : ((l.drop i).take n).length = n := by
  rw [List.length_take, List.length_drop]; omega
theorem take_snoc {A : List Slot} {i : Nat} (h : i < A.length) : A.take (i + 1) = A.take i ++ [A.getD i slot0] := by
  rw [List.take_add_one]
  simp [List.getD, h]
structure Ss (A B : List Slot) (n i : Nat) : Prop where
  le : i ≤ n
  eq : A.take i = B.take i
def Ss4 (l l' : List Slot) (i0 j0 n : Nat) : Inv' C0 := ⟨4, Nat, fun i => [(5, .int .i64 (i : Int))], fun _ m => m, fun i => Ss ((l.drop i0).take n) ((l'.drop j0).take n) n i, fun i => n - i⟩
/-- Two slices of the reference's slots. -/
abbrev ssm (b q : Nat) (l : List Slot) (b' q' : Nat) (l' : List Slot) : List (Ck C0) := [⟨b, q, 9, false, none, .rows 56 l⟩, ⟨b', q', 9, false, none, .rows 56 l'⟩]
set_option maxHeartbeats 8000000 in
theorem sameSlots_ok (b q : Nat) (l : List Slot) (i n c : Nat) (b' q' : Nat) (l' : List Slot) (j n' c' : Nat) (h : i + n ≤ l.length) (h' : j + n' ≤ l'.length) (hs : n < 1048576) :
    Tells (C := C0) Tryd.prog (.fn 18) (ssm b q l b' q' l') [.sl 0 i n c, .sl 1 j n' c'] (.bool (.tm (lEq ((l.drop i).take n) ((l'.drop j).take n')))) := by
  refine loc_pc (P := Tryd.prog) (E := ⟨[], [pcSamePlace, pcSameMeta], 60, [(6, [0, 1], [.p 0, .p 1, .p 2, .p 3, .p 4, .p 5, .p 6, .p 7, .p 8, .p 9, .e 10, .p 11]), (7, [0, 1], [.p 0, .p 1, .p 2, .p 3, .p 4, .p 5, .p 6, .p 7, .p 8, .p 9, .e 10, .p 11])]⟩) (L := [Ss4 l l' i j n]) mix Tryd.func18 rfl (by kernel_rfl) (by kernel_rfl) rfl rfl ?_
  ((conv => (arg 1; reduce)); with_reducible repeat' (first | exact Tr.yes_h | refine Tr.and_h ?_ ?_ | refine Tr.imp_h fun _ => ?_ | refine Tr.all_h fun _ => ?_ | refine Tr.lf_h ?_))
  all_goals try (first | first | (show Region.lexB _ _ = true; kernel_rfl) | (show planned _ _ = true; kernel_rfl) | exact rfl | exact True.intro | (first | exact key3 | exact key30 | exact zero3 | exact zero53 | exact eq30 | exact ⟨key3, zero53⟩ | exact ⟨key30, zero3⟩) | ((try dsimp only [imp, C0, cG, cInt, cPl, cSlot, cDo] at *); (try refine inR64 ?_ ?_) <;> (try simp only [List.length_set, List.length_append, List.length_take, List.length_drop]) <;> omega))
  · rename_i h0
    have h0 := of_decide_eq_true h0
    refine (lEq_no fun he => h0 ?_).symm
    have := congrArg List.length he
    rw [rows_len h, rows_len h'] at this
    omega
  · rename_i h0
    refine Stands.one (0 : Nat) ⟨⟨Nat.zero_le _, rfl⟩, ?_⟩
    ((conv => (arg 1; reduce)); with_reducible repeat' (first | exact Tr.yes_h | refine Tr.and_h ?_ ?_ | refine Tr.imp_h fun _ => ?_ | refine Tr.all_h fun _ => ?_ | refine Tr.lf_h ?_))
    all_goals (first | first | (show Region.lexB _ _ = true; kernel_rfl) | (show planned _ _ = true; kernel_rfl) | exact rfl | exact True.intro | (first | exact key3 | exact key30 | exact zero3 | exact zero53 | exact eq30 | exact ⟨key3, zero53⟩ | exact ⟨key30, zero3⟩) | ((try dsimp only [imp, C0, cG, cInt, cPl, cSlot, cDo] at *); (try refine inR64 ?_ ?_) <;> (try simp only [List.length_set, List.length_append, List.length_take, List.length_drop]) <;> omega))
  · rename_i h0 v0 hv0 h1
    exact of_decide_eq_true h1
  · rename_i h0 v0 hv0 h1
    change Nat at v0
    have h1' := of_decide_eq_true h1
    have h0' := of_decide_eq_false h0
    show (v0 : Int).toNat + i < l.length
    omega
  · rename_i h0 v0 hv0 h1
    change Nat at v0
    have h1' := of_decide_eq_true h1
    have h0' := of_decide_eq_false h0
    show (v0 : Int) < (n' : Int)
    omega
  · rename_i h0 v0 hv0 h1
    change Nat at v0
    have h1' := of_decide_eq_true h1
    have h0' := of_decide_eq_false h0
    show (v0 : Int).toNat + j < l'.length
    omega
  · rename_i h0 v0 hv0 h1
    exact of_decide_eq_true h1
  · rename_i h0 v0 hv0 h1
    change Nat at v0
    have h1' := of_decide_eq_true h1
    have h0' := of_decide_eq_false h0
    show (v0 : Int).toNat + i < l.length
    omega
  · rename_i h0 v0 hv0 h1
    change Nat at v0
    have h1' := of_decide_eq_true h1
    have h0' := of_decide_eq_false h0
    show (v0 : Int) < (n' : Int)
    omega
  · rename_i h0 v0 hv0 h1
    change Nat at v0
    have h1' := of_decide_eq_true h1
    have h0' := of_decide_eq_false h0
    show (v0 : Int).toNat + j < l'.length
    omega
  · rename_i h0 v0 hv0 h1
    exact of_decide_eq_true h1
  · rename_i h0 v0 hv0 h1
    change Nat at v0
    have h1' := of_decide_eq_true h1
    have h0' := of_decide_eq_false h0
    show (v0 : Int).toNat + i < l.length
    omega
  · rename_i h0 v0 hv0 h1
    change Nat at v0
    have h1' := of_decide_eq_true h1
    have h0' := of_decide_eq_false h0
    show (v0 : Int) < (n' : Int)
    omega
  · rename_i h0 v0 hv0 h1
    change Nat at v0
    have h1' := of_decide_eq_true h1
    have h0' := of_decide_eq_false h0
    show (v0 : Int).toNat + j < l'.length
    omega
  · rename_i h0 v0 hv0 h1 h2
    change Nat at v0
    have h1' := of_decide_eq_true h1
    have h0' := of_decide_eq_false h0
    have h2 := ne_slot.symm.trans h2
    refine (lEq_no fun he => ?_).symm
    have hc := congrArg (fun L : List Slot => L.getD v0 slot0) he
    simp only [rows_at (l := l) (i := i) (n := n) (v := v0) (by omega), rows_at (l := l') (i := j) (n := n') (v := v0) (by omega)] at hc
    have h2 : (!eqSlot (l.getD (v0 + i) slot0) (l'.getD (v0 + j) slot0)) = true := h2
    rw [eqSlot_iff.2 hc] at h2
    cases h2
  · rename_i h0 v0 hv0 h1 h2
    change Nat at v0
    have h1' := of_decide_eq_true h1
    have h0' := of_decide_eq_false h0
    exact inR64 (by show _ ≤ (v0 : Int) + 1; omega) (by show (v0 : Int) + 1 ≤ _; omega)
  · rename_i h0 v0 hv0 h1 h2
    change Nat at v0
    have h1' := of_decide_eq_true h1
    have h0' := of_decide_eq_false h0
    have h2 := ne_slot.symm.trans h2
    have h2 : (!eqSlot (l.getD (v0 + i) slot0) (l'.getD (v0 + j) slot0)) = false := h2
    have h2 := eqSlot_iff.1 (by cases hx : eqSlot (l.getD (v0 + i) slot0) (l'.getD (v0 + j) slot0) with | true => rfl | false => rw [hx] at h2; cases h2)
    refine Stands.one (Nat.succ v0) ⟨⟨by show v0 + 1 ≤ n; omega, ?_⟩, ?_, ?_⟩
    · show ((l.drop i).take n).take (v0 + 1) = ((l'.drop j).take n).take (v0 + 1)
      rw [take_snoc (by rw [rows_len h]; omega), take_snoc (by rw [rows_len (by omega)]; omega), rows_at (by omega), rows_at (by omega), h2, hv0.eq]
    · show n - (v0 + 1) < n - v0
      omega
    ((conv => (arg 1; reduce)); with_reducible repeat' (first | exact Tr.yes_h | refine Tr.and_h ?_ ?_ | refine Tr.imp_h fun _ => ?_ | refine Tr.all_h fun _ => ?_ | refine Tr.lf_h ?_))
    all_goals (first | first | (show Region.lexB _ _ = true; kernel_rfl) | (show planned _ _ = true; kernel_rfl) | exact rfl | exact True.intro | (first | exact key3 | exact key30 | exact zero3 | exact zero53 | exact eq30 | exact ⟨key3, zero53⟩ | exact ⟨key30, zero3⟩) | ((try dsimp only [imp, C0, cG, cInt, cPl, cSlot, cDo] at *); (try refine inR64 ?_ ?_) <;> (try simp only [List.length_set, List.length_append, List.length_take, List.length_drop]) <;> omega))
  · rename_i h0 v0 hv0 h1
    change Nat at v0
    have h1' := of_decide_eq_false h1
    have h0' := of_decide_eq_false h0
    have hn : n = n' := by omega
    subst hn
    have he := hv0.eq
    have e1 : ((l.drop i).take n).take v0 = (l.drop i).take n := List.take_of_length_le (by rw [rows_len h]; omega)
    have e2 : ((l'.drop j).take n).take v0 = (l'.drop j).take n := List.take_of_length_le (by rw [rows_len h']; omega)
    exact (lEq_yes (e1.symm.trans (he.trans e2))).symm
def pcSS : Pc Tryd.prog C0 where
  tg := .fn 18
  X := Nat × Nat × List Slot × Nat × Nat × Nat × Nat × Nat × List Slot × Nat × Nat × Nat
  args := fun (b, q, l, i, n, c, b', q', l', j, n', c') => [.sl 0 i n c, .sl 1 j n' c']
  mem := fun (b, q, l, i, n, c, b', q', l', j, n', c') => ssm b q l b' q' l'
  pre := fun (b, q, l, i, n, c, b', q', l', j, n', c') => i + n ≤ l.length ∧ j + n' ≤ l'.length ∧ n < 1048576
  res := fun (b, q, l, i, n, c, b', q', l', j, n', c') => .bool (.tm (lEq ((l.drop i).take n) ((l'.drop j).take n')))
  mat vs m := match vs with
    | [.sl a i n c, .sl a' j n' c'] => match nth m a, nth m a' with
      | ⟨b, q, _, _, _, .rows 56 l⟩, ⟨b', q', _, _, _, .rows 56 l'⟩ => some ((b, q, l, i, n, c, b', q', l', j, n', c'), [a, a'])
      | _, _ => none
    | _ => none
  ok := fun (b, q, l, i, n, c, b', q', l', j, n', c') h => sameSlots_ok b q l i n c b' q' l' j n' c' h.1 h.2.1 h.2.2
abbrev Ss0 : Inv' C0 := ⟨4, Unit, fun _ => [(5, .int .i64 0)], fun _ m => m, fun _ => True, fun _ => 0⟩
theorem sameSlots_nn : Tells (C := C0) Tryd.prog (.fn 18) [] [.nils, .nils] (.bool .t) := by
  refine loc_pc (P := Tryd.prog) (E := ⟨[], [pcSamePlace, pcSameMeta], 60, [(6, [], [.p 0, .p 1, .p 2, .p 3, .p 4, .p 5, .p 6, .p 7, .p 8, .p 9, .e 10, .p 11]), (7, [], [.p 0, .p 1, .p 2, .p 3, .p 4, .p 5, .p 6, .p 7, .p 8, .p 9, .e 10, .p 11])]⟩) (L := [Ss0]) mix Tryd.func18 rfl (by kernel_rfl) (by kernel_rfl) rfl rfl ?_
  ((conv => (arg 1; reduce)); with_reducible repeat' (first | exact Tr.yes_h | refine Tr.and_h ?_ ?_ | refine Tr.imp_h fun _ => ?_ | refine Tr.all_h fun _ => ?_ | refine Tr.lf_h ?_))
  all_goals try (first | first | (show Region.lexB _ _ = true; kernel_rfl) | (show planned _ _ = true; kernel_rfl) | exact rfl | exact True.intro | (first | exact key3 | exact key30 | exact zero3 | exact zero53 | exact eq30 | exact ⟨key3, zero53⟩ | exact ⟨key30, zero3⟩) | ((try dsimp only [imp, C0, cG, cInt, cPl, cSlot, cDo] at *); (try refine inR64 ?_ ?_) <;> (try simp only [List.length_set, List.length_append, List.length_take, List.length_drop]) <;> omega))
  all_goals try exact absurd (by with_reducible assumption : decide ((0 : Int) < 0) = true) (by decide)
  all_goals try exact absurd (by with_reducible assumption : decide ((0 : Int) ≠ 0) = true) (by decide)
  · refine Stands.one () ⟨trivial, ?_⟩
    ((conv => (arg 1; reduce)); with_reducible repeat' (first | exact Tr.yes_h | refine Tr.and_h ?_ ?_ | refine Tr.imp_h fun _ => ?_ | refine Tr.all_h fun _ => ?_ | refine Tr.lf_h ?_))
    all_goals (first | first | (show Region.lexB _ _ = true; kernel_rfl) | (show planned _ _ = true; kernel_rfl) | exact rfl | exact True.intro | (first | exact key3 | exact key30 | exact zero3 | exact zero53 | exact eq30 | exact ⟨key3, zero53⟩ | exact ⟨key30, zero3⟩) | ((try dsimp only [imp, C0, cG, cInt, cPl, cSlot, cDo] at *); (try refine inR64 ?_ ?_) <;> (try simp only [List.length_set, List.length_append, List.length_take, List.length_drop]) <;> omega))
def pcSSnn : Pc Tryd.prog C0 where
  tg := .fn 18
  X := Unit
  args _ := [.nils, .nils]
  mem _ := []
  pre _ := True
  res _ := .bool .t
  mat vs _ := match vs with
    | [.nils, .nils] => some ((), [])
    | _ => none
  ok _ _ := sameSlots_nn
theorem sameSlots_ns (b q : Nat) (l : List Slot) (j n c : Nat) (h : j + n ≤ l.length) : Tells (C := C0) Tryd.prog (.fn 18) [⟨b, q, 9, false, none, .rows 56 l⟩] [.nils, .sl 0 j n c] (.bool (.tm (lEq [] ((l.drop j).take n)))) := by
  refine loc_pc (P := Tryd.prog) (E := ⟨[], [pcSamePlace, pcSameMeta], 60, [(6, [0], [.p 0, .p 1, .p 2, .p 3, .p 4, .p 5, .p 6, .p 7, .p 8, .p 9, .e 10, .p 11]), (7, [0], [.p 0, .p 1, .p 2, .p 3, .p 4, .p 5, .p 6, .p 7, .p 8, .p 9, .e 10, .p 11])]⟩) (L := [Ss0]) mix Tryd.func18 rfl (by kernel_rfl) (by kernel_rfl) rfl rfl ?_
  ((conv => (arg 1; reduce)); with_reducible repeat' (first | exact Tr.yes_h | refine Tr.and_h ?_ ?_ | refine Tr.imp_h fun _ => ?_ | refine Tr.all_h fun _ => ?_ | refine Tr.lf_h ?_))
  all_goals try (first | first | (show Region.lexB _ _ = true; kernel_rfl) | (show planned _ _ = true; kernel_rfl) | exact rfl | exact True.intro | (first | exact key3 | exact key30 | exact zero3 | exact zero53 | exact eq30 | exact ⟨key3, zero53⟩ | exact ⟨key30, zero3⟩) | ((try dsimp only [imp, C0, cG, cInt, cPl, cSlot, cDo] at *); (try refine inR64 ?_ ?_) <;> (try simp only [List.length_set, List.length_append, List.length_take, List.length_drop]) <;> omega))
  all_goals try exact absurd (by with_reducible assumption : decide ((0 : Int) < 0) = true) (by decide)
  · rename_i h0
    have h0 := of_decide_eq_true h0
    refine (lEq_no fun he => h0 ?_).symm
    have := congrArg List.length he
    rw [rows_len h] at this
    show (0 : Int) = (n : Int)
    have : 0 = n := this
    omega
  · refine Stands.one () ⟨trivial, ?_⟩
    ((conv => (arg 1; reduce)); with_reducible repeat' (first | exact Tr.yes_h | refine Tr.and_h ?_ ?_ | refine Tr.imp_h fun _ => ?_ | refine Tr.all_h fun _ => ?_ | refine Tr.lf_h ?_))
    all_goals (first | first | (show Region.lexB _ _ = true; kernel_rfl) | (show planned _ _ = true; kernel_rfl) | exact rfl | exact True.intro | (first | exact key3 | exact key30 | exact zero3 | exact zero53 | exact eq30 | exact ⟨key3, zero53⟩ | exact ⟨key30, zero3⟩) | ((try dsimp only [imp, C0, cG, cInt, cPl, cSlot, cDo] at *); (try refine inR64 ?_ ?_) <;> (try simp only [List.length_set, List.length_append, List.length_take, List.length_drop]) <;> omega))
  · rename_i h0 v0 hv0 h1
    have h0 := of_decide_eq_false h0
    refine (lEq_yes (List.length_eq_zero_iff.1 ?_).symm).symm
    rw [rows_len h]
    omega
def pcSSns : Pc Tryd.prog C0 where
  tg := .fn 18
  X := Nat × Nat × List Slot × Nat × Nat × Nat
  args := fun (b, q, l, j, n, c) => [.nils, .sl 0 j n c]
  mem := fun (b, q, l, j, n, c) => [⟨b, q, 9, false, none, .rows 56 l⟩]
  pre := fun (b, q, l, j, n, c) => j + n ≤ l.length
  res := fun (b, q, l, j, n, c) => .bool (.tm (lEq [] ((l.drop j).take n)))
  mat vs m := match vs with
    | [.nils, .sl a j n c] => match nth m a with
      | ⟨b, q, _, _, _, .rows 56 l⟩ => some ((b, q, l, j, n, c), [a])
      | _ => none
    | _ => none
  ok := fun (b, q, l, j, n, c) h => sameSlots_ns b q l j n c h
end Go.Vx
set_option linter.unusedSectionVars false
set_option maxRecDepth 100000
set_option linter.unusedVariables false
set_option linter.unusedSimpArgs false
namespace Go.Vx
open Go Go.Proofs
variable [Gl]

theorem slots_nil : Tells (C := C0) Tryd.prog (.fn 19) [] [.nils] .nils := by
  refine loc_pc (P := Tryd.prog) (E := ⟨[], [], 31, [(5, [], [.p 0, .p 1, .p 2, .p 3, .p 4, .p 5, .p 6, .p 7, .p 8, .p 9, .p 10, .p 11, .p 12, .p 13, .p 14, .p 15, .p 16, .e 17, .e 18, .p 19])]⟩) (L := [⟨3, Unit, fun _ => [(4, .int .i64 0), (3, .nils)], fun _ m => m, fun _ => True, fun _ => 0⟩]) mix Tryd.func19 rfl (by kernel_rfl) (by kernel_rfl) rfl rfl ?_
  ((conv => (arg 1; reduce)); with_reducible repeat' (first | exact Tr.yes_h | refine Tr.and_h ?_ ?_ | refine Tr.imp_h fun _ => ?_ | refine Tr.all_h fun _ => ?_ | refine Tr.lf_h ?_))
  all_goals try (first | first | (show Region.lexB _ _ = true; kernel_rfl) | (show planned _ _ = true; kernel_rfl) | exact rfl | exact True.intro | (first | exact key3 | exact key30 | exact zero3 | exact zero53 | exact eq30 | exact ⟨key3, zero53⟩ | exact ⟨key30, zero3⟩) | ((try dsimp only [imp, C0, cG, cInt, cPl, cSlot, cDo] at *); (try refine inR64 ?_ ?_) <;> (try simp only [List.length_set, List.length_append, List.length_take, List.length_drop]) <;> omega))
  all_goals try exact absurd (by with_reducible assumption : decide ((0 : Int) < 0) = true) (by decide)
  · refine Stands.one () ⟨trivial, ?_⟩
    ((conv => (arg 1; reduce)); with_reducible repeat' (first | exact Tr.yes_h | refine Tr.and_h ?_ ?_ | refine Tr.imp_h fun _ => ?_ | refine Tr.all_h fun _ => ?_ | refine Tr.lf_h ?_))
    all_goals (first | first | (show Region.lexB _ _ = true; kernel_rfl) | (show planned _ _ = true; kernel_rfl) | exact rfl | exact True.intro | (first | exact key3 | exact key30 | exact zero3 | exact zero53 | exact eq30 | exact ⟨key3, zero53⟩ | exact ⟨key30, zero3⟩) | ((try dsimp only [imp, C0, cG, cInt, cPl, cSlot, cDo] at *); (try refine inR64 ?_ ?_) <;> (try simp only [List.length_set, List.length_append, List.length_take, List.length_drop]) <;> omega))
def pcSlotsN : Pc Tryd.prog C0 where
  tg := .fn 19
  X := Unit
  args _ := [.nils]
  mem _ := []
  pre _ := True
  res _ := .nils
  mat vs _ := match vs with
    | [.nils] => some ((), [])
    | _ => none
  ok _ _ := slots_nil
/-- Behind i rounds. -/
structure Sg (A : List Slot) (n i : Nat) (l : List Slot) (c : Nat) : Prop where
  pos : 0 < i
  le : i ≤ n
  eq : l.take i = A.take i
  cap : i ≤ c
  fit : c ≤ l.length
def Sg0 (n : Nat) : Inv' C0 := ⟨3, Unit, fun _ => [(4, .int .i64 0), (3, .nils)], fun _ m => m, fun _ => 0 < n, fun _ => n + 1⟩
def Sg1 (l : List Slot) (i0 n : Nat) : Inv' C0 := ⟨3, Nat × Nat × Nat × List Slot × Nat, fun x => [(4, .int .i64 (x.1 : Int)), (3, .sl 1 0 x.1 x.2.2.2.2)], fun x m => match m with
  | [a] => [a, ⟨x.2.1, x.2.2.1, 9, true, none, .rows 56 x.2.2.2.1⟩]
  | m => m, fun x => Sg ((l.drop i0).take n) n x.1 x.2.2.2.1 x.2.2.2.2, fun x => n - x.1⟩
set_option maxHeartbeats 8000000 in
theorem slots_some (b q : Nat) (l : List Slot) (i n c : Nat) (h : i + n ≤ l.length) (hn : 0 < n) (hs : n < 524288) : Does (C := C0) Tryd.prog (.fn 19) [⟨b, q, 9, false, none, .rows 53 l⟩] [.sl 0 i n c]
    [⟨Rw, fun y => rlw y = (l.drop i).take n ∧ y.2.2.2.1 = n ∧ y.2.2.2.1 ≤ y.2.2.2.2 ∧ y.2.2.2.2 ≤ y.2.2.1.length, fun y => .sl 1 0 y.2.2.2.1 y.2.2.2.2, fun y => [⟨b, q, 9, false, none, .rows 53 l⟩, ⟨y.1, y.2.1, 9, true, none, .rows 56 y.2.2.1⟩]⟩] := by
  refine loc_fn (P := Tryd.prog) (E := ⟨[], [], 31, [(5, [0], [.p 0, .p 1, .p 2, .p 3, .p 4, .p 5, .p 6, .p 7, .p 8, .p 9, .p 10, .p 11, .p 12, .p 13, .p 14, .p 15, .p 16, .e 17, .e 18, .p 19])]⟩) (L := [Sg0 n, Sg1 l i n]) mix Tryd.func19 rfl (by kernel_rfl) (by kernel_rfl) rfl rfl ?_
  ((conv => (arg 1; reduce)); with_reducible repeat' (first | exact Tr.yes_h | refine Tr.and_h ?_ ?_ | refine Tr.imp_h fun _ => ?_ | refine Tr.all_h fun _ => ?_ | refine Tr.lf_h ?_))
  all_goals try (first | first | (show Region.lexB _ _ = true; kernel_rfl) | (show planned _ _ = true; kernel_rfl) | exact rfl | exact True.intro | (first | exact key3 | exact key30 | exact zero3 | exact zero53 | exact eq30 | exact ⟨key3, zero53⟩ | exact ⟨key30, zero3⟩) | ((try dsimp only [imp, C0, cG, cInt, cPl, cSlot, cDo] at *); (try refine inR64 ?_ ?_) <;> (try simp only [List.length_set, List.length_append, List.length_take, List.length_drop]) <;> omega))
  · refine Stands.one () ⟨hn, ?_⟩
    ((conv => (arg 1; reduce)); with_reducible repeat' (first | exact Tr.yes_h | refine Tr.and_h ?_ ?_ | refine Tr.imp_h fun _ => ?_ | refine Tr.all_h fun _ => ?_ | refine Tr.lf_h ?_))
    all_goals (first | first | (show Region.lexB _ _ = true; kernel_rfl) | (show planned _ _ = true; kernel_rfl) | exact rfl | exact True.intro | (first | exact key3 | exact key30 | exact zero3 | exact zero53 | exact eq30 | exact ⟨key3, zero53⟩ | exact ⟨key30, zero3⟩) | ((try dsimp only [imp, C0, cG, cInt, cPl, cSlot, cDo] at *); (try refine inR64 ?_ ?_) <;> (try simp only [List.length_set, List.length_append, List.length_take, List.length_drop]) <;> omega))
  · rw [by56]
    exact ⟨by simp, by decide⟩
  · rename_i v0 hv0 h0 b0 h1 b1 h2
    change List Slot at h2
    have e := take_snoc (A := (l.drop i).take n) (i := 0) (by rw [rows_len h]; omega)
    rw [rows_at (by omega)] at e
    refine Stands.next (Stands.one (1, b1, 0, l.getD (0 + i) slot0 :: h2, 1 + h2.length) ⟨⟨Nat.zero_lt_one, by omega, e.symm, by show 1 ≤ 1 + h2.length; omega, ?_⟩, ?_, ?_⟩)
    · show 1 + h2.length ≤ h2.length + 1
      omega
    · show n - 1 < n + 1
      omega
    ((conv => (arg 1; reduce)); with_reducible repeat' (first | exact Tr.yes_h | refine Tr.and_h ?_ ?_ | refine Tr.imp_h fun _ => ?_ | refine Tr.all_h fun _ => ?_ | refine Tr.lf_h ?_))
    all_goals (first | first | (show Region.lexB _ _ = true; kernel_rfl) | (show planned _ _ = true; kernel_rfl) | exact rfl | exact True.intro | (first | exact key3 | exact key30 | exact zero3 | exact zero53 | exact eq30 | exact ⟨key3, zero53⟩ | exact ⟨key30, zero3⟩) | ((try dsimp only [imp, C0, cG, cInt, cPl, cSlot, cDo] at *); (try refine inR64 ?_ ?_) <;> (try simp only [List.length_set, List.length_append, List.length_take, List.length_drop]) <;> omega))
  · rename_i v0 hv0 h0
    have := of_decide_eq_false h0
    omega
  · rename_i v0 hv0 h0
    exact of_decide_eq_true h0
  · rename_i v0 hv0 h0
    obtain ⟨v, b8, q8, l8, c8⟩ := v0
    have h0' : decide ((v : Int) < (n : Int)) = true := h0
    have h0' := of_decide_eq_true h0'
    have g1 : l8.take v = ((l.drop i).take n).take v := hv0.eq
    have g2 : v ≤ c8 := hv0.cap
    have g3 : c8 ≤ l8.length := hv0.fit
    show (v : Int).toNat + i < l.length
    omega
  · rename_i v0 hv0 h0
    exact of_decide_eq_true h0
  · rename_i v0 hv0 h0
    obtain ⟨v, b8, q8, l8, c8⟩ := v0
    have h0' : decide ((v : Int) < (n : Int)) = true := h0
    have h0' := of_decide_eq_true h0'
    have g1 : l8.take v = ((l.drop i).take n).take v := hv0.eq
    have g2 : v ≤ c8 := hv0.cap
    have g3 : c8 ≤ l8.length := hv0.fit
    show (v : Int).toNat + i < l.length
    omega
  · rename_i v0 hv0 h0
    exact of_decide_eq_true h0
  · rename_i v0 hv0 h0
    obtain ⟨v, b8, q8, l8, c8⟩ := v0
    have h0' : decide ((v : Int) < (n : Int)) = true := h0
    have h0' := of_decide_eq_true h0'
    have g1 : l8.take v = ((l.drop i).take n).take v := hv0.eq
    have g2 : v ≤ c8 := hv0.cap
    have g3 : c8 ≤ l8.length := hv0.fit
    show (v : Int).toNat + i < l.length
    omega
  · rename_i v0 hv0 h0 b0
    obtain ⟨v, b8, q8, l8, c8⟩ := v0
    have h0' : decide ((v : Int) < (n : Int)) = true := h0
    have h0' := of_decide_eq_true h0'
    have g1 : l8.take v = ((l.drop i).take n).take v := hv0.eq
    have g2 : v ≤ c8 := hv0.cap
    have g3 : c8 ≤ l8.length := hv0.fit
    rw [by56]
    exact ⟨g2, by show 0 + c8 ≤ l8.length; omega, by simp, by show (v + 1) * 72 ≤ _; omega⟩
  · rename_i v0 hv0 h0 b0 b1 b2 h1 b3 h2 h3
    obtain ⟨v, b8, q8, l8, c8⟩ := v0
    have h0' : decide ((v : Int) < (n : Int)) = true := h0
    have h0' := of_decide_eq_true h0'
    have g1 : l8.take v = ((l.drop i).take n).take v := hv0.eq
    have g2 : v ≤ c8 := hv0.cap
    have g3 : c8 ≤ l8.length := hv0.fit
    exact inR64 (by show _ ≤ (v : Int) + 1; omega) (by show (v : Int) + 1 ≤ _; omega)
  · rename_i v0 hv0 h0 b0 b1 b2 h1 b3 h2 h3
    obtain ⟨v, b8, q8, l8, c8⟩ := v0
    have h0' : decide ((v : Int) < (n : Int)) = true := h0
    have h0' := of_decide_eq_true h0'
    have g1 : l8.take v = ((l.drop i).take n).take v := hv0.eq
    have g2 : v ≤ c8 := hv0.cap
    have g3 : c8 ≤ l8.length := hv0.fit
    change List Slot at h1
    have h2' : v + 1 ≤ b3 := h2
    have h3' : b3 ≤ v + 1 + h1.length := h3
    have hl : (l8.take v ++ [l.getD (v + i) slot0]).length = v + 1 := by
      rw [List.length_append, List.length_take, List.length_singleton]; omega
    have e := take_snoc (A := (l.drop i).take n) (i := v) (by rw [rows_len h]; omega)
    rw [rows_at (by omega)] at e
    refine Stands.next (Stands.one (v + 1, b1, b2, (l8.take v ++ [l.getD (v + i) slot0]) ++ h1, b3) ⟨⟨Nat.succ_pos v, by omega, ?_, h2', ?_⟩, ?_, ?_⟩)
    · show ((l8.take v ++ [l.getD (v + i) slot0]) ++ h1).take (v + 1) = ((l.drop i).take n).take (v + 1)
      rw [List.take_append_of_le_length (by omega), List.take_of_length_le (by omega), e, g1]
    · show b3 ≤ ((l8.take v ++ [l.getD (v + i) slot0]) ++ h1).length
      rw [List.length_append, hl]; exact h3'
    · show n - (v + 1) < n - v
      omega
    ((conv => (arg 1; reduce)); with_reducible repeat' (first | exact Tr.yes_h | refine Tr.and_h ?_ ?_ | refine Tr.imp_h fun _ => ?_ | refine Tr.all_h fun _ => ?_ | refine Tr.lf_h ?_))
    all_goals (first | first | (show Region.lexB _ _ = true; kernel_rfl) | (show planned _ _ = true; kernel_rfl) | exact rfl | exact True.intro | (first | exact key3 | exact key30 | exact zero3 | exact zero53 | exact eq30 | exact ⟨key3, zero53⟩ | exact ⟨key30, zero3⟩) | ((try dsimp only [imp, C0, cG, cInt, cPl, cSlot, cDo] at *); (try refine inR64 ?_ ?_) <;> (try simp only [List.length_set, List.length_append, List.length_take, List.length_drop]) <;> omega))
  · rename_i v0 hv0 h0
    obtain ⟨v, b8, q8, l8, c8⟩ := v0
    have h0' : decide ((v : Int) < (n : Int)) = false := h0
    have h0' := of_decide_eq_false h0'
    have g0 : v ≤ n := hv0.le
    have g1 : l8.take v = ((l.drop i).take n).take v := hv0.eq
    have hv : v = n := by omega
    subst hv
    refine Ends.one (b8, q8, l8, v, c8) ⟨?_, rfl, hv0.cap, hv0.fit⟩ ?_
    · show l8.take v = (l.drop i).take v
      rw [g1, List.take_take, Nat.min_self]
    ((conv => (arg 1; reduce)); with_reducible repeat' (first | exact Tr.yes_h | refine Tr.and_h ?_ ?_ | refine Tr.imp_h fun _ => ?_ | refine Tr.all_h fun _ => ?_ | refine Tr.lf_h ?_))
    all_goals (first | first | (show Region.lexB _ _ = true; kernel_rfl) | (show planned _ _ = true; kernel_rfl) | exact rfl | exact True.intro | (first | exact key3 | exact key30 | exact zero3 | exact zero53 | exact eq30 | exact ⟨key3, zero53⟩ | exact ⟨key30, zero3⟩) | ((try dsimp only [imp, C0, cG, cInt, cPl, cSlot, cDo] at *); (try refine inR64 ?_ ?_) <;> (try simp only [List.length_set, List.length_append, List.length_take, List.length_drop]) <;> omega))
noncomputable def fcSlotsS : Fc Tryd.prog C0 where
  tg := .fn 19
  X := Nat × Nat × List Slot × Nat × Nat × Nat
  args := fun (b, q, l, i, n, c) => [.sl 0 i n c]
  mem := fun (b, q, l, i, n, c) => [⟨b, q, 9, false, none, .rows 53 l⟩]
  pre := fun (b, q, l, i, n, c) => i + n ≤ l.length ∧ 0 < n ∧ n < 524288
  alts := fun (b, q, l, i, n, c) => [⟨Rw, fun y => rlw y = (l.drop i).take n ∧ y.2.2.2.1 = n ∧ y.2.2.2.1 ≤ y.2.2.2.2 ∧ y.2.2.2.2 ≤ y.2.2.1.length, fun y => .sl 1 0 y.2.2.2.1 y.2.2.2.2, fun y => [⟨b, q, 9, false, none, .rows 53 l⟩, ⟨y.1, y.2.1, 9, true, none, .rows 56 y.2.2.1⟩]⟩]
  mat vs m := match vs with
    | [.sl a i n c] => match nth m a with
      | ⟨b, q, _, _, _, .rows 53 l⟩ => some ((b, q, l, i, n, c), [a])
      | _ => none
    | _ => none
  ok := fun (b, q, l, i, n, c) h => slots_some b q l i n c h.1 h.2.1 h.2.2
end Go.Vx
