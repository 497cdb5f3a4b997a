/-
  Round 20: the chapter's examples.
  Conditions: none.
-/
import Derived.Test.YtgbgfdmhmahonaaDoorTaI
set_option linter.unusedSectionVars false
set_option maxRecDepth 100000
set_option linter.unusedVariables false
set_option linter.unusedSimpArgs false
namespace Go.Vx
open Go Go.Proofs
variable [Gl]

theorem plainA : ∀ g, g < 3 → Plain C0 (Gl.A g)
  | 0, _ => ⟨0, _, _, List.Mem.head _⟩
  | 1, _ => ⟨1, _, _, List.Mem.head _⟩
  | 2, _ => ⟨2, _, _, List.Mem.head _⟩
  | g + 3, h => absurd h (by omega)
theorem Does.weaken {C : Nat → Codec} {P : Program} {tg : Tg} {mem : List (Ck C)} {args : List SV} {l l' : List (Alt C)} (h : Does P tg mem args l) (hw : ∀ f : SV → List (Ck C) → Prop, Ends l (fun A y => f (A.res y) (A.out y)) → Ends l' (fun A y => f (A.res y) (A.out y))) : Does P tg mem args l' := by
  intro w hm
  obtain ⟨f, vals, h1, h2⟩ := h w hm
  refine ⟨f, vals, h1, h2.mono ?_⟩
  rintro e w' ⟨r, m', g1, g2, g3, g4⟩
  exact ⟨r, m', g1, g2, g3, hw (fun a b => r = a ∧ m' = b) g4⟩
/-- A table whose maps are others. -/
abbrev tw : Tb → Ks × Nat × Ps × Nat → Tb
  | ⟨tp, tq, bs, ps, kb, _, _, pb, _, _⟩, (kl, kc, pl, pc) => ⟨tp, tq, bs, ps, kb, kl, kc, pb, pl, pc⟩
/-- Set where the key, and the page, may be. -/
theorem setOk_ok (x : Tb) (k : Int) (p : Pl) (m : Me) (h : Rep x) (hf : Fits x k p) (ht : ¬ Taken x k p) : Does (C := C0) Tryd.prog (.fn 8) (tbm x) [.ptr 0 0 0, .int .i64 k, .agg (plE p), .agg (meE m)]
    [⟨Ks × Nat × Ps × Nat, fun y => Rep (tw x y) ∧ tl (tw x y) = lset (tl x) ⟨k, p, m⟩, fun _ => .tup [.agg (plE (lget (tl x) k).pl), .bool (.tm (lhas (tl x) k)), .nili], fun y => tbm (tw x y)⟩] := by
  refine (set_ok x k p m h).weaken ?_
  rintro f ⟨A, hA, y, hy, hf'⟩
  simp only [List.mem_cons, List.not_mem_nil, or_false] at hA
  rcases hA with rfl | rfl | rfl
  · exact (hy hf).elim
  · exact (ht hy.2).elim
  · have := h.set (s := ⟨k, p, m⟩) (fun hat => Classical.byContradiction fun hn => ht ⟨hat, hn⟩)
    exact Ends.one ((tset x ⟨k, p, m⟩).kl, (tset x ⟨k, p, m⟩).kc, (tset x ⟨k, p, m⟩).pl, (tset x ⟨k, p, m⟩).pc) this hf'
theorem setOrd_ok (x : Tb) (k : Int) (p : Pl) (m : Me) (h : Rep x) (hf : Fits x k p) (ht : Taken x k p) : Does (C := C0) Tryd.prog (.fn 8) (tbm x) [.ptr 0 0 0, .int .i64 k, .agg (plE p), .agg (meE m)]
    [⟨Unit, fun _ => True, fun _ => .tup [.agg (plE (0, 0)), .bool .f, er (Gl.A 0)], fun _ => tbm x⟩] := by
  refine (set_ok x k p m h).weaken ?_
  rintro f ⟨A, hA, y, hy, hf'⟩
  simp only [List.mem_cons, List.not_mem_nil, or_false] at hA
  rcases hA with rfl | rfl | rfl
  · exact (hy hf).elim
  · exact Ends.one () trivial hf'
  · exact (hy.2 ht).elim
theorem setNum_ok (x : Tb) (k : Int) (p : Pl) (m : Me) (h : Rep x) (hf : ¬ Fits x k p) : Does (C := C0) Tryd.prog (.fn 8) (tbm x) [.ptr 0 0 0, .int .i64 k, .agg (plE p), .agg (meE m)]
    [⟨Unit, fun _ => True, fun _ => .tup [.agg (plE (0, 0)), .bool .f, er (Gl.A 2)], fun _ => tbm x⟩] := by
  refine (set_ok x k p m h).weaken ?_
  rintro f ⟨A, hA, y, hy, hf'⟩
  simp only [List.mem_cons, List.not_mem_nil, or_false] at hA
  rcases hA with rfl | rfl | rfl
  · exact Ends.one () trivial hf'
  · exact (hf hy.1).elim
  · exact (hf hy.1).elim
noncomputable def fcSetOk : Fc Tryd.prog C0 where
  tg := .fn 8
  X := Tb × Int × Pl × Me
  args := fun (_, k, p, m) => [.ptr 0 0 0, .int .i64 k, .agg (plE p), .agg (meE m)]
  mem := fun (x, _) => tbm x
  pre := fun (x, k, p, m) => Rep x ∧ Fits x k p ∧ ¬ Taken x k p
  alts := fun (x, k, p, m) => [⟨Ks × Nat × Ps × Nat, fun y => Rep (tw x y) ∧ tl (tw x y) = lset (tl x) ⟨k, p, m⟩, fun _ => .tup [.agg (plE (lget (tl x) k).pl), .bool (.tm (lhas (tl x) k)), .nili], fun y => tbm (tw x y)⟩]
  mat vs m := match vs with
    | [.ptr c 0 0, .int _ k, .agg [.int _ a, .int _ b], .agg [.int _ m1, .int _ m2, .int _ m3, .int _ m4, .int _ m5, .int _ m6]] => match tbOf m c with
      | some (x, l) => some ((x, k, (a, b), ⟨m1, m2, m3, m4, m5, m6⟩), l)
      | none => none
    | _ => none
  ok := fun (x, k, p, m) h => setOk_ok x k p m h.1 h.2.1 h.2.2
/-- .. of the examples: another one's page. -/
noncomputable def fcSet6 : Fc Tryd.prog C0 where
  tg := .fn 8
  X := Tb × Me
  args := fun (_, m) => [.ptr 0 0 0, .int .i64 6, .agg (plE (1, 1)), .agg (meE m)]
  mem := fun (x, _) => tbm x
  pre := fun (x, m) => Rep x ∧ Fits x 6 (1, 1) ∧ Taken x 6 (1, 1)
  alts := fun (x, m) => [⟨Unit, fun _ => True, fun _ => .tup [.agg (plE (0, 0)), .bool .f, er (Gl.A 0)], fun _ => tbm x⟩]
  mat vs m := match vs with
    | [.ptr c 0 0, .int _ (.ofNat 6), .agg [.int _ (.ofNat 1), .int _ b], .agg [.int _ m1, .int _ m2, .int _ m3, .int _ m4, .int _ m5, .int _ m6]] => match tbOf m c with
      | some (x, l) => some ((x, ⟨m1, m2, m3, m4, m5, m6⟩), l)
      | none => none
    | _ => none
  ok := fun (x, m) h => setOrd_ok x _ _ m h.1 h.2.1 h.2.2
noncomputable def fcSet64 : Fc Tryd.prog C0 where
  tg := .fn 8
  X := Tb × Me
  args := fun (_, m) => [.ptr 0 0 0, .int .i64 6, .agg (plE (4, 0)), .agg (meE m)]
  mem := fun (x, _) => tbm x
  pre := fun (x, m) => Rep x ∧ ¬ Fits x 6 (4, 0)
  alts := fun (x, m) => [⟨Unit, fun _ => True, fun _ => .tup [.agg (plE (0, 0)), .bool .f, er (Gl.A 2)], fun _ => tbm x⟩]
  mat vs m := match vs with
    | [.ptr c 0 0, .int _ (.ofNat 6), .agg [.int _ (.ofNat 4), .int _ b], .agg [.int _ m1, .int _ m2, .int _ m3, .int _ m4, .int _ m5, .int _ m6]] => match tbOf m c with
      | some (x, l) => some ((x, ⟨m1, m2, m3, m4, m5, m6⟩), l)
      | none => none
    | _ => none
  ok := fun (x, m) h => setNum_ok x _ _ m h.1 h.2
/-- Whose page. -/
theorem atL_ok (x : Tb) (p : Pl) (h : Rep x) : Tells (C := C0) Tryd.prog (.fn 10) (tbr x) [.ptr 0 0 0, .agg (plE p)] (.tup [.int .i64 (lwho (tl x) p), .bool (.tm (lat (tl x) p))]) := by
  rw [← h.phas, ← h.pget]; exact at_ok x p
def pcAtL : Pc Tryd.prog C0 where
  tg := .fn 10
  X := Tb × Pl
  args := fun (x, p) => [.ptr 0 0 0, .agg (plE p)]
  mem := fun (x, p) => tbr x
  pre := fun (x, p) => Rep x
  res := fun (x, p) => .tup [.int .i64 (lwho (tl x) p), .bool (.tm (lat (tl x) p))]
  mat vs m := match vs with
    | [.ptr p 0 0, .agg [.int _ a, .int _ b]] => match tbOf m p with
      | some (x, l) => some ((x, (a, b)), l)
      | none => none
    | _ => none
  ok := fun (x, p) h => atL_ok x p h
theorem lenL_ok (x : Tb) : Tells (C := C0) Tryd.prog (.fn 11) (tbr x) [.ptr 0 0 0] (.int .i64 ((tl x).length : Int)) := by
  rw [show (tl x).length = x.kl.length from List.length_map _]; exact len_ok x
def pcLenL : Pc Tryd.prog C0 where
  tg := .fn 11
  X := Tb
  args _ := [.ptr 0 0 0]
  mem x := tbr x
  pre _ := True
  res x := .int .i64 ((tl x).length : Int)
  mat vs m := match vs with
    | [.ptr p 0 0] => tbOf m p
    | _ => none
  ok x _ := lenL_ok x
theorem newOk_ok (b p : Int) (h : MayT b p) : Does (C := C0) Tryd.prog (.fn 7) [] [.int .i64 b, .int .i64 p]
    [⟨Nat × Nat × Nat, fun _ => True, fun _ => .tup [.ptr 0 0 0, .nili], fun y => tbm ⟨y.1, 0, b, p, y.2.1, [], 0, y.2.2, [], 0⟩⟩] := by
  refine (new_ok b p).weaken ?_
  rintro f ⟨A, hA, y, hy, hf'⟩
  simp only [List.mem_cons, List.not_mem_nil, or_false] at hA
  rcases hA with rfl | rfl
  · exact (hy h).elim
  · exact Ends.one (y : Nat × Nat × Nat) trivial hf'
noncomputable def fcNewOk : Fc Tryd.prog C0 where
  tg := .fn 7
  X := Int × Int
  args := fun (b, p) => [.int .i64 b, .int .i64 p]
  mem := fun _ => []
  pre := fun (b, p) => MayT b p
  alts := fun (b, p) => [⟨Nat × Nat × Nat, fun _ => True, fun _ => .tup [.ptr 0 0 0, .nili], fun y => tbm ⟨y.1, 0, b, p, y.2.1, [], 0, y.2.2, [], 0⟩⟩]
  mat vs _ := match vs with
    | [.int _ b, .int _ p] => some ((b, p), [])
    | _ => none
  ok := fun (b, p) h => newOk_ok b p h
theorem lset_nil (s : Slot) : lset [] s = [s] := rfl
theorem lset_one (a s : Slot) (h : a.key = s.key) : lset [a] s = [s] := by
  unfold lset ldel
  simp [h]
abbrev fs1 : Slot := ⟨5, (0, 1), me0⟩
abbrev fs2 : Slot := ⟨5, (1, 1), me0⟩
theorem sm_of {k a b : Int} {m : Me} (h1 : 0 ≤ k) (h2 : k ≤ 1073741824) (h3 : 0 ≤ a) (h4 : a < 64) (h5 : 0 ≤ b) (h6 : b < 64) : Sm ⟨k, (a, b), m⟩ := ⟨h1, h2, h3, h4, h5, h6⟩
theorem tok_one {x : Tb} (h : Rep x) {s : Slot} (hl : tl x = [s]) (hs : Sm s) : Tok x := by
  refine ⟨h, ?_, ?_⟩
  · intro t ht
    rw [hl] at ht
    rw [List.mem_singleton.1 ht]; exact hs
  · have := congrArg List.length hl
    rw [List.length_map] at this
    rw [this]; show 1 < 1048576; decide
theorem first_v {L0 L1 L2 : List Slot} (h0 : L0 = []) (h1 : L1 = [fs1]) (h2 : L2 = [fs2]) : ((SB.tm (!lhas L0 5 && (SB.tm (lhas L1 5)).val && (SB.tm (decide ((lget L1 5).pl.fst = 0))).val && (SB.tm (decide ((lget L1 5).pl.snd = 1))).val && (SB.tm (decide (Gl.A 0 = Gl.A 0))).val && (SB.tm (decide (Gl.A 2 = Gl.A 2))).val && (SB.tm !lat L2 (0, 1)).val &&
    (SB.tm (decide (((List.filter (inBlk 0) L2).length : Int) = 0))).val && (SB.tm (decide (((List.filter (inBlk 1) L2).length : Int) = 1))).val)).val) = SB.t.val := by
  subst h0 h1 h2
  simp only [SB.val]
  rfl
set_option maxHeartbeats 8000000 in
theorem first_ok : Tells (C := C0) Tryd.prog (.fn 6) [] [] (.bool .t) := by
  refine loc_pc (P := Tryd.prog) (E := ⟨[fcNewOk, fcSet6, fcSet64, fcSetOk], [pcAtL, pcLive], 104, []⟩) (L := []) mix Tryd.func6 rfl (by kernel_rfl) (by kernel_rfl) rfl rfl ?_
  ((conv => (arg 1; reduce)); with_reducible repeat' (first | exact Tr.yes_h | refine Tr.and_h ?_ ?_ | refine Tr.imp_h fun _ => ?_ | refine Tr.all_h fun _ => ?_ | refine Tr.lf_h ?_))
  all_goals try (first | first | (show Region.lexB _ _ = true; kernel_rfl) | (show planned _ _ = true; kernel_rfl) | exact rfl | exact True.intro | (first | exact key3 | exact key30 | exact zero3 | exact zero53 | exact eq30 | exact ⟨key3, zero53⟩ | exact ⟨key30, zero3⟩) | ((try dsimp only [imp, C0, cG, cInt, cPl, cSlot, cDo] at *); (try refine inR64 ?_ ?_) <;> (try simp only [List.length_set, List.length_append, List.length_take, List.length_drop]) <;> omega))
  · show 1 ≤ (4 : Int) ∧ (4 : Int) ≤ 64 ∧ 1 ≤ (8 : Int) ∧ (8 : Int) ≤ 64
    decide
  · refine ⟨Rep.new .., ⟨by decide, by decide, by decide, (by decide : (0 : Int) < 4), by decide, (by decide : (1 : Int) < 8)⟩, ?_⟩
    rintro ⟨h, _⟩
    exact absurd h (show ¬ lat [] (0, 1) = true by decide)
  · rename_i h b
    obtain ⟨h, hl⟩ := h
    have hl := hl.trans (lset_nil fs1)
    refine ⟨h, ⟨by decide, by decide, by decide, (by decide : (1 : Int) < 4), by decide, (by decide : (1 : Int) < 8)⟩, ?_⟩
    rintro ⟨h, _⟩
    rw [hl] at h
    exact absurd h (show ¬ lat [fs1] (1, 1) = true by decide)
  · rename_i hA b yB hB b2
    have hl := hA.2.trans (lset_nil fs1)
    obtain ⟨h, hl2⟩ := hB
    rw [hl] at hl2
    have hl2 := hl2.trans (lset_one fs1 fs2 rfl)
    refine ⟨h, ⟨by decide, by decide, by decide, (by decide : (1 : Int) < 4), by decide, (by decide : (1 : Int) < 8)⟩, ?_⟩
    show lat (tl _) _ = true ∧ lwho (tl _) _ ≠ 6
    rw [hl2]
    exact ⟨by decide, by decide⟩
  · rename_i hA b yB hB b2 u1 u2 b3
    refine ⟨hB.1, ?_⟩
    rintro ⟨h1, h2, h3, h4, h5, h6⟩
    exact absurd h4 (show ¬ (4 : Int) < 4 by decide)
  · rename_i hA b yB hB b2 u1 u2 b3 u3 u4 b4
    exact hB.1
  · exact plainA 0 (by decide)
  · exact plainA 0 (by decide)
  · exact plainA 2 (by decide)
  · exact plainA 2 (by decide)
  · rename_i hA b yB hB b2 u1 u2 b3 u3 u4 b4 hc
    have hl := hA.2.trans (lset_nil fs1)
    obtain ⟨h, hl2⟩ := hB
    rw [hl] at hl2
    have hl2 := hl2.trans (lset_one fs1 fs2 rfl)
    exact tok_one h hl2 (sm_of (by decide) (by decide) (by decide) (by decide) (by decide) (by decide))
  · rename_i hA b yB hB b2 u1 u2 b3 u3 u4 b4 hc
    have hl := hA.2.trans (lset_nil fs1)
    obtain ⟨h, hl2⟩ := hB
    rw [hl] at hl2
    have hl2 := hl2.trans (lset_one fs1 fs2 rfl)
    exact tok_one h hl2 (sm_of (by decide) (by decide) (by decide) (by decide) (by decide) (by decide))
  · rename_i hA b yB hB b2 u1 u2 b3 u3 u4 b4
    have hl := hA.2.trans (lset_nil fs1)
    obtain ⟨h, hl2⟩ := hB
    rw [hl] at hl2
    have hl2 := hl2.trans (lset_one fs1 fs2 rfl)
    exact first_v rfl hl hl2
def pcFirst : Pc Tryd.prog C0 where
  tg := .fn 6
  X := Unit
  args _ := []
  mem _ := []
  pre _ := True
  res _ := .bool .t
  mat _ _ := some ((), [])
  ok _ _ := first_ok
end Go.Vx
