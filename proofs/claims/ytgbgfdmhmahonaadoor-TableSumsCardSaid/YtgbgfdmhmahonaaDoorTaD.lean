/-
  Round 20: Set.
  Conditions: none.
-/
import Derived.Test.YtgbgfdmhmahonaaDoorTaC
set_option linter.unusedSectionVars false
set_option maxRecDepth 100000
set_option linter.unusedVariables false
set_option linter.unusedSimpArgs false
namespace Go.Vx
open Go Go.Proofs
variable [Gl]

/-- What may be given. -/
abbrev Fits (x : Tb) (k : Int) (p : Pl) : Prop := 0 ≤ k ∧ k ≤ 1073741824 ∧ 0 ≤ p.1 ∧ p.1 < x.bs ∧ 0 ≤ p.2 ∧ p.2 < x.ps
/-- Another one's page. -/
abbrev Taken (x : Tb) (k : Int) (p : Pl) : Prop := lat (tl x) p = true ∧ lwho (tl x) p ≠ k
theorem ent_ok {c d : Codec} {l : List (Ent' c d)} {q : c.α} (h : mhas c d l q = false) (y : d.α) (clk : Nat) : 0 ≤ (mstamp c d l q clk : Int) ∧ mhasS c d (mput c d l q y clk) (mstamp c d l q clk : Int).toNat = true := by
  rw [mput_new h, mstamp_new h]
  exact ⟨Int.natCast_nonneg _, mhasS_add ..⟩
theorem ent_set {c d : Codec} {l : List (Ent' c d)} {clk : Nat} (hb : Births l clk) {q : c.α} (h : mhas c d l q = false) (x y : d.α) : mset c d (mstamp c d l q clk : Int).toNat x (mput c d l q y clk) = l ++ [(q, x, clk)] := by
  rw [mput_new h, mstamp_new h]
  exact mset_add q x y hb.old
theorem fits_iff {x : Tb} {k : Int} {p : Pl} {b : Bool} (h : (decide (k < 0) || (SB.tm (decide (1073741824 < k))).val || (SB.tm (decide (p.1 < 0))).val || (SB.tm (decide (x.bs ≤ p.1))).val || (SB.tm (decide (p.2 < 0))).val || (SB.tm (decide (x.ps ≤ p.2))).val) = b) :
    (b = true ↔ ¬ Fits x k p) := by
  rw [← h]
  simp only [SB.val, Bool.or_eq_true, decide_eq_true_eq]
  constructor
  · rintro h ⟨h1, h2, h3, h4, h5, h6⟩
    omega
  · intro h
    refine Classical.byContradiction fun hn => h ?_
    show 0 ≤ k ∧ k ≤ 1073741824 ∧ 0 ≤ p.1 ∧ p.1 < x.bs ∧ 0 ≤ p.2 ∧ p.2 < x.ps
    omega
theorem taken_iff {x : Tb} (hx : Rep x) {k : Int} {p : Pl} {b : Bool} (h : (phas x.pl p && (SB.tm (decide (pget x.pl p ≠ k))).val) = b) : (b = true ↔ Taken x k p) := by
  rw [← h, hx.phas, hx.pget]
  simp only [SB.val, Bool.and_eq_true, decide_eq_true_eq, Taken]
set_option maxHeartbeats 8000000 in
theorem set_ok (x : Tb) (k : Int) (p : Pl) (m : Me) (h : Rep x) : Does (C := C0) Tryd.prog (.fn 8) (tbm x) [.ptr 0 0 0, .int .i64 k, .agg (plE p), .agg (meE m)]
    [⟨Unit, fun _ => ¬ Fits x k p, fun _ => .tup [.agg (plE (0, 0)), .bool .f, er (Gl.A 2)], fun _ => tbm x⟩,
     ⟨Unit, fun _ => Fits x k p ∧ Taken x k p, fun _ => .tup [.agg (plE (0, 0)), .bool .f, er (Gl.A 0)], fun _ => tbm x⟩,
     ⟨Unit, fun _ => Fits x k p ∧ ¬ Taken x k p, fun _ => .tup [.agg (plE (lget (tl x) k).pl), .bool (.tm (lhas (tl x) k)), .nili], fun _ => tbm (tset x ⟨k, p, m⟩)⟩] := by
  refine loc_fn (P := Tryd.prog) (E := ⟨[fcDrop], [], 102, [(2, [], [.p 0, .p 1, .e 2, .p 3, .p 4]), (5, [], [.p 0, .p 1, .e 2, .p 3, .p 4]),
    (8, [0, 3, 4], [.p 0, .p 1, .p 2, .p 3, .p 4, .p 5, .p 6, .p 7, .p 8, .p 9, .p 10, .p 11, .p 12, .p 13, .p 14, .e 15, .p 16, .e 17, .e 18, .p 19, .e 20])]⟩) (L := []) mix Tryd.func8 rfl (by kernel_rfl) (by kernel_rfl) rfl rfl ?_
  ((conv => (arg 1; reduce)); with_reducible repeat' (first | exact Tr.yes_h | refine Tr.and_h ?_ ?_ | refine Tr.imp_h fun _ => ?_ | refine Tr.all_h fun _ => ?_ | refine Tr.lf_h ?_))
  all_goals try (first | first | (show Region.lexB _ _ = true; kernel_rfl) | (show planned _ _ = true; kernel_rfl) | exact rfl | exact True.intro | (first | exact key3 | exact key30 | exact zero3 | exact zero53 | exact eq30 | exact ⟨key3, zero53⟩ | exact ⟨key30, zero3⟩) | ((try dsimp only [imp, C0, cG, cInt, cPl, cSlot, cDo] at *); (try refine inR64 ?_ ?_) <;> (try simp only [List.length_set, List.length_append, List.length_take, List.length_drop]) <;> omega))
  · rename_i b1 b2 b3 h1
    refine Ends.one () ((fits_iff h1).1 rfl) ?_
    ((conv => (arg 1; reduce)); with_reducible repeat' (first | exact Tr.yes_h | refine Tr.and_h ?_ ?_ | refine Tr.imp_h fun _ => ?_ | refine Tr.all_h fun _ => ?_ | refine Tr.lf_h ?_))
    all_goals (first | first | (show Region.lexB _ _ = true; kernel_rfl) | (show planned _ _ = true; kernel_rfl) | exact rfl | exact True.intro | (first | exact key3 | exact key30 | exact zero3 | exact zero53 | exact eq30 | exact ⟨key3, zero53⟩ | exact ⟨key30, zero3⟩) | ((try dsimp only [imp, C0, cG, cInt, cPl, cSlot, cDo] at *); (try refine inR64 ?_ ?_) <;> (try simp only [List.length_set, List.length_append, List.length_take, List.length_drop]) <;> omega))
  · rename_i b1 b2 b3 h1 h2
    have hf : Fits x k p := Classical.byContradiction fun hn => absurd ((fits_iff h1).2 hn) Bool.false_ne_true
    refine Ends.next (Ends.one () ⟨hf, (taken_iff h h2).1 rfl⟩ ?_)
    ((conv => (arg 1; reduce)); with_reducible repeat' (first | exact Tr.yes_h | refine Tr.and_h ?_ ?_ | refine Tr.imp_h fun _ => ?_ | refine Tr.all_h fun _ => ?_ | refine Tr.lf_h ?_))
    all_goals (first | first | (show Region.lexB _ _ = true; kernel_rfl) | (show planned _ _ = true; kernel_rfl) | exact rfl | exact True.intro | (first | exact key3 | exact key30 | exact zero3 | exact zero53 | exact eq30 | exact ⟨key3, zero53⟩ | exact ⟨key30, zero3⟩) | ((try dsimp only [imp, C0, cG, cInt, cPl, cSlot, cDo] at *); (try refine inR64 ?_ ?_) <;> (try simp only [List.length_set, List.length_append, List.length_take, List.length_drop]) <;> omega))
  all_goals (
    have h1 := ‹(decide (k < 0) || (SB.tm (decide (1073741824 < k))).val || (SB.tm (decide (p.1 < 0))).val || (SB.tm (decide (x.bs ≤ p.1))).val || (SB.tm (decide (p.2 < 0))).val || (SB.tm (decide (x.ps ≤ p.2))).val) = false›
    rename_i h2 b4 b5 b6
    have hf : Fits x k p := Classical.byContradiction fun hn => absurd ((fits_iff h1).2 hn) Bool.false_ne_true
    have ht : ¬ Taken x k p := fun ht => absurd ((taken_iff h h2).2 ht) Bool.false_ne_true
    obtain ⟨hd, hl⟩ := h.drop k
    have hk : khas (tdrop x k).kl k = false := by rw [hd.khas, hl]; exact lhas_del _ _
    have hp : phas (tdrop x k).pl p = false := by
      rw [hd.phas, hl]
      refine lat_del h.ok fun hat => ?_
      exact Classical.byContradiction fun hn => ht ⟨hat, hn⟩)
  · exact ent_ok hk _ _
  · exact ent_ok hp _ _
  · have e1 : mget (C0 3) (C0 53) x.kl k = lget (tl x) k := h.kget k
    have e2 : mhas (C0 3) (C0 53) x.kl k = lhas (tl x) k := h.khas k
    refine Ends.next (Ends.next (Ends.one () ⟨hf, ht⟩ ?_))
    ((conv => (arg 1; reduce)); with_reducible repeat' (first | exact Tr.yes_h | refine Tr.and_h ?_ ?_ | refine Tr.imp_h fun _ => ?_ | refine Tr.all_h fun _ => ?_ | refine Tr.lf_h ?_))
    all_goals try (first | first | (show Region.lexB _ _ = true; kernel_rfl) | (show planned _ _ = true; kernel_rfl) | exact rfl | exact True.intro | (first | exact key3 | exact key30 | exact zero3 | exact zero53 | exact eq30 | exact ⟨key3, zero53⟩ | exact ⟨key30, zero3⟩) | ((try dsimp only [imp, C0, cG, cInt, cPl, cSlot, cDo] at *); (try refine inR64 ?_ ?_) <;> (try simp only [List.length_set, List.length_append, List.length_take, List.length_drop]) <;> omega))
    all_goals first
      | exact (ent_set hd.bk hk ⟨k, p, m⟩ _).symm
      | exact (mclk_new hk _).symm
      | exact (ent_set hd.bp hp k _).symm
      | exact (mclk_new hp _).symm
      | exact congrArg (fun s : Slot => s.pl.1) e1.symm
      | exact congrArg (fun s : Slot => s.pl.2) e1.symm
      | exact e2.symm
      | exact congrArg (fun s : Slot => s.pl.1) e1
      | exact congrArg (fun s : Slot => s.pl.2) e1
      | exact e2
noncomputable def fcSet : Fc Tryd.prog C0 where
  tg := .fn 8
  X := Tb × Int × Pl × Me
  args := fun (_, k, p, m) => [.ptr 0 0 0, .int .i64 k, .agg (plE p), .agg (meE m)]
  mem := fun (x, _) => tbm x
  pre := fun (x, _) => Rep x
  alts := fun (x, k, p, m) => [⟨Unit, fun _ => ¬ Fits x k p, fun _ => .tup [.agg (plE (0, 0)), .bool .f, er (Gl.A 2)], fun _ => tbm x⟩,
     ⟨Unit, fun _ => Fits x k p ∧ Taken x k p, fun _ => .tup [.agg (plE (0, 0)), .bool .f, er (Gl.A 0)], fun _ => tbm x⟩,
     ⟨Unit, fun _ => Fits x k p ∧ ¬ Taken x k p, fun _ => .tup [.agg (plE (lget (tl x) k).pl), .bool (.tm (lhas (tl x) k)), .nili], fun _ => tbm (tset x ⟨k, p, m⟩)⟩]
  mat vs m := match vs with
    | [.ptr c 0 0, .int _ k, .agg [.int _ a, .int _ b], .agg [.int _ m1, .int _ m2, .int _ m3, .int _ m4, .int _ m5, .int _ m6]] => match tbOf m c with
      | some (x, l) => some ((x, k, (a, b), ⟨m1, m2, m3, m4, m5, m6⟩), l)
      | none => none
    | _ => none
  ok := fun (x, k, p, m) h => set_ok x k p m h
end Go.Vx
