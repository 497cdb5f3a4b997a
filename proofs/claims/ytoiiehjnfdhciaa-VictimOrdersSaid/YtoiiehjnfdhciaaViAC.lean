/-
  Round 21: VictimOrders' contracts, for a slice in which there is something, and for none.
  Conditions: none.
-/
import Derived.Test.YtoiiehjnfdhciaaViAB
set_option maxRecDepth 100000
set_option linter.unusedVariables false
set_option linter.unusedSimpArgs false
namespace Go.Vi
open Go Go.Vx Go.Proofs

theorem Does.snd {P : Program} {tg : Tg} {mem : List (Ck C1)} {args : List SV} {A B : Alt C1} (h : Does P tg mem args [A, B]) (hA : ∀ y, ¬ A.post y) : Does P tg mem args [B] := by
  intro w hm
  obtain ⟨f, vals, h1, h2⟩ := h w hm
  refine ⟨f, vals, h1, h2.mono ?_⟩
  rintro e w' ⟨r, m', he, hm', hx, E, hE, y, hy, hr, ho⟩
  refine ⟨r, m', he, hm', hx, E, ?_, y, hy, hr, ho⟩
  rcases List.mem_cons.1 hE with rfl | hE
  · exact absurd hy (hA y)
  · exact hE
theorem Does.fst {P : Program} {tg : Tg} {mem : List (Ck C1)} {args : List SV} {A B : Alt C1} (h : Does P tg mem args [A, B]) (hB : ∀ y, ¬ B.post y) : Does P tg mem args [A] := by
  intro w hm
  obtain ⟨f, vals, h1, h2⟩ := h w hm
  refine ⟨f, vals, h1, h2.mono ?_⟩
  rintro e w' ⟨r, m', he, hm', hx, E, hE, y, hy, hr, ho⟩
  refine ⟨r, m', he, hm', hx, E, ?_, y, hy, hr, ho⟩
  rcases List.mem_cons.1 hE with rfl | hE
  · exact List.mem_cons_self ..
  · rcases List.mem_singleton.1 hE with rfl
    exact absurd hy (hB y)
noncomputable def fcROrderS : Fc Try.prog C1 where
  tg := .fn 11
  X := Nat × Nat × List Blk × Nat × Nat
  args := fun (_, _, _, N, m) => [.sl 0 0 N m]
  mem := fun (b, q, bl, _, _) => [⟨b, q, 4, false, none, .rows 39 bl⟩]
  pre := fun (_, _, bl, N, _) => 0 < N ∧ N ≤ bl.length ∧ N < 524288
  alts := fun (b, q, bl, N, m) => [⟨Nat × Nat × List Blk × Nat, fun y => 0 < N ∧ N ≤ y.2.2.2 ∧ y.2.2.2 ≤ y.2.2.1.length ∧ (y.2.2.1.take N).Perm (bl.take N) ∧ SrB (y.2.2.1.take N), fun y => .sl 1 0 N y.2.2.2, fun y => [⟨b, q, 4, false, none, .rows 39 bl⟩, ⟨y.1, y.2.1, 4, true, none, .rows 39 y.2.2.1⟩]⟩]
  mat vs m := match vs with
    | [.sl k _ n c] => match nth m k with
      | ⟨b, q, _, _, _, .rows 39 l⟩ => some ((b, q, l, n, c), [k])
      | _ => none
    | _ => none
  ok := fun (_, _, _, _, _) h => Does.snd (rorder_ok _ _ _ _ _ h.2.1 h.2.2) (fun _ e => absurd h.1 (by have e : _ = 0 := e; omega))
noncomputable def fcMadeS : Fc Try.prog C1 where
  tg := .fn 7
  X := Nat × Nat × List Blk × Nat × Nat
  args := fun (_, _, _, N, m) => [.sl 0 0 N m]
  mem := fun (b, q, bl, _, _) => [⟨b, q, 4, false, none, .rows 39 bl⟩]
  pre := fun (_, _, bl, N, _) => 0 < N ∧ N ≤ bl.length ∧ N < 1048576
  alts := fun (b, q, bl, N, m) => [⟨Nat × Nat × List Blk × Nat, fun y => 0 < N ∧ N ≤ y.2.2.2 ∧ y.2.2.2 ≤ y.2.2.1.length ∧ y.2.2.1.take N = bl.take N, fun y => .sl 1 0 N y.2.2.2, fun y => [⟨b, q, 4, false, none, .rows 39 bl⟩, ⟨y.1, y.2.1, 4, true, none, .rows 27 y.2.2.1⟩]⟩]
  mat vs m := match vs with
    | [.sl k _ n c] => match nth m k with
      | ⟨b, q, _, _, _, .rows 39 l⟩ => some ((b, q, l, n, c), [k])
      | _ => none
    | _ => none
  ok := fun (_, _, _, _, _) h => Does.snd (made_ok _ _ _ _ _ h.2.1 h.2.2) (fun _ e => absurd h.1 (by have e : _ = 0 := e; omega))
noncomputable def fcOfS : Fc Try.prog C1 where
  tg := .fn 8
  X := Nat × Nat × List Blk × Nat × Nat
  args := fun (_, _, _, N, m) => [.sl 0 0 N m]
  mem := fun (b, q, bl, _, _) => [⟨b, q, 4, false, none, .rows 27 bl⟩]
  pre := fun (_, _, bl, N, _) => 0 < N ∧ N ≤ bl.length ∧ N < 1048576
  alts := fun (b, q, bl, N, m) => [⟨Nat × Nat × Nat × Nat × Nat × Nat × List Itm × Nat, fun y => 0 < N ∧ hOf (itms bl N) y.2.2.2.2.2.2.1 N y.2.2.2.2.2.2.2, fun y => .ptr 1 0 0,
        fun y => [⟨b, q, 4, false, none, .rows 27 bl⟩, ⟨y.1, y.2.1, 1, true, none, .one [.ptr 2 0 0]⟩, ⟨y.2.2.1, y.2.2.2.1, 2, true, none, .one [.sl 3 0 N y.2.2.2.2.2.2.2, lsSV]⟩, ⟨y.2.2.2.2.1, y.2.2.2.2.2.1, 5, true, none, .rows 57 y.2.2.2.2.2.2.1⟩]⟩]
  mat vs m := match vs with
    | [.sl k _ n c] => match nth m k with
      | ⟨b, q, _, _, _, .rows 27 l⟩ => some ((b, q, l, n, c), [k])
      | _ => none
    | _ => none
  ok := fun (_, _, _, _, _) h => Does.snd (of_ok _ _ _ _ _ h.2.1 h.2.2) (fun _ e => absurd h.1 (by have e : _ = 0 := e; omega))
noncomputable def fcOrderS : Fc Try.prog C1 where
  tg := .fn 12
  X := Nat × Nat × List Blk × Nat × Nat
  args := fun (_, _, _, N, m) => [.sl 0 0 N m]
  mem := fun (b, q, bl, _, _) => [⟨b, q, 4, false, none, .rows 27 bl⟩]
  pre := fun (_, _, bl, N, _) => 0 < N ∧ N ≤ bl.length ∧ N < 1048576
  alts := fun (b, q, bl, N, m) => [⟨Nat × Nat × List Blk × Nat × List Itm, fun y => 0 < N ∧ Srt (itms bl N) y.2.2.2.2 ∧ Out y.2.2.1 N y.2.2.2.1 y.2.2.2.2, fun y => .sl 1 0 N y.2.2.2.1, fun y => [⟨b, q, 4, false, none, .rows 27 bl⟩, ⟨y.1, y.2.1, 4, true, none, .rows 27 y.2.2.1⟩]⟩]
  mat vs m := match vs with
    | [.sl k _ n c] => match nth m k with
      | ⟨b, q, _, _, _, .rows 27 l⟩ => some ((b, q, l, n, c), [k])
      | _ => none
    | _ => none
  ok := fun (_, _, _, _, _) h => Does.snd (order_ok _ _ _ _ _ h.2.1 h.2.2) (fun _ e => absurd h.1 (by have e : _ = 0 := e; omega))
noncomputable def fcGreedyS : Fc Try.prog C1 where
  tg := .fn 14
  X := Nat × Nat × List Blk × Nat × Nat
  args := fun (_, _, _, N, m) => [.sl 0 0 N m]
  mem := fun (b, q, bl, _, _) => [⟨b, q, 4, false, none, .rows 27 bl⟩]
  pre := fun (_, _, bl, N, _) => 0 < N ∧ N ≤ bl.length ∧ N < 1048576
  alts := fun (b, q, bl, N, m) => [⟨Itm, fun e => 0 < N ∧ Head (itms bl N) e, fun e => .tup [bSV e.1, .bool .t], fun y => [⟨b, q, 4, false, none, .rows 27 bl⟩]⟩]
  mat vs m := match vs with
    | [.sl k _ n c] => match nth m k with
      | ⟨b, q, _, _, _, .rows 27 l⟩ => some ((b, q, l, n, c), [k])
      | _ => none
    | _ => none
  ok := fun (_, _, _, _, _) h => Does.snd (greedy_ok _ _ _ _ _ h.2.1 h.2.2) (fun _ e => absurd h.1 (by have e : _ = 0 := e; omega))
theorem fcROrderE_ok (b q : Nat) (bl : List Blk) (m : Nat) : Does (C := C1) Try.prog (.fn 11) [⟨b, q, 4, false, none, .rows 39 bl⟩] [.sl 0 0 0 m] [⟨Unit, fun _ => True, fun _ => .nils, fun y => [⟨b, q, 4, false, none, .rows 39 bl⟩]⟩] := by
  intro w hm
  obtain ⟨f, vals, h1, h2⟩ := (rorder_ok b q bl 0 m (Nat.zero_le _) (by omega)) w hm
  refine ⟨f, vals, h1, h2.mono ?_⟩
  rintro e w' ⟨r, m', he, hm', hx, E, hE, y, hy, hr, ho⟩
  rcases List.mem_cons.1 hE with rfl | hE
  · exact ⟨r, m', he, hm', hx, _, List.mem_cons_self .., (), trivial, hr, ho⟩
  · rcases List.mem_singleton.1 hE with rfl
    exact absurd hy.1 (Nat.lt_irrefl 0)
noncomputable def fcROrderE : Fc Try.prog C1 where
  tg := .fn 11
  X := Nat × Nat × List Blk × Nat
  args := fun (_, _, _, m) => [.sl 0 0 0 m]
  mem := fun (b, q, bl, _) => [⟨b, q, 4, false, none, .rows 39 bl⟩]
  pre := fun _ => True
  alts := fun (b, q, bl, m) => [⟨Unit, fun _ => True, fun _ => .nils, fun y => [⟨b, q, 4, false, none, .rows 39 bl⟩]⟩]
  mat vs m := match vs with
    | [.sl k _ 0 c] => match nth m k with
      | ⟨b, q, _, _, _, .rows 39 l⟩ => some ((b, q, l, c), [k])
      | _ => none
    | _ => none
  ok := fun (_, _, _, _) _ => fcROrderE_ok _ _ _ _
theorem fcMadeE_ok (b q : Nat) (bl : List Blk) (m : Nat) : Does (C := C1) Try.prog (.fn 7) [⟨b, q, 4, false, none, .rows 39 bl⟩] [.sl 0 0 0 m] [⟨Unit, fun _ => True, fun _ => .nils, fun y => [⟨b, q, 4, false, none, .rows 39 bl⟩]⟩] := by
  intro w hm
  obtain ⟨f, vals, h1, h2⟩ := (made_ok b q bl 0 m (Nat.zero_le _) (by omega)) w hm
  refine ⟨f, vals, h1, h2.mono ?_⟩
  rintro e w' ⟨r, m', he, hm', hx, E, hE, y, hy, hr, ho⟩
  rcases List.mem_cons.1 hE with rfl | hE
  · exact ⟨r, m', he, hm', hx, _, List.mem_cons_self .., (), trivial, hr, ho⟩
  · rcases List.mem_singleton.1 hE with rfl
    exact absurd hy.1 (Nat.lt_irrefl 0)
noncomputable def fcMadeE : Fc Try.prog C1 where
  tg := .fn 7
  X := Nat × Nat × List Blk × Nat
  args := fun (_, _, _, m) => [.sl 0 0 0 m]
  mem := fun (b, q, bl, _) => [⟨b, q, 4, false, none, .rows 39 bl⟩]
  pre := fun _ => True
  alts := fun (b, q, bl, m) => [⟨Unit, fun _ => True, fun _ => .nils, fun y => [⟨b, q, 4, false, none, .rows 39 bl⟩]⟩]
  mat vs m := match vs with
    | [.sl k _ 0 c] => match nth m k with
      | ⟨b, q, _, _, _, .rows 39 l⟩ => some ((b, q, l, c), [k])
      | _ => none
    | _ => none
  ok := fun (_, _, _, _) _ => fcMadeE_ok _ _ _ _
theorem rorder_nil : Does (C := C1) Try.prog (.fn 11) [] [.nils] [⟨Unit, fun _ => True, fun _ => .nils, fun y => []⟩] := by
  refine loc_fn (P := Try.prog) (E := ⟨[], [pcAhead], 52, [(8, [], [.p 0, .p 1, .p 2, .p 4, .p 5, .p 6, .e 3, .e 7, .p 8])]⟩) (L := [Pa 0]) mix Try.func11 rfl (by kernel_rfl) (by kernel_rfl) rfl rfl ?_
  ((conv => (arg 1; reduce)); with_reducible repeat' (first | exact Tr.yes_h | refine Tr.and_h ?_ ?_ | refine Tr.imp_h fun _ => ?_ | refine Tr.all_h fun _ => ?_ | refine Tr.lf_h ?_))
  all_goals try first | (show Region.lexB _ _ = true; kernel_rfl) | (show planned _ _ = true; kernel_rfl) | exact rfl | exact True.intro
  all_goals try exact absurd ‹decide ((0 : Int) < 0) = true› (by decide)
  all_goals try (intro h; exact absurd h (by decide))
  · refine Stands.one () ⟨trivial, ?_⟩
    ((conv => (arg 1; reduce)); with_reducible repeat' (first | exact Tr.yes_h | refine Tr.and_h ?_ ?_ | refine Tr.imp_h fun _ => ?_ | refine Tr.all_h fun _ => ?_ | refine Tr.lf_h ?_))
    all_goals (first | first | (show Region.lexB _ _ = true; kernel_rfl) | (show planned _ _ = true; kernel_rfl) | exact rfl | exact True.intro | ((try dsimp only [imp, C1, cBlk, cItm] at *); (try refine inR64 ?_ ?_) <;> (try simp only [List.length_set, List.length_append, List.length_take, List.length_drop]) <;> omega))
  · refine Ends.one () trivial ?_
    ((conv => (arg 1; reduce)); with_reducible repeat' (first | exact Tr.yes_h | refine Tr.and_h ?_ ?_ | refine Tr.imp_h fun _ => ?_ | refine Tr.all_h fun _ => ?_ | refine Tr.lf_h ?_))
    all_goals (first | first | (show Region.lexB _ _ = true; kernel_rfl) | (show planned _ _ = true; kernel_rfl) | exact rfl | exact True.intro | ((try dsimp only [imp, C1, cBlk, cItm] at *); (try refine inR64 ?_ ?_) <;> (try simp only [List.length_set, List.length_append, List.length_take, List.length_drop]) <;> omega))
noncomputable def fcROrder0 : Fc Try.prog C1 where
  tg := .fn 11
  X := Unit
  args := fun _ => [.nils]
  mem := fun _ => []
  pre := fun _ => True
  alts := fun _ => [⟨Unit, fun _ => True, fun _ => .nils, fun y => []⟩]
  mat vs m := match vs with
    | [.nils] => some ((), [])
    | _ => none
  ok := fun _ _ => rorder_nil
noncomputable def fcRCold : Fc Try.prog C1 where
  tg := .fn 16
  X := Nat × Nat × List Blk × Nat × Nat
  args := fun (_, _, _, N, m) => [.sl 0 0 N m]
  mem := fun (b, q, bl, _, _) => [⟨b, q, 4, false, none, .rows 39 bl⟩]
  pre := fun (_, _, bl, N, _) => N ≤ bl.length ∧ N < 1048576
  alts := fun (b, q, bl, N, m) => [⟨Unit, fun _ => ∀ x ∈ bl.take N, nf x = false, fun _ => .tup [zSV, .bool .f], fun y => [⟨b, q, 4, false, none, .rows 39 bl⟩]⟩,
      ⟨Blk, fun e => Coldest (bl.take N) e, fun e => .tup [bSV e, .bool .t], fun y => [⟨b, q, 4, false, none, .rows 39 bl⟩]⟩]
  mat vs m := match vs with
    | [.sl k _ n c] => match nth m k with
      | ⟨b, q, _, _, _, .rows 39 l⟩ => some ((b, q, l, n, c), [k])
      | _ => none
    | _ => none
  ok := fun (_, _, _, _, _) h => rcold_ok _ _ _ _ _ h.1 h.2
def Ra0 : Inv' C1 := ⟨3, Unit, fun _ => [(4, .int .i64 (-1)), (5, .int .i64 0)], fun _ m => m, fun _ => True, fun _ => 0⟩
theorem rcold_nil : Does (C := C1) Try.prog (.fn 16) [] [.nils] [⟨Unit, fun _ => True, fun _ => .tup [zSV, .bool .f], fun y => []⟩] := by
  refine loc_fn (P := Try.prog) (E := ⟨[], [], 92, []⟩) (L := [Ra0]) mix Try.func16 rfl (by kernel_rfl) (by kernel_rfl) rfl rfl ?_
  ((conv => (arg 1; reduce)); with_reducible repeat' (first | exact Tr.yes_h | refine Tr.and_h ?_ ?_ | refine Tr.imp_h fun _ => ?_ | refine Tr.all_h fun _ => ?_ | refine Tr.lf_h ?_))
  all_goals try first | (show Region.lexB _ _ = true; kernel_rfl) | (show planned _ _ = true; kernel_rfl) | exact rfl | exact True.intro
  all_goals try exact absurd ‹decide ((-1 : Int) < 0) = false› (by decide)
  all_goals try exact absurd ‹decide ((0 : Int) < 0) = true› (by decide)
  · refine Stands.one () ⟨trivial, ?_⟩
    ((conv => (arg 1; reduce)); with_reducible repeat' (first | exact Tr.yes_h | refine Tr.and_h ?_ ?_ | refine Tr.imp_h fun _ => ?_ | refine Tr.all_h fun _ => ?_ | refine Tr.lf_h ?_))
    all_goals (first | first | (show Region.lexB _ _ = true; kernel_rfl) | (show planned _ _ = true; kernel_rfl) | exact rfl | exact True.intro | ((try dsimp only [imp, C1, cBlk, cItm] at *); (try refine inR64 ?_ ?_) <;> (try simp only [List.length_set, List.length_append, List.length_take, List.length_drop]) <;> omega))
  · refine Ends.one () trivial ?_
    ((conv => (arg 1; reduce)); with_reducible repeat' (first | exact Tr.yes_h | refine Tr.and_h ?_ ?_ | refine Tr.imp_h fun _ => ?_ | refine Tr.all_h fun _ => ?_ | refine Tr.lf_h ?_))
    all_goals (first | first | (show Region.lexB _ _ = true; kernel_rfl) | (show planned _ _ = true; kernel_rfl) | exact rfl | exact True.intro | ((try dsimp only [imp, C1, cBlk, cItm] at *); (try refine inR64 ?_ ?_) <;> (try simp only [List.length_set, List.length_append, List.length_take, List.length_drop]) <;> omega))
noncomputable def fcRCold0 : Fc Try.prog C1 where
  tg := .fn 16
  X := Unit
  args := fun _ => [.nils]
  mem := fun _ => []
  pre := fun _ => True
  alts := fun _ => [⟨Unit, fun _ => True, fun _ => .tup [zSV, .bool .f], fun y => []⟩]
  mat vs m := match vs with
    | [.nils] => some ((), [])
    | _ => none
  ok := fun _ _ => rcold_nil
set_option maxHeartbeats 8000000 in
theorem gap_0ok (fb fq : Nat) (fr : List Int) (F fm : Nat) (hF : F ≤ fr.length) (hf : F < 524288) :
    Does (C := C1) Try.prog (.fn 17) [⟨fb, fq, 1, false, none, .rows 3 fr⟩] [.nils, .sl 0 0 F fm]
     [⟨Unit, fun _ => True, fun _ => .int .i64 (gapv (fr.take F ++ worns (([] : List Blk).take 0))), fun y => [⟨fb, fq, 1, false, none, .rows 3 fr⟩]⟩] := by
  refine loc_fn (P := Try.prog) (E := ⟨[fc_clonei, fc_clonei0], [pc_mx, pc_mn], 49, []⟩) (L := [G1 1 (fr.take F) [] 0, G2 1 (fr.take F ++ worns (([] : List Blk).take 0))]) mix Try.func17 rfl (by kernel_rfl) (by kernel_rfl) rfl rfl ?_
  ((conv => (arg 1; reduce)); with_reducible repeat' (first | exact Tr.yes_h | refine Tr.and_h ?_ ?_ | refine Tr.imp_h fun _ => ?_ | refine Tr.all_h fun _ => ?_ | refine Tr.lf_h ?_))
  all_goals try first | (show Region.lexB _ _ = true; kernel_rfl) | (show planned _ _ = true; kernel_rfl) | exact rfl | exact True.intro
  all_goals try (exfalso; have h9 : _ < (0 : Int) := of_decide_eq_true ‹decide (_ < (0 : Int)) = true›; omega)
  · exact ⟨hF, by omega⟩
  · rename_i y hy
    refine Stands.one ⟨y.1, y.2.1, y.2.2.1, F, y.2.2.2, 0⟩ ⟨⟨Nat.zero_le _, hy.1, hy.2.1, ?_, ?_⟩, ?_⟩
    · rw [hy.2.2]; simp [worns]
    · simp [worns]; omega
    ((conv => (arg 1; reduce)); with_reducible repeat' (first | exact Tr.yes_h | refine Tr.and_h ?_ ?_ | refine Tr.imp_h fun _ => ?_ | refine Tr.all_h fun _ => ?_ | refine Tr.lf_h ?_))
    all_goals (first | first | (show Region.lexB _ _ = true; kernel_rfl) | (show planned _ _ = true; kernel_rfl) | exact rfl | exact True.intro | ((try dsimp only [imp, C1, cBlk, cItm] at *); (try refine inR64 ?_ ?_) <;> (try simp only [List.length_set, List.length_append, List.length_take, List.length_drop]) <;> omega))
  · rename_i y hy x hx hc
    obtain ⟨k1, k2, k3, k4⟩ := G1.fin hx hc
    refine Stands.one (x.a, 0) ⟨⟨Nat.zero_le _, by show _ ≤ x.a.length; omega, ?_⟩, ?_⟩
    · rw [← k1, k4]; simp
    ((conv => (arg 1; reduce)); with_reducible repeat' (first | exact Tr.yes_h | refine Tr.and_h ?_ ?_ | refine Tr.imp_h fun _ => ?_ | refine Tr.all_h fun _ => ?_ | refine Tr.lf_h ?_))
    all_goals (first | first | (show Region.lexB _ _ = true; kernel_rfl) | (show planned _ _ = true; kernel_rfl) | exact rfl | exact True.intro | ((try dsimp only [imp, C1, cBlk, cItm] at *); (try refine inR64 ?_ ?_) <;> (try simp only [List.length_set, List.length_append, List.length_take, List.length_drop]) <;> omega))
  all_goals try (rename_i y hy x hx hc z hz hd; have hh := G2.bds hx hc hz hd hF (by omega); first | exact hh.2 | exact hh.1.1 | exact hh.1.2.1 | exact hh.1.2.2)
  · rename_i y hy x hx hc z hz hd
    obtain ⟨k1, k2, k3, k4⟩ := G1.fin hx hc
    obtain ⟨h1, h2, h3⟩ := hz
    have hd := of_decide_eq_true hd
    refine Stands.one (z.1.set z.2 (cl (z.1.getD z.2 0)), z.2 + 1) ⟨⟨by show z.2 + 1 ≤ _; omega, by rw [List.length_set]; exact h2, g2_step (by omega) h3⟩, ?_, ?_⟩
    · show _ - (z.2 + 1) < _ - z.2; omega
    ((conv => (arg 1; reduce)); with_reducible repeat' (first | exact Tr.yes_h | refine Tr.and_h ?_ ?_ | refine Tr.imp_h fun _ => ?_ | refine Tr.all_h fun _ => ?_ | refine Tr.lf_h ?_))
    all_goals (first | first | (show Region.lexB _ _ = true; kernel_rfl) | (show planned _ _ = true; kernel_rfl) | exact rfl | exact True.intro | ((try dsimp only [imp, C1, cBlk, cItm] at *); (try refine inR64 ?_ ?_) <;> (try simp only [List.length_set, List.length_append, List.length_take, List.length_drop]) <;> omega))
  · rename_i y hy x hx hc z hz hd he
    obtain ⟨k1, k2, k3, k4⟩ := G1.fin hx hc
    have he : (x.n : Int) = 0 := of_decide_eq_true he
    refine Ends.one () trivial ?_
    have e : gapv (fr.take F ++ worns (([] : List Blk).take 0)) = 0 := by unfold gapv; rw [if_pos (by omega)]
    ((conv => (arg 1; reduce)); with_reducible repeat' (first | exact Tr.yes_h | refine Tr.and_h ?_ ?_ | refine Tr.imp_h fun _ => ?_ | refine Tr.all_h fun _ => ?_ | refine Tr.lf_h ?_))
    all_goals first | (first | first | (show Region.lexB _ _ = true; kernel_rfl) | (show planned _ _ = true; kernel_rfl) | exact rfl | exact True.intro | ((try dsimp only [imp, C1, cBlk, cItm] at *); (try refine inR64 ?_ ?_) <;> (try simp only [List.length_set, List.length_append, List.length_take, List.length_drop]) <;> omega)) | exact e.symm | exact e
  · rename_i y hy x hx hc z hz hd he
    obtain ⟨k1, k2, k3, k4⟩ := G1.fin hx hc
    obtain ⟨h1, h2, h3⟩ := hz
    have he : ¬ (x.n : Int) = 0 := of_decide_eq_false he
    have := worns_len [] 0
    have h5 : (fr.take F).length ≤ F := by rw [List.length_take]; omega
    have k5 := k1; rw [List.length_append] at k5
    exact ⟨by show 0 < x.n; omega, by show x.n ≤ z.1.length; omega, by show x.n < _; omega⟩
  · rename_i y hy x hx hc z hz hd he
    obtain ⟨k1, k2, k3, k4⟩ := G1.fin hx hc
    obtain ⟨h1, h2, h3⟩ := hz
    have he : ¬ (x.n : Int) = 0 := of_decide_eq_false he
    have := worns_len [] 0
    have h5 : (fr.take F).length ≤ F := by rw [List.length_take]; omega
    have k5 := k1; rw [List.length_append] at k5
    exact ⟨by show 0 < x.n; omega, by show x.n ≤ z.1.length; omega, by show x.n < _; omega⟩
  · rename_i y hy x hx hc z hz hd he
    obtain ⟨k1, k2, k3, k4⟩ := G1.fin hx hc
    obtain ⟨h1, h2, h3⟩ := hz
    have he : ¬ (x.n : Int) = 0 := of_decide_eq_false he
    have hd := of_decide_eq_false hd
    have h3 := gap_end (by omega) h3
    rw [k1, h3]
    obtain ⟨v1, v2, v3⟩ := gap_val (al := fr.take F ++ worns (([] : List Blk).take 0)) (by omega)
    exact inR64 v2 v3
  · rename_i y hy x hx hc z hz hd he
    obtain ⟨k1, k2, k3, k4⟩ := G1.fin hx hc
    obtain ⟨h1, h2, h3⟩ := hz
    have he : ¬ (x.n : Int) = 0 := of_decide_eq_false he
    have hd := of_decide_eq_false hd
    have h3 := gap_end (by omega) h3
    obtain ⟨v1, v2, v3⟩ := gap_val (al := fr.take F ++ worns (([] : List Blk).take 0)) (by omega)
    have e : mxI (z.1.take x.n) - mnI (z.1.take x.n) = gapv (fr.take F ++ worns (([] : List Blk).take 0)) := by rw [k1, h3]; exact v1
    refine Ends.one () trivial ?_
    ((conv => (arg 1; reduce)); with_reducible repeat' (first | exact Tr.yes_h | refine Tr.and_h ?_ ?_ | refine Tr.imp_h fun _ => ?_ | refine Tr.all_h fun _ => ?_ | refine Tr.lf_h ?_))
    all_goals first | (first | first | (show Region.lexB _ _ = true; kernel_rfl) | (show planned _ _ = true; kernel_rfl) | exact rfl | exact True.intro | ((try dsimp only [imp, C1, cBlk, cItm] at *); (try refine inR64 ?_ ?_) <;> (try simp only [List.length_set, List.length_append, List.length_take, List.length_drop]) <;> omega)) | exact e | exact e.symm
/-- The gap, as a value that nothing is asked of. -/
noncomputable def gapo : List Int → Int := Classical.choose (⟨gapv, rfl⟩ : ∃ f, f = gapv)
theorem gapo_eq : gapo = gapv := Classical.choose_spec (⟨gapv, rfl⟩ : ∃ f, f = gapv)
noncomputable def pcGap : Pc Try.prog C1 where
  tg := .fn 17
  X := (Nat × Nat × List Blk × Nat × Nat) × (Nat × Nat × List Int × Nat × Nat)
  args := fun ((b, q, bl, N, m), (fb, fq, fr, F, fm)) => [.sl 0 0 N m, .sl 1 0 F fm]
  mem := fun ((b, q, bl, N, m), (fb, fq, fr, F, fm)) => [⟨b, q, 4, false, none, .rows 27 bl⟩, ⟨fb, fq, 1, false, none, .rows 3 fr⟩]
  pre := fun ((b, q, bl, N, m), (fb, fq, fr, F, fm)) => (N ≤ bl.length ∧ N < 524288) ∧ (F ≤ fr.length ∧ F < 524288)
  res := fun ((b, q, bl, N, m), (fb, fq, fr, F, fm)) => .int .i64 (gapo (fr.take F ++ worns (bl.take N)))
  mat vs m := match vs with
    | [.sl k _ n c, .sl j _ f g] => match nth m k with
      | ⟨b, q, _, _, _, .rows 27 l⟩ => match nth m j with
        | ⟨fb, fq, _, _, _, .rows 3 fr⟩ => some (((b, q, l, n, c), (fb, fq, fr, f, g)), [k, j])
        | _ => none
      | _ => none
    | _ => none
  ok := fun ((b, q, bl, N, m), (fb, fq, fr, F, fm)) h => by rw [gapo_eq]; exact Does.tells (gap_ok b q fb fq bl N m fr F fm h.1.1 h.2.1 h.1.2 h.2.2)
noncomputable def pcGapN : Pc Try.prog C1 where
  tg := .fn 17
  X := (Nat × Nat × List Blk × Nat × Nat)
  args := fun (b, q, bl, N, m) => [.sl 0 0 N m, .nils]
  mem := fun (b, q, bl, N, m) => [⟨b, q, 4, false, none, .rows 27 bl⟩]
  pre := fun (b, q, bl, N, m) => (N ≤ bl.length ∧ N < 524288)
  res := fun (b, q, bl, N, m) => .int .i64 (gapo (([] : List Int).take 0 ++ worns (bl.take N)))
  mat vs m := match vs with
    | [.sl k _ n c, .nils] => match nth m k with
      | ⟨b, q, _, _, _, .rows 27 l⟩ => some ((b, q, l, n, c), [k])
      | _ => none
    | _ => none
  ok := fun (b, q, bl, N, m) h => by rw [gapo_eq]; exact Does.tells (gap_ok0 b q bl N m h.1 h.2)
noncomputable def pcGapF : Pc Try.prog C1 where
  tg := .fn 17
  X := (Nat × Nat × List Int × Nat × Nat)
  args := fun (fb, fq, fr, F, fm) => [.nils, .sl 0 0 F fm]
  mem := fun (fb, fq, fr, F, fm) => [⟨fb, fq, 1, false, none, .rows 3 fr⟩]
  pre := fun (fb, fq, fr, F, fm) => (F ≤ fr.length ∧ F < 524288)
  res := fun (fb, fq, fr, F, fm) => .int .i64 (gapo (fr.take F ++ worns (([] : List Blk).take 0)))
  mat vs m := match vs with
    | [.nils, .sl j _ f g] => match nth m j with
      | ⟨fb, fq, _, _, _, .rows 3 fr⟩ => some ((fb, fq, fr, f, g), [j])
      | _ => none
    | _ => none
  ok := fun (fb, fq, fr, F, fm) h => by rw [gapo_eq]; exact Does.tells (gap_0ok fb fq fr F fm h.1 h.2)
noncomputable def pcGap0 : Pc Try.prog C1 where
  tg := .fn 17
  X := Unit
  args := fun _ => [.nils, .nils]
  mem := fun _ => []
  pre := fun _ => True
  res := fun _ => .int .i64 (gapo (([] : List Int).take 0 ++ worns (([] : List Blk).take 0)))
  mat vs m := match vs with
    | [.nils, .nils] => some ((), [])
    | _ => none
  ok := fun _ h => by rw [gapo_eq]; exact Does.tells (gap_nil)
noncomputable def pcRGap : Pc Try.prog C1 where
  tg := .fn 18
  X := (Nat × Nat × List Blk × Nat × Nat) × (Nat × Nat × List Int × Nat × Nat)
  args := fun ((b, q, bl, N, m), (fb, fq, fr, F, fm)) => [.sl 0 0 N m, .sl 1 0 F fm]
  mem := fun ((b, q, bl, N, m), (fb, fq, fr, F, fm)) => [⟨b, q, 4, false, none, .rows 39 bl⟩, ⟨fb, fq, 1, false, none, .rows 3 fr⟩]
  pre := fun ((b, q, bl, N, m), (fb, fq, fr, F, fm)) => (N ≤ bl.length ∧ N < 524288) ∧ (F ≤ fr.length ∧ F < 524288)
  res := fun ((b, q, bl, N, m), (fb, fq, fr, F, fm)) => .int .i64 (gapo (fr.take F ++ worns (bl.take N)))
  mat vs m := match vs with
    | [.sl k _ n c, .sl j _ f g] => match nth m k with
      | ⟨b, q, _, _, _, .rows 39 l⟩ => match nth m j with
        | ⟨fb, fq, _, _, _, .rows 3 fr⟩ => some (((b, q, l, n, c), (fb, fq, fr, f, g)), [k, j])
        | _ => none
      | _ => none
    | _ => none
  ok := fun ((b, q, bl, N, m), (fb, fq, fr, F, fm)) h => by rw [gapo_eq]; exact Does.tells (rgap_ok b q bl N m h.1.1 h.1.2 fb fq fr F fm h.2.1 h.2.2)
noncomputable def pcRGapN : Pc Try.prog C1 where
  tg := .fn 18
  X := (Nat × Nat × List Blk × Nat × Nat)
  args := fun (b, q, bl, N, m) => [.sl 0 0 N m, .nils]
  mem := fun (b, q, bl, N, m) => [⟨b, q, 4, false, none, .rows 39 bl⟩]
  pre := fun (b, q, bl, N, m) => (N ≤ bl.length ∧ N < 524288)
  res := fun (b, q, bl, N, m) => .int .i64 (gapo (([] : List Int).take 0 ++ worns (bl.take N)))
  mat vs m := match vs with
    | [.sl k _ n c, .nils] => match nth m k with
      | ⟨b, q, _, _, _, .rows 39 l⟩ => some ((b, q, l, n, c), [k])
      | _ => none
    | _ => none
  ok := fun (b, q, bl, N, m) h => by rw [gapo_eq]; exact Does.tells (rgap_ok0 b q bl N m h.1 h.2)
noncomputable def pcRGapF : Pc Try.prog C1 where
  tg := .fn 18
  X := (Nat × Nat × List Int × Nat × Nat)
  args := fun (fb, fq, fr, F, fm) => [.nils, .sl 0 0 F fm]
  mem := fun (fb, fq, fr, F, fm) => [⟨fb, fq, 1, false, none, .rows 3 fr⟩]
  pre := fun (fb, fq, fr, F, fm) => (F ≤ fr.length ∧ F < 524288)
  res := fun (fb, fq, fr, F, fm) => .int .i64 (gapo (fr.take F ++ worns (([] : List Blk).take 0)))
  mat vs m := match vs with
    | [.nils, .sl j _ f g] => match nth m j with
      | ⟨fb, fq, _, _, _, .rows 3 fr⟩ => some ((fb, fq, fr, f, g), [j])
      | _ => none
    | _ => none
  ok := fun (fb, fq, fr, F, fm) h => by rw [gapo_eq]; exact Does.tells (rgap_0ok fb fq fr F fm h.1 h.2)
noncomputable def pcRGap0 : Pc Try.prog C1 where
  tg := .fn 18
  X := Unit
  args := fun _ => [.nils, .nils]
  mem := fun _ => []
  pre := fun _ => True
  res := fun _ => .int .i64 (gapo (([] : List Int).take 0 ++ worns (([] : List Blk).take 0)))
  mat vs m := match vs with
    | [.nils, .nils] => some ((), [])
    | _ => none
  ok := fun _ h => by rw [gapo_eq]; exact Does.tells (rgap_00)
end Go.Vi
