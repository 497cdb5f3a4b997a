/-
  Round 21: the most, the least; the gap.
  Conditions: none.
-/
import Derived.Test.YtoiiehjnfdhciaaViI
set_option maxRecDepth 100000
set_option linter.unusedVariables false
set_option linter.unusedSimpArgs false
namespace Go.Vi
open Go Go.Vx Go.Proofs

/-- The most. -/
def mxI (l : List Int) : Int := l.foldl (fun a x => max a x) (l.headD 0)
theorem mx_snoc (l : List Int) (x : Int) (h : 0 < l.length) : mxI (l ++ [x]) = max (mxI l) x := by
  cases l with
  | nil => simp at h
  | cons y r => simp [mxI, List.foldl_append]
theorem mx_one (x : Int) : mxI [x] = x := by simp [mxI]
def Lmx (l : List Int) (N : Nat) : Inv' C1 := ⟨5, Nat, fun j => [(4, .int .i64 j), (3, .int .i64 (mxI (l.take j)))], fun _ m => m, fun j => 0 < j ∧ j ≤ N, fun j => N - j⟩
theorem mx_ok (b q : Nat) (l : List Int) (N m : Nat) (h0 : 0 < N) (hN : N ≤ l.length) (hb : N < 1048576) :
    Tells (C := C1) Try.prog (.fn 31) [⟨b, q, 1, false, none, .rows 3 l⟩] [.sl 0 0 N m] (.int .i64 (mxI (l.take N))) := by
  refine loc_pc (P := Try.prog) (E := ⟨[], [], 25, []⟩) (L := [Lmx l N]) mix Try.func31 rfl (by kernel_rfl) (by kernel_rfl) rfl rfl ?_
  ((conv => (arg 1; reduce)); with_reducible repeat' (first | exact Tr.yes_h | refine Tr.and_h ?_ ?_ | refine Tr.imp_h fun _ => ?_ | refine Tr.all_h fun _ => ?_ | refine Tr.lf_h ?_))
  all_goals try first | (show Region.lexB _ _ = true; kernel_rfl) | (show planned _ _ = true; kernel_rfl) | exact rfl | exact True.intro
  all_goals try (first | (exfalso; have h9 : (N : Int) < 1 := of_decide_eq_true ‹decide ((N : Int) < 1) = true›; omega) | omega)
  all_goals try (have h9 : _ < (N : Int) := of_decide_eq_true ‹decide (_ < (N : Int)) = true›; obtain ⟨g1, g2⟩ := (‹(Lmx l N).inv _› : (Lmx l N).inv _); first | omega | exact inR64 (by omega) (by omega))
  · refine Stands.one (1 : Nat) ⟨⟨Nat.one_pos, h0⟩, ?_⟩
    have e : l.take 1 = [l.getD 0 0] := by simpa using take_snoc (d := (0 : Int)) (l := l) (n := 0) (by omega)
    ((conv => (arg 1; reduce)); with_reducible repeat' (first | exact Tr.yes_h | refine Tr.and_h ?_ ?_ | refine Tr.imp_h fun _ => ?_ | refine Tr.all_h fun _ => ?_ | refine Tr.lf_h ?_))
    all_goals first | (first | first | (show Region.lexB _ _ = true; kernel_rfl) | (show planned _ _ = true; kernel_rfl) | exact rfl | exact True.intro | ((try dsimp only [imp, C1, cBlk, cItm] at *); (try refine inR64 ?_ ?_) <;> (try simp only [List.length_set, List.length_append, List.length_take, List.length_drop]) <;> omega)) | (show l.getD 0 0 = mxI (l.take 1); rw [e, mx_one])
  · rename_i hc j hj hd
    have hd := of_decide_eq_true hd
    change Nat at j
    obtain ⟨g1, g2⟩ := hj
    have g1 : 0 < j := g1
    refine Stands.one (j + 1) ⟨⟨Nat.succ_pos _, by show j + 1 ≤ N; omega⟩, ?_, ?_⟩
    · show N - (j + 1) < N - j; omega
    have e : mxI (l.take (j + 1)) = max (mxI (l.take j)) (l.getD j 0) := by rw [take_snoc (d := (0 : Int)) (by omega), mx_snoc _ _ (by simp; omega)]
    ((conv => (arg 1; reduce)); with_reducible repeat' (first | exact Tr.yes_h | refine Tr.and_h ?_ ?_ | refine Tr.imp_h fun _ => ?_ | refine Tr.all_h fun _ => ?_ | refine Tr.lf_h ?_))
    all_goals first | (first | first | (show Region.lexB _ _ = true; kernel_rfl) | (show planned _ _ = true; kernel_rfl) | exact rfl | exact True.intro | ((try dsimp only [imp, C1, cBlk, cItm] at *); (try refine inR64 ?_ ?_) <;> (try simp only [List.length_set, List.length_append, List.length_take, List.length_drop]) <;> omega)) | exact e.symm
  · rename_i hc j hj hd
    have hd := of_decide_eq_false hd
    change Nat at j
    obtain ⟨g1, g2⟩ := hj
    have g2 : j ≤ N := g2
    rw [show j = N by omega]
noncomputable def pc_mx : Pc Try.prog C1 where
  tg := .fn 31
  X := Nat × Nat × List Int × Nat × Nat
  args := fun (_, _, _, n, m) => [.sl 0 0 n m]
  mem := fun (b, q, l, _, _) => [⟨b, q, 1, false, none, .rows 3 l⟩]
  pre := fun (_, _, l, n, _) => 0 < n ∧ n ≤ l.length ∧ n < 1048576
  res := fun (_, _, l, n, _) => .int .i64 (mxI (l.take n))
  mat vs m := match vs with
    | [.sl k _ n c] => match nth m k with
      | ⟨b, q, _, _, _, .rows 3 l⟩ => some ((b, q, l, n, c), [k])
      | _ => none
    | _ => none
  ok := fun (_, _, _, _, _) h => mx_ok _ _ _ _ _ h.1 h.2.1 h.2.2

/-- The least. -/
def mnI (l : List Int) : Int := l.foldl (fun a x => min a x) (l.headD 0)
theorem mn_snoc (l : List Int) (x : Int) (h : 0 < l.length) : mnI (l ++ [x]) = min (mnI l) x := by
  cases l with
  | nil => simp at h
  | cons y r => simp [mnI, List.foldl_append]
theorem mn_one (x : Int) : mnI [x] = x := by simp [mnI]
def Lmn (l : List Int) (N : Nat) : Inv' C1 := ⟨5, Nat, fun j => [(4, .int .i64 j), (3, .int .i64 (mnI (l.take j)))], fun _ m => m, fun j => 0 < j ∧ j ≤ N, fun j => N - j⟩
theorem mn_ok (b q : Nat) (l : List Int) (N m : Nat) (h0 : 0 < N) (hN : N ≤ l.length) (hb : N < 1048576) :
    Tells (C := C1) Try.prog (.fn 32) [⟨b, q, 1, false, none, .rows 3 l⟩] [.sl 0 0 N m] (.int .i64 (mnI (l.take N))) := by
  refine loc_pc (P := Try.prog) (E := ⟨[], [], 25, []⟩) (L := [Lmn l N]) mix Try.func32 rfl (by kernel_rfl) (by kernel_rfl) rfl rfl ?_
  ((conv => (arg 1; reduce)); with_reducible repeat' (first | exact Tr.yes_h | refine Tr.and_h ?_ ?_ | refine Tr.imp_h fun _ => ?_ | refine Tr.all_h fun _ => ?_ | refine Tr.lf_h ?_))
  all_goals try first | (show Region.lexB _ _ = true; kernel_rfl) | (show planned _ _ = true; kernel_rfl) | exact rfl | exact True.intro
  all_goals try (first | (exfalso; have h9 : (N : Int) < 1 := of_decide_eq_true ‹decide ((N : Int) < 1) = true›; omega) | omega)
  all_goals try (have h9 : _ < (N : Int) := of_decide_eq_true ‹decide (_ < (N : Int)) = true›; obtain ⟨g1, g2⟩ := (‹(Lmn l N).inv _› : (Lmn l N).inv _); first | omega | exact inR64 (by omega) (by omega))
  · refine Stands.one (1 : Nat) ⟨⟨Nat.one_pos, h0⟩, ?_⟩
    have e : l.take 1 = [l.getD 0 0] := by simpa using take_snoc (d := (0 : Int)) (l := l) (n := 0) (by omega)
    ((conv => (arg 1; reduce)); with_reducible repeat' (first | exact Tr.yes_h | refine Tr.and_h ?_ ?_ | refine Tr.imp_h fun _ => ?_ | refine Tr.all_h fun _ => ?_ | refine Tr.lf_h ?_))
    all_goals first | (first | first | (show Region.lexB _ _ = true; kernel_rfl) | (show planned _ _ = true; kernel_rfl) | exact rfl | exact True.intro | ((try dsimp only [imp, C1, cBlk, cItm] at *); (try refine inR64 ?_ ?_) <;> (try simp only [List.length_set, List.length_append, List.length_take, List.length_drop]) <;> omega)) | (show l.getD 0 0 = mnI (l.take 1); rw [e, mn_one])
  · rename_i hc j hj hd
    have hd := of_decide_eq_true hd
    change Nat at j
    obtain ⟨g1, g2⟩ := hj
    have g1 : 0 < j := g1
    refine Stands.one (j + 1) ⟨⟨Nat.succ_pos _, by show j + 1 ≤ N; omega⟩, ?_, ?_⟩
    · show N - (j + 1) < N - j; omega
    have e : mnI (l.take (j + 1)) = min (mnI (l.take j)) (l.getD j 0) := by rw [take_snoc (d := (0 : Int)) (by omega), mn_snoc _ _ (by simp; omega)]
    ((conv => (arg 1; reduce)); with_reducible repeat' (first | exact Tr.yes_h | refine Tr.and_h ?_ ?_ | refine Tr.imp_h fun _ => ?_ | refine Tr.all_h fun _ => ?_ | refine Tr.lf_h ?_))
    all_goals first | (first | first | (show Region.lexB _ _ = true; kernel_rfl) | (show planned _ _ = true; kernel_rfl) | exact rfl | exact True.intro | ((try dsimp only [imp, C1, cBlk, cItm] at *); (try refine inR64 ?_ ?_) <;> (try simp only [List.length_set, List.length_append, List.length_take, List.length_drop]) <;> omega)) | exact e.symm
  · rename_i hc j hj hd
    have hd := of_decide_eq_false hd
    change Nat at j
    obtain ⟨g1, g2⟩ := hj
    have g2 : j ≤ N := g2
    rw [show j = N by omega]
noncomputable def pc_mn : Pc Try.prog C1 where
  tg := .fn 32
  X := Nat × Nat × List Int × Nat × Nat
  args := fun (_, _, _, n, m) => [.sl 0 0 n m]
  mem := fun (b, q, l, _, _) => [⟨b, q, 1, false, none, .rows 3 l⟩]
  pre := fun (_, _, l, n, _) => 0 < n ∧ n ≤ l.length ∧ n < 1048576
  res := fun (_, _, l, n, _) => .int .i64 (mnI (l.take n))
  mat vs m := match vs with
    | [.sl k _ n c] => match nth m k with
      | ⟨b, q, _, _, _, .rows 3 l⟩ => some ((b, q, l, n, c), [k])
      | _ => none
    | _ => none
  ok := fun (_, _, _, _, _) h => mn_ok _ _ _ _ _ h.1 h.2.1 h.2.2

/-! The gap. -/
abbrev cl (x : Int) : Int := min (max x 0) 1073741824
abbrev worns (l : List Blk) : List Int := (l.filter nf).map (·.2.2.1)
theorem worns_snoc {bl : List Blk} {i : Nat} (hi : i < bl.length) : worns (bl.take (i + 1)) = worns (bl.take i) ++ (if nf (bl.getD i z0) = true then [(bl.getD i z0).2.2.1] else []) := by
  rw [take_snoc (d := z0) hi]
  simp only [worns, List.filter_append, List.map_append, List.filter_cons, List.filter_nil]
  split <;> simp
theorem worns_len (bl : List Blk) (i : Nat) : (worns (bl.take i)).length ≤ i := by
  simp only [worns, List.length_map]
  exact Nat.le_trans (List.length_filter_le _ _) (by simp; omega)
def gapv (a : List Int) : Int := if a.length = 0 then 0 else mxI (a.map cl) - mnI (a.map cl)
theorem fmx_mem (l : List Int) : ∀ a, l.foldl (fun a x => max a x) a ∈ a :: l := by
  induction l with
  | nil => intro a; simp
  | cons x r ih =>
    intro a
    have := ih (max a x)
    simp only [List.foldl_cons]
    rcases List.mem_cons.1 this with h | h
    · rcases Int.le_total a x with g | g
      · rw [h, Int.max_eq_right g]; simp
      · rw [h, Int.max_eq_left g]; simp
    · exact List.mem_cons_of_mem _ (List.mem_cons_of_mem _ h)
theorem fmn_mem (l : List Int) : ∀ a, l.foldl (fun a x => min a x) a ∈ a :: l := by
  induction l with
  | nil => intro a; simp
  | cons x r ih =>
    intro a
    have := ih (min a x)
    simp only [List.foldl_cons]
    rcases List.mem_cons.1 this with h | h
    · rcases Int.le_total a x with g | g
      · rw [h, Int.min_eq_left g]; simp
      · rw [h, Int.min_eq_right g]; simp
    · exact List.mem_cons_of_mem _ (List.mem_cons_of_mem _ h)
theorem mx_mem {l : List Int} (h : 0 < l.length) : mxI l ∈ l := by
  cases l with
  | nil => simp at h
  | cons x r =>
    have := fmx_mem (x :: r) x
    simp only [mxI, List.headD_cons]
    rcases List.mem_cons.1 this with h | h
    · rw [h]; simp
    · exact h
theorem mn_mem {l : List Int} (h : 0 < l.length) : mnI l ∈ l := by
  cases l with
  | nil => simp at h
  | cons x r =>
    have := fmn_mem (x :: r) x
    simp only [mnI, List.headD_cons]
    rcases List.mem_cons.1 this with h | h
    · rw [h]; simp
    · exact h
theorem fmn_le (l : List Int) : ∀ a b : Int, b ≤ a → l.foldl (fun a x => min a x) b ≤ l.foldl (fun a x => max a x) a := by
  induction l with
  | nil => intro a b h; exact h
  | cons x r ih =>
    intro a b h
    simp only [List.foldl_cons]
    exact ih _ _ (by omega)
theorem mn_le_mx {l : List Int} : mnI l ≤ mxI l := fmn_le l _ _ (Int.le_refl _)
theorem cl_mem {a : List Int} {x : Int} (h : x ∈ a.map cl) : 0 ≤ x ∧ x ≤ 1073741824 := by
  obtain ⟨y, _, rfl⟩ := List.mem_map.1 h
  constructor
  · show 0 ≤ min (max y 0) 1073741824; omega
  · show min (max y 0) 1073741824 ≤ 1073741824; omega
theorem gap_pos (a : List Int) : 0 ≤ gapv a := by
  unfold gapv
  split
  · exact Int.le_refl 0
  · have := mn_le_mx (l := a.map cl)
    omega
theorem getD_take {a : List Int} {n i : Nat} (h : i < n) : (a.take n).getD i 0 = a.getD i 0 := by
  simp only [List.getD_eq_getElem?_getD, List.getElem?_take]
  rw [if_pos h]
theorem g2_step {a al : List Int} {i : Nat} (hi : i < al.length) (h : a.take al.length = (al.take i).map cl ++ al.drop i) : (a.set i (cl (a.getD i 0))).take al.length = (al.take (i + 1)).map cl ++ al.drop (i + 1) := by
  have hl : ((al.take i).map cl).length = i := by simp; omega
  have e1 : al.drop i = al.getD i 0 :: al.drop (i + 1) := by
    rw [List.drop_eq_getElem_cons hi]
    congr 1
    simp [List.getD_eq_getElem?_getD, hi]
  have e2 : a.getD i 0 = al.getD i 0 := by
    rw [← getD_take hi, h, e1]
    simp only [List.getD_eq_getElem?_getD]
    rw [List.getElem?_append_right (by omega), hl]
    simp
  rw [List.take_set, h, e2, List.set_append_right (h := by omega), hl, Nat.sub_self, e1, List.set_cons_zero, take_snoc (d := (0 : Int)) hi, List.map_append, List.append_assoc]
  rfl
structure Gx where
  ab : Nat
  aq : Nat
  a : List Int
  n : Nat
  c : Nat
  i : Nat
def G1 (p : Nat) (fr : List Int) (bl : List Blk) (N : Nat) : Inv' C1 := ⟨3, Gx, fun x => [(14, .int .i64 x.i), (5, .sl p 0 x.n x.c), (11, .junk)], fun x m => m.take p ++ [⟨x.ab, x.aq, 1, true, none, .rows 3 x.a⟩],
  fun x => x.i ≤ N ∧ x.n ≤ x.c ∧ x.c ≤ x.a.length ∧ x.a.take x.n = fr ++ worns (bl.take x.i) ∧ x.n = (fr ++ worns (bl.take x.i)).length, fun x => N - x.i⟩
def G1n (bl : List Blk) (N : Nat) : Inv' C1 := ⟨3, Nat, fun i => [(14, .int .i64 i), (5, .nils), (11, .junk)], fun x m => m, fun i => i ≤ N ∧ worns (bl.take i) = [], fun i => N - i⟩
def G2 (p : Nat) (al : List Int) : Inv' C1 := ⟨9, List Int × Nat, fun x => [(29, .int .i64 x.2)], fun x m => setCk m p (.rows 3 x.1),
  fun x => x.2 ≤ al.length ∧ al.length ≤ x.1.length ∧ x.1.take al.length = (al.take x.2).map cl ++ al.drop x.2, fun x => al.length - x.2⟩
def G2n (al : List Int) : Inv' C1 := ⟨9, Unit, fun x => [(29, .int .i64 0)], fun x m => m, fun x => al = [], fun x => 0⟩
theorem G1.fin {p : Nat} {fr : List Int} {bl : List Blk} {N : Nat} {x : Gx} (h : (G1 p fr bl N).inv x) (hc : decide ((x.i : Int) < (N : Int)) = false) : x.n = (fr ++ worns (bl.take N)).length ∧ x.n ≤ x.c ∧ x.c ≤ x.a.length ∧ x.a.take x.n = fr ++ worns (bl.take N) := by
  have hc := of_decide_eq_false hc
  obtain ⟨g1, g2, g3, g4, g5⟩ := h
  have e : x.i = N := by omega
  rw [e] at g4 g5
  exact ⟨g5, g2, g3, g4⟩
theorem gap_end {al a : List Int} {i : Nat} (hi : i = al.length) (h : a.take al.length = (al.take i).map cl ++ al.drop i) : a.take al.length = al.map cl := by
  rw [h, hi]; simp
theorem gap_val {al : List Int} (h : al.length ≠ 0) : mxI (al.map cl) - mnI (al.map cl) = gapv al ∧ -9223372036854775808 ≤ mxI (al.map cl) - mnI (al.map cl) ∧ mxI (al.map cl) - mnI (al.map cl) ≤ 9223372036854775807 := by
  refine ⟨by unfold gapv; rw [if_neg h], ?_⟩
  have h1 := cl_mem (mx_mem (l := al.map cl) (by simp; omega))
  have h2 := cl_mem (mn_mem (l := al.map cl) (by simp; omega))
  omega
theorem G1.good {fr : List Int} {bl : List Blk} {i n : Nat} {a sp : List Int} (hi : i < bl.length) (hn : n ≤ a.length) (h4 : a.take n = fr ++ worns (bl.take i)) (h5 : n = (fr ++ worns (bl.take i)).length) (h : nf (bl.getD i z0) = true) :
    (a.take n ++ [(bl.getD i z0).2.2.1] ++ sp).take (n + 1) = fr ++ worns (bl.take (i + 1)) ∧ n + 1 = (fr ++ worns (bl.take (i + 1))).length := by
  rw [worns_snoc hi, if_pos h]
  refine ⟨?_, ?_⟩
  · rw [List.take_append_of_le_length (by simp; omega), List.take_of_length_le (by simp; omega), h4]; simp
  · rw [List.length_append, List.length_append, ← Nat.add_assoc, ← List.length_append, ← h5]; rfl
theorem worns_skip {bl : List Blk} {i : Nat} (hi : i < bl.length) (h : nf (bl.getD i z0) = false) : worns (bl.take (i + 1)) = worns (bl.take i) := by
  rw [worns_snoc hi, if_neg (by rw [h]; decide)]; simp
theorem G2.bds {p : Nat} {fr : List Int} {F : Nat} {bl : List Blk} {N : Nat} {x : Gx} {z : List Int × Nat} (hx : (G1 p (fr.take F) bl N).inv x) (hc : decide ((x.i : Int) < (N : Int)) = false) (hz : (G2 p (fr.take F ++ worns (bl.take N))).inv z)
    (hd : decide ((z.2 : Int) < (x.n : Int)) = true) (hF : F ≤ fr.length) (hb : N + F < 1048576) : (0 ≤ (z.2 : Int) ∧ (z.2 : Int) < x.n ∧ (z.2 : Int).toNat + 0 < z.1.length) ∧ inR .i64 ((z.2 : Int) + 1) := by
  obtain ⟨k1, k2, k3, k4⟩ := G1.fin hx hc
  obtain ⟨h1, h2, h3⟩ := hz
  have hd := of_decide_eq_true hd
  have h4 := worns_len bl N
  have h5 : (fr.take F).length ≤ F := by rw [List.length_take]; omega
  have k5 := k1
  rw [List.length_append] at k5
  exact ⟨by omega, inR64 (by omega) (by omega)⟩
set_option maxHeartbeats 8000000 in
theorem gap_ok (b q fb fq : Nat) (bl : List Blk) (N m : Nat) (fr : List Int) (F fm : Nat) (hN : N ≤ bl.length) (hF : F ≤ fr.length) (hb : N < 524288) (hf : F < 524288) :
    Does (C := C1) Try.prog (.fn 17) [⟨b, q, 4, false, none, .rows 27 bl⟩, ⟨fb, fq, 1, false, none, .rows 3 fr⟩] [.sl 0 0 N m, .sl 1 0 F fm]
     [⟨Unit, fun _ => True, fun _ => .int .i64 (gapv (fr.take F ++ worns (bl.take N))), fun y => [⟨b, q, 4, false, none, .rows 27 bl⟩, ⟨fb, fq, 1, false, none, .rows 3 fr⟩]⟩] := by
  refine loc_fn (P := Try.prog) (E := ⟨[fc_clonei, fc_clonei0], [pc_mx, pc_mn], 49, []⟩) (L := [G1 2 (fr.take F) bl N, G2 2 (fr.take F ++ worns (bl.take N))]) mix Try.func17 rfl (by kernel_rfl) (by kernel_rfl) rfl rfl ?_
  ((conv => (arg 1; reduce)); with_reducible repeat' (first | exact Tr.yes_h | refine Tr.and_h ?_ ?_ | refine Tr.imp_h fun _ => ?_ | refine Tr.all_h fun _ => ?_ | refine Tr.lf_h ?_))
  all_goals try first | (show Region.lexB _ _ = true; kernel_rfl) | (show planned _ _ = true; kernel_rfl) | exact rfl | exact True.intro
  all_goals try (have h9 : _ < (N : Int) := of_decide_eq_true ‹decide (_ < (N : Int)) = true›; obtain ⟨g1, g2, g3, g4, g5⟩ := (‹(G1 2 (fr.take F) bl N).inv _› : (G1 2 (fr.take F) bl N).inv _); first | omega | exact inR64 (by omega) (by omega))
  · exact ⟨hF, by omega⟩
  · rename_i y hy
    refine Stands.one ⟨y.1, y.2.1, y.2.2.1, F, y.2.2.2, 0⟩ ⟨⟨Nat.zero_le _, hy.1, hy.2.1, ?_, ?_⟩, ?_⟩
    · rw [hy.2.2]; simp [worns]
    · simp [worns]; omega
    ((conv => (arg 1; reduce)); with_reducible repeat' (first | exact Tr.yes_h | refine Tr.and_h ?_ ?_ | refine Tr.imp_h fun _ => ?_ | refine Tr.all_h fun _ => ?_ | refine Tr.lf_h ?_))
    all_goals (first | first | (show Region.lexB _ _ = true; kernel_rfl) | (show planned _ _ = true; kernel_rfl) | exact rfl | exact True.intro | ((try dsimp only [imp, C1, cBlk, cItm] at *); (try refine inR64 ?_ ?_) <;> (try simp only [List.length_set, List.length_append, List.length_take, List.length_drop]) <;> omega))
  · rename_i y hy x hx hc cb hf bs
    have hc := of_decide_eq_true hc
    obtain ⟨g1, g2, g3, g4, g5⟩ := hx
    have := worns_len bl x.i
    rw [List.length_append] at g5
    have h5 : (fr.take F).length ≤ F := by rw [List.length_take]; omega
    rw [by3]
    exact ⟨g2, by rw [Nat.zero_add]; exact g3, Nat.le_refl 1, by omega⟩
  · rename_i y hy x hx hc cb hf bs b2 base2 sp cap h1 h2
    have hc := of_decide_eq_true hc
    obtain ⟨g1, g2, g3, g4, g5⟩ := hx
    obtain ⟨k1, k2⟩ := G1.good (sp := sp) (by omega) (by omega) g4 g5 hf
    refine Stands.one ⟨b2, base2, List.append (x.a.take x.n ++ [(bl.getD x.i z0).2.2.1]) sp, x.n + 1, cap, x.i + 1⟩ ⟨⟨by show x.i + 1 ≤ N; omega, h1, ?_, k1, k2⟩, ?_, ?_⟩
    · show cap ≤ (x.a.take x.n ++ [(bl.getD x.i z0).2.2.1] ++ sp).length
      simp; omega
    · show N - (x.i + 1) < N - x.i; omega
    ((conv => (arg 1; reduce)); with_reducible repeat' (first | exact Tr.yes_h | refine Tr.and_h ?_ ?_ | refine Tr.imp_h fun _ => ?_ | refine Tr.all_h fun _ => ?_ | refine Tr.lf_h ?_))
    all_goals (first | first | (show Region.lexB _ _ = true; kernel_rfl) | (show planned _ _ = true; kernel_rfl) | exact rfl | exact True.intro | ((try dsimp only [imp, C1, cBlk, cItm] at *); (try refine inR64 ?_ ?_) <;> (try simp only [List.length_set, List.length_append, List.length_take, List.length_drop]) <;> omega))
  · rename_i y hy x hx hc cb hf
    have hc := of_decide_eq_true hc
    obtain ⟨g1, g2, g3, g4, g5⟩ := hx
    have e := worns_skip (bl := bl) (i := x.i) (by omega) hf
    refine Stands.one ⟨x.ab, x.aq, x.a, x.n, x.c, x.i + 1⟩ ⟨⟨by show x.i + 1 ≤ N; omega, g2, g3, by rw [e]; exact g4, by rw [e]; exact g5⟩, ?_, ?_⟩
    · show N - (x.i + 1) < N - x.i; omega
    ((conv => (arg 1; reduce)); with_reducible repeat' (first | exact Tr.yes_h | refine Tr.and_h ?_ ?_ | refine Tr.imp_h fun _ => ?_ | refine Tr.all_h fun _ => ?_ | refine Tr.lf_h ?_))
    all_goals (first | first | (show Region.lexB _ _ = true; kernel_rfl) | (show planned _ _ = true; kernel_rfl) | exact rfl | exact True.intro | ((try dsimp only [imp, C1, cBlk, cItm] at *); (try refine inR64 ?_ ?_) <;> (try simp only [List.length_set, List.length_append, List.length_take, List.length_drop]) <;> omega))
  · rename_i y hy x hx hc
    obtain ⟨k1, k2, k3, k4⟩ := G1.fin hx hc
    refine Stands.one (x.a, 0) ⟨⟨Nat.zero_le _, by show _ ≤ x.a.length; omega, ?_⟩, ?_⟩
    · rw [← k1, k4]; simp
    ((conv => (arg 1; reduce)); with_reducible repeat' (first | exact Tr.yes_h | refine Tr.and_h ?_ ?_ | refine Tr.imp_h fun _ => ?_ | refine Tr.all_h fun _ => ?_ | refine Tr.lf_h ?_))
    all_goals (first | first | (show Region.lexB _ _ = true; kernel_rfl) | (show planned _ _ = true; kernel_rfl) | exact rfl | exact True.intro | ((try dsimp only [imp, C1, cBlk, cItm] at *); (try refine inR64 ?_ ?_) <;> (try simp only [List.length_set, List.length_append, List.length_take, List.length_drop]) <;> omega))
  all_goals try (rename_i y hy x hx hc z hz hd; have hh := G2.bds hx hc hz hd hF (by omega); first | exact hh.2 | exact hh.1.1 | exact hh.1.2.1 | exact hh.1.2.2)
  · rename_i y hy x hx hc z hz hd
    obtain ⟨k1, k2, k3, k4⟩ := G1.fin hx hc
    obtain ⟨h1, h2, h3⟩ := hz
    have hd := of_decide_eq_true hd
    refine Stands.one (z.1.set z.2 (cl (z.1.getD z.2 0)), z.2 + 1) ⟨⟨by show z.2 + 1 ≤ _; omega, by rw [List.length_set]; exact h2, g2_step (by omega) h3⟩, ?_, ?_⟩
    · show _ - (z.2 + 1) < _ - z.2; omega
    ((conv => (arg 1; reduce)); with_reducible repeat' (first | exact Tr.yes_h | refine Tr.and_h ?_ ?_ | refine Tr.imp_h fun _ => ?_ | refine Tr.all_h fun _ => ?_ | refine Tr.lf_h ?_))
    all_goals (first | first | (show Region.lexB _ _ = true; kernel_rfl) | (show planned _ _ = true; kernel_rfl) | exact rfl | exact True.intro | ((try dsimp only [imp, C1, cBlk, cItm] at *); (try refine inR64 ?_ ?_) <;> (try simp only [List.length_set, List.length_append, List.length_take, List.length_drop]) <;> omega))
  · rename_i y hy x hx hc z hz hd he
    obtain ⟨k1, k2, k3, k4⟩ := G1.fin hx hc
    have he : (x.n : Int) = 0 := of_decide_eq_true he
    refine Ends.one () trivial ?_
    have e : gapv (fr.take F ++ worns (bl.take N)) = 0 := by unfold gapv; rw [if_pos (by omega)]
    ((conv => (arg 1; reduce)); with_reducible repeat' (first | exact Tr.yes_h | refine Tr.and_h ?_ ?_ | refine Tr.imp_h fun _ => ?_ | refine Tr.all_h fun _ => ?_ | refine Tr.lf_h ?_))
    all_goals first | (first | first | (show Region.lexB _ _ = true; kernel_rfl) | (show planned _ _ = true; kernel_rfl) | exact rfl | exact True.intro | ((try dsimp only [imp, C1, cBlk, cItm] at *); (try refine inR64 ?_ ?_) <;> (try simp only [List.length_set, List.length_append, List.length_take, List.length_drop]) <;> omega)) | exact e.symm | exact e
  · rename_i y hy x hx hc z hz hd he
    obtain ⟨k1, k2, k3, k4⟩ := G1.fin hx hc
    obtain ⟨h1, h2, h3⟩ := hz
    have he : ¬ (x.n : Int) = 0 := of_decide_eq_false he
    have := worns_len bl N
    have h5 : (fr.take F).length ≤ F := by rw [List.length_take]; omega
    have k5 := k1; rw [List.length_append] at k5
    exact ⟨by show 0 < x.n; omega, by show x.n ≤ z.1.length; omega, by show x.n < _; omega⟩
  · rename_i y hy x hx hc z hz hd he
    obtain ⟨k1, k2, k3, k4⟩ := G1.fin hx hc
    obtain ⟨h1, h2, h3⟩ := hz
    have he : ¬ (x.n : Int) = 0 := of_decide_eq_false he
    have := worns_len bl N
    have h5 : (fr.take F).length ≤ F := by rw [List.length_take]; omega
    have k5 := k1; rw [List.length_append] at k5
    exact ⟨by show 0 < x.n; omega, by show x.n ≤ z.1.length; omega, by show x.n < _; omega⟩
  · rename_i y hy x hx hc z hz hd he
    obtain ⟨k1, k2, k3, k4⟩ := G1.fin hx hc
    obtain ⟨h1, h2, h3⟩ := hz
    have he : ¬ (x.n : Int) = 0 := of_decide_eq_false he
    have hd := of_decide_eq_false hd
    have h3 := gap_end (by omega) h3
    rw [k1, h3]
    obtain ⟨v1, v2, v3⟩ := gap_val (al := fr.take F ++ worns (bl.take N)) (by omega)
    exact inR64 v2 v3
  · rename_i y hy x hx hc z hz hd he
    obtain ⟨k1, k2, k3, k4⟩ := G1.fin hx hc
    obtain ⟨h1, h2, h3⟩ := hz
    have he : ¬ (x.n : Int) = 0 := of_decide_eq_false he
    have hd := of_decide_eq_false hd
    have h3 := gap_end (by omega) h3
    obtain ⟨v1, v2, v3⟩ := gap_val (al := fr.take F ++ worns (bl.take N)) (by omega)
    have e : mxI (z.1.take x.n) - mnI (z.1.take x.n) = gapv (fr.take F ++ worns (bl.take N)) := by rw [k1, h3]; exact v1
    refine Ends.one () trivial ?_
    ((conv => (arg 1; reduce)); with_reducible repeat' (first | exact Tr.yes_h | refine Tr.and_h ?_ ?_ | refine Tr.imp_h fun _ => ?_ | refine Tr.all_h fun _ => ?_ | refine Tr.lf_h ?_))
    all_goals first | (first | first | (show Region.lexB _ _ = true; kernel_rfl) | (show planned _ _ = true; kernel_rfl) | exact rfl | exact True.intro | ((try dsimp only [imp, C1, cBlk, cItm] at *); (try refine inR64 ?_ ?_) <;> (try simp only [List.length_set, List.length_append, List.length_take, List.length_drop]) <;> omega)) | exact e | exact e.symm
end Go.Vi
