/-
  Round 21: the heap's down, Init and Pop.
  Conditions: none.
-/
import Derived.Test.YtoiiehjnfdhciaaViB
set_option maxRecDepth 100000
set_option linter.unusedVariables false
set_option linter.unusedSimpArgs false
namespace Go.Vi
open Go Go.Vx Go.Proofs

theorem down_ok (bp q b base : Nat) (l : List Itm) (n sn c a i : Nat) (h : Hg.HeapX d0 lessI l n a i) (ha : a ≤ i) (hi : i ≤ n) (hs : n ≤ sn) (hl : sn ≤ l.length) (hb : n < 1048577) :
    Does (C := C1) Try.prog (.fn 38) (qp bp q b base false true l sn c) [.ifc 47 (.ptr 0 0 0), .int .i64 i, .int .i64 n]
     [⟨List Itm × Bool, Hg.DownPost d0 lessI l n a i, fun y => .bool (.tm y.2), fun y => qp bp q b base false true y.1 sn c⟩] := by
  have hn : n ≤ l.length := Nat.le_trans hs hl
  refine loc_fn (P := Try.prog) (E := ⟨[fcSwap], [pcLess], 48, []⟩)
    (L := [⟨2, List Itm × Nat, fun x => [(7, .int .i64 x.2)], fun x _ => qp bp q b base false true x.1 sn c,
      fun x => Hg.HeapX d0 lessI x.1 n a x.2 ∧ x.2 ≤ n ∧ i ≤ x.2 ∧ Hg.Same d0 l x.1 n ∧ (i < x.2 → lessI (at_ x.1 x.2) (at_ x.1 (Hg.par x.2)) = false), fun x => n - x.2⟩]) mix Try.func38 rfl (by kernel_rfl) (by kernel_rfl) rfl rfl ?_
  ((conv => (arg 1; reduce)); with_reducible repeat' (first | exact Tr.yes_h | refine Tr.and_h ?_ ?_ | refine Tr.imp_h fun _ => ?_ | refine Tr.all_h fun _ => ?_ | refine Tr.lf_h ?_))
  all_goals try (first | exact rfl | exact True.intro)
  · refine Stands.one (l, i) ⟨⟨h, hi, Nat.le_refl _, Hg.Same.refl d0 _ _, fun hlt => absurd hlt (Nat.lt_irrefl _)⟩, ?_⟩
    ((conv => (arg 1; reduce)); with_reducible repeat' (first | exact Tr.yes_h | refine Tr.and_h ?_ ?_ | refine Tr.imp_h fun _ => ?_ | refine Tr.all_h fun _ => ?_ | refine Tr.lf_h ?_))
    all_goals (first | first | (show Region.lexB _ _ = true; kernel_rfl) | (show planned _ _ = true; kernel_rfl) | exact rfl | exact True.intro | ((try dsimp only [imp, C1, cBlk, cItm] at *); (try refine inR64 ?_ ?_) <;> (try simp only [List.length_set, List.length_append, List.length_take, List.length_drop]) <;> omega))
  · rename_i x hx
    obtain ⟨h1, h2, h3, h4, h5⟩ := hx
    exact inR64 (by omega) (by omega)
  · rename_i x hx
    obtain ⟨h1, h2, h3, h4, h5⟩ := hx
    exact inR64 (by omega) (by omega)
  · rename_i x hx hc
    obtain ⟨h1, h2, h3, h4, h5⟩ := hx
    simp only [SB.val, Bool.or_eq_true, decide_eq_true_eq] at hc
    refine Ends.one (x.1, decide ((i : Int) < (x.2 : Int))) (Hg.down_end h1 h3 h4 h5 fun k hk0 hkn hk => ?_) ?_
    · have := Hg.kids hk hk0; omega
    · ((conv => (arg 1; reduce)); with_reducible repeat' (first | exact Tr.yes_h | refine Tr.and_h ?_ ?_ | refine Tr.imp_h fun _ => ?_ | refine Tr.all_h fun _ => ?_ | refine Tr.lf_h ?_))
      all_goals (first | first | (show Region.lexB _ _ = true; kernel_rfl) | (show planned _ _ = true; kernel_rfl) | exact rfl | exact True.intro | ((try dsimp only [imp, C1, cBlk, cItm] at *); (try refine inR64 ?_ ?_) <;> (try simp only [List.length_set, List.length_append, List.length_take, List.length_drop]) <;> omega))
  · rename_i x hx hc
    obtain ⟨h1, h2, h3, h4, h5⟩ := hx
    exact inR64 (by omega) (by omega)
  · rename_i x hx hc hd
    obtain ⟨h1, h2, h3, h4, h5⟩ := hx
    have hlen := h4.1
    simp only [SB.val, Bool.or_eq_false_iff, decide_eq_false_iff_not, decide_eq_true_eq] at hc hd
    simp only [pcLess]
    omega
  · rename_i x hx hc hd
    obtain ⟨h1, h2, h3, h4, h5⟩ := hx
    have hlen := h4.1
    simp only [SB.val, Bool.or_eq_false_iff, decide_eq_false_iff_not, Bool.and_eq_true, decide_eq_true_eq, Bool.and_eq_false_iff] at hc hd
    simp only [pcLess]
    omega
  · rename_i x hx hc hd he
    obtain ⟨h1, h2, h3, h4, h5⟩ := hx
    simp only [SB.val, Bool.or_eq_false_iff, decide_eq_false_iff_not, Bool.and_eq_true, decide_eq_true_eq, Bool.not_eq_true', Bool.and_eq_false_iff, Hg.toN1, Hg.toN2, Int.toNat_natCast] at hc hd he
    refine Ends.one (x.1, decide ((i : Int) < (x.2 : Int))) (Hg.down_end h1 h3 h4 h5 fun k hk0 hkn hk => ?_) ?_
    · exact ordI.tr he (Hg.least2 ordI hd.2 k hk0 hkn hk)
    · ((conv => (arg 1; reduce)); with_reducible repeat' (first | exact Tr.yes_h | refine Tr.and_h ?_ ?_ | refine Tr.imp_h fun _ => ?_ | refine Tr.all_h fun _ => ?_ | refine Tr.lf_h ?_))
      all_goals (first | first | (show Region.lexB _ _ = true; kernel_rfl) | (show planned _ _ = true; kernel_rfl) | exact rfl | exact True.intro | ((try dsimp only [imp, C1, cBlk, cItm] at *); (try refine inR64 ?_ ?_) <;> (try simp only [List.length_set, List.length_append, List.length_take, List.length_drop]) <;> omega))
  · rename_i x hx hc hd he
    obtain ⟨h1, h2, h3, h4, h5⟩ := hx
    have hlen := h4.1
    simp only [SB.val, Bool.or_eq_false_iff, decide_eq_false_iff_not, Bool.and_eq_true, decide_eq_true_eq, Bool.and_eq_false_iff] at hc hd
    simp only [fcSwap]
    omega
  · rename_i x hx hc hd he u hu
    obtain ⟨h1, h2, h3, h4, h5⟩ := hx
    have hlen := h4.1
    simp only [SB.val, Bool.or_eq_false_iff, decide_eq_false_iff_not, Bool.and_eq_true, decide_eq_true_eq, Bool.not_eq_false', Bool.and_eq_false_iff, Hg.toN1, Hg.toN2, Int.toNat_natCast] at hc hd he
    have hjn : 2 * x.2 + 2 < n := by omega
    obtain ⟨g1, g2⟩ := Hg.down_step ordI (i := x.2) (j := 2 * x.2 + 2) h1 (by omega) hjn (Hg.par2 x.2) (by omega) (by omega) (Hg.least2 ordI hd.2) he
    refine Stands.one (swp x.1 x.2 (2 * x.2 + 2), 2 * x.2 + 2) ⟨⟨g1, Nat.le_of_lt hjn, ?_, h4.swp hn ?_ hjn, fun _ => g2⟩, ?_, ?_⟩
    · show i ≤ 2 * x.2 + 2; omega
    · omega
    · show n - (2 * x.2 + 2) < n - x.2; omega
    · ((conv => (arg 1; reduce)); with_reducible repeat' (first | exact Tr.yes_h | refine Tr.and_h ?_ ?_ | refine Tr.imp_h fun _ => ?_ | refine Tr.all_h fun _ => ?_ | refine Tr.lf_h ?_))
      all_goals first | (first | first | (show Region.lexB _ _ = true; kernel_rfl) | (show planned _ _ = true; kernel_rfl) | exact rfl | exact True.intro | ((try dsimp only [imp, C1, cBlk, cItm] at *); (try refine inR64 ?_ ?_) <;> (try simp only [List.length_set, List.length_append, List.length_take, List.length_drop]) <;> omega)) | (show _ = ((2 * x.2 + 2 : Nat) : Int); omega) | (show swp x.1 x.2 (2 * x.2 + 2) = swp x.1 (x.2 : Int).toNat _; rw [Int.toNat_natCast]; congr 1; omega)
  · rename_i x hx hc hd
    obtain ⟨h1, h2, h3, h4, h5⟩ := hx
    have hlen := h4.1
    simp only [SB.val, Bool.or_eq_false_iff, decide_eq_false_iff_not, Bool.and_eq_true, decide_eq_true_eq, Bool.and_eq_false_iff] at hc hd
    simp only [pcLess]
    omega
  · rename_i x hx hc hd he
    obtain ⟨h1, h2, h3, h4, h5⟩ := hx
    simp only [SB.val, Bool.or_eq_false_iff, decide_eq_false_iff_not, Bool.and_eq_true, decide_eq_true_eq, Bool.not_eq_true', Bool.and_eq_false_iff, Hg.toN1, Hg.toN2, Int.toNat_natCast] at hc hd he
    refine Ends.one (x.1, decide ((i : Int) < (x.2 : Int))) (Hg.down_end h1 h3 h4 h5 fun k hk0 hkn hk => ?_) ?_
    · exact ordI.tr he (Hg.least1 ordI (fun hj2 => (hd.resolve_left (by omega))) k hk0 hkn hk)
    · ((conv => (arg 1; reduce)); with_reducible repeat' (first | exact Tr.yes_h | refine Tr.and_h ?_ ?_ | refine Tr.imp_h fun _ => ?_ | refine Tr.all_h fun _ => ?_ | refine Tr.lf_h ?_))
      all_goals (first | first | (show Region.lexB _ _ = true; kernel_rfl) | (show planned _ _ = true; kernel_rfl) | exact rfl | exact True.intro | ((try dsimp only [imp, C1, cBlk, cItm] at *); (try refine inR64 ?_ ?_) <;> (try simp only [List.length_set, List.length_append, List.length_take, List.length_drop]) <;> omega))
  · rename_i x hx hc hd he
    obtain ⟨h1, h2, h3, h4, h5⟩ := hx
    have hlen := h4.1
    simp only [SB.val, Bool.or_eq_false_iff, decide_eq_false_iff_not, Bool.and_eq_true, decide_eq_true_eq, Bool.and_eq_false_iff] at hc hd
    simp only [fcSwap]
    omega
  · rename_i x hx hc hd he u hu
    obtain ⟨h1, h2, h3, h4, h5⟩ := hx
    have hlen := h4.1
    simp only [SB.val, Bool.or_eq_false_iff, decide_eq_false_iff_not, Bool.and_eq_true, decide_eq_true_eq, Bool.not_eq_false', Bool.and_eq_false_iff, Hg.toN1, Hg.toN2, Int.toNat_natCast] at hc hd he
    have hjn : 2 * x.2 + 1 < n := by omega
    obtain ⟨g1, g2⟩ := Hg.down_step ordI (i := x.2) (j := 2 * x.2 + 1) h1 (by omega) hjn (Hg.par1 x.2) (by omega) (by omega) (Hg.least1 ordI (fun hj2 => (hd.resolve_left (by omega)))) he
    refine Stands.one (swp x.1 x.2 (2 * x.2 + 1), 2 * x.2 + 1) ⟨⟨g1, Nat.le_of_lt hjn, ?_, h4.swp hn ?_ hjn, fun _ => g2⟩, ?_, ?_⟩
    · show i ≤ 2 * x.2 + 1; omega
    · omega
    · show n - (2 * x.2 + 1) < n - x.2; omega
    · ((conv => (arg 1; reduce)); with_reducible repeat' (first | exact Tr.yes_h | refine Tr.and_h ?_ ?_ | refine Tr.imp_h fun _ => ?_ | refine Tr.all_h fun _ => ?_ | refine Tr.lf_h ?_))
      all_goals first | (first | first | (show Region.lexB _ _ = true; kernel_rfl) | (show planned _ _ = true; kernel_rfl) | exact rfl | exact True.intro | ((try dsimp only [imp, C1, cBlk, cItm] at *); (try refine inR64 ?_ ?_) <;> (try simp only [List.length_set, List.length_append, List.length_take, List.length_drop]) <;> omega)) | (show _ = ((2 * x.2 + 1 : Nat) : Int); omega) | (show swp x.1 x.2 (2 * x.2 + 1) = swp x.1 (x.2 : Int).toNat _; rw [Int.toNat_natCast]; congr 1; omega)


noncomputable def fcDown : Fc Try.prog C1 where
  tg := .fn 38
  X := Qx × Nat × Nat × Nat
  args := fun (_, _, i, j) => [.ifc 47 (.ptr 0 0 0), .int .i64 i, .int .i64 j]
  mem := fun (⟨bp, q, b, base, l, n, c⟩, _) => qp bp q b base false true l n c
  pre := fun (⟨_, _, _, _, l, n, _⟩, a, i, m) => Hg.HeapX d0 lessI l m a i ∧ a ≤ i ∧ i ≤ m ∧ m ≤ n ∧ n ≤ l.length ∧ m < 1048577
  alts := fun (⟨bp, q, b, base, l, n, c⟩, a, i, m) => [⟨List Itm × Bool, Hg.DownPost d0 lessI l m a i, fun y => .bool (.tm y.2), fun y => qp bp q b base false true y.1 n c⟩]
  mat vs m := match vs with
    | [.ifc _ p, .int _ i, .int _ j] => (matQ p m).map fun (h, r) => ((h, 0, i.toNat, j.toNat), r)
    | _ => none
  ok := fun (⟨_, _, _, _, _, _, _⟩, _, _, _) h => down_ok _ _ _ _ _ _ _ _ _ _ h.1 h.2.1 h.2.2.1 h.2.2.2.1 h.2.2.2.2.1 h.2.2.2.2.2
/-- The same, where a heap is built: only what stands at i or below is looked at. -/
noncomputable def fcDown1 : Fc Try.prog C1 := { fcDown with
  mat := fun vs m => match vs with
    | [.ifc _ p, .int _ i, .int _ j] => (matQ p m).map fun (h, r) => ((h, i.toNat, i.toNat, j.toNat), r)
    | _ => none }

/-- Taken out of a heap of n + 1: the one at i; it lies where the heap has ended. -/
abbrev cutPost (l : List Itm) (n c i : Nat) (l' : List Itm) : Prop := Hg.HOK d0 lessI l' n c ∧ at_ l' n = at_ l i ∧ (l.take (n + 1)).Perm (at_ l i :: l'.take n)
theorem predN (n : Nat) : (((n + 1 : Nat) : Int) - 1).toNat = n := by omega
theorem pop_ok (bp q b base : Nat) (l : List Itm) (n c : Nat) (h : Hg.HOK d0 lessI l (n + 1) c) (hb : n < 1048576) :
    Does (C := C1) Try.prog (.fn 22) (qp bp q b base true true l (n + 1) c) [.ifc 47 (.ptr 0 0 0)]
     [⟨List Itm, cutPost l n c 0, fun l' => .ifc 57 (iSV (at_ l' n)), fun l' => qp bp q b base true true l' n c⟩] := by
  have h1 := h.le
  have h2 := h.len
  refine loc_fn (P := Try.prog) (E := ⟨[fcSwap, fcDown, fcPopM], [pcLen], 15, []⟩) (L := []) mix Try.func22 rfl (by kernel_rfl) (by kernel_rfl) rfl rfl ?_
  ((conv => (arg 1; reduce)); with_reducible repeat' (first | exact Tr.yes_h | refine Tr.and_h ?_ ?_ | refine Tr.imp_h fun _ => ?_ | refine Tr.all_h fun _ => ?_ | refine Tr.lf_h ?_))
  all_goals try (first | first | (show Region.lexB _ _ = true; kernel_rfl) | (show planned _ _ = true; kernel_rfl) | exact rfl | exact True.intro | ((try dsimp only [imp, C1, cBlk, cItm] at *); (try refine inR64 ?_ ?_) <;> (try simp only [List.length_set, List.length_append, List.length_take, List.length_drop]) <;> omega))
  · show 0 ≤ (0 : Int) ∧ (0 : Int) < (n + 1 : Nat) ∧ 0 ≤ ((n + 1 : Nat) : Int) - 1 ∧ ((n + 1 : Nat) : Int) - 1 < (n + 1 : Nat) ∧ n + 1 ≤ l.length
    omega
  · show Hg.HeapX d0 lessI (swp l 0 (((n + 1 : Nat) : Int) - 1).toNat) (((n + 1 : Nat) : Int) - 1).toNat 0 0 ∧ 0 ≤ 0 ∧ 0 ≤ (((n + 1 : Nat) : Int) - 1).toNat ∧ (((n + 1 : Nat) : Int) - 1).toNat ≤ n + 1 ∧ n + 1 ≤ (swp _ _ _).length ∧ (((n + 1 : Nat) : Int) - 1).toNat < 1048577
    rw [predN, Hg.length_swp]
    exact ⟨Hg.heap_cut ordI h.heap (by omega) (Nat.zero_le _), Nat.le_refl _, Nat.zero_le _, by omega, by omega, by omega⟩
  · rename_i u hu y hy
    obtain ⟨g1, g2, g3⟩ := hy
    have := g1.1
    rw [Hg.length_swp] at this
    show 0 < n + 1 ∧ n + 1 ≤ y.1.length ∧ n + 1 ≤ c ∧ n + 1 < 4611686018427387904
    omega
  · rename_i u hu y hy v hv
    rw [predN] at hy
    have hj := Hg.DownPost.joined hy
    refine Ends.one y.1 (h.cut (Nat.zero_le _) (.inl rfl) hj.1 (Hg.heapF_zero.1 hj.2)) ?_
    ((conv => (arg 1; reduce)); with_reducible repeat' (first | exact Tr.yes_h | refine Tr.and_h ?_ ?_ | refine Tr.imp_h fun _ => ?_ | refine Tr.all_h fun _ => ?_ | refine Tr.lf_h ?_))
    all_goals first | (first | first | (show Region.lexB _ _ = true; kernel_rfl) | (show planned _ _ = true; kernel_rfl) | exact rfl | exact True.intro | ((try dsimp only [imp, C1, cBlk, cItm] at *); (try refine inR64 ?_ ?_) <;> (try simp only [List.length_set, List.length_append, List.length_take, List.length_drop]) <;> omega)) | exact predN n | rw [predN]
noncomputable def fcPop : Fc Try.prog C1 where
  tg := .fn 22
  X := Qx
  args := fun _ => [.ifc 47 (.ptr 0 0 0)]
  mem := fun ⟨bp, q, b, base, l, n, c⟩ => qp bp q b base true true l (n - 1 + 1) c
  pre := fun ⟨_, _, _, _, l, n, c⟩ => Hg.HOK d0 lessI l (n - 1 + 1) c ∧ n - 1 < 1048576
  alts := fun ⟨bp, q, b, base, l, n, c⟩ => [⟨List Itm, cutPost l (n - 1) c 0, fun l' => .ifc 57 (iSV (at_ l' (n - 1))), fun l' => qp bp q b base true true l' (n - 1) c⟩]
  mat vs m := match vs with
    | [.ifc _ p] => matQ p m
    | _ => none
  ok := fun ⟨_, _, _, _, _, _, _⟩ h => pop_ok _ _ _ _ _ _ _ h.1 h.2

theorem half (n : Nat) : (n : Int).tdiv 2 = ((n / 2 : Nat) : Int) := by rw [Int.tdiv_eq_ediv_of_nonneg (by omega)]; omega
theorem init_ok (bp q b base : Nat) (l : List Itm) (n c : Nat) (hn : n ≤ c) (hc : c ≤ l.length) (hb : n < 1048576) :
    Does (C := C1) Try.prog (.fn 21) (qp bp q b base true true l n c) [.ifc 47 (.ptr 0 0 0)]
     [⟨List Itm, fun l' => Hg.Same d0 l l' n ∧ Hg.HeapL d0 lessI l' n, fun _ => .tup [], fun l' => qp bp q b base true true l' n c⟩] := by
  refine loc_fn (P := Try.prog) (E := ⟨[fcDown1], [pcLen], 17, []⟩)
    (L := [⟨2, List Itm × Nat, fun x => [(3, .int .i64 ((x.2 : Int) - 1))], fun x _ => qp bp q b base true true x.1 n c, fun x => x.2 ≤ n ∧ Hg.Same d0 l x.1 n ∧ Hg.HeapF d0 lessI x.1 n x.2, fun x => x.2⟩]) mix Try.func21 rfl (by kernel_rfl) (by kernel_rfl) rfl rfl ?_
  ((conv => (arg 1; reduce)); with_reducible repeat' (first | exact Tr.yes_h | refine Tr.and_h ?_ ?_ | refine Tr.imp_h fun _ => ?_ | refine Tr.all_h fun _ => ?_ | refine Tr.lf_h ?_))
  all_goals try first | (show Region.lexB _ _ = true; kernel_rfl) | (show planned _ _ = true; kernel_rfl) | exact rfl | exact True.intro
  · exact (by decide : (2 : Int) ≠ 0)
  · rw [half]; exact inR64 (by omega) (by omega)
  · rw [half]; exact inR64 (by omega) (by omega)
  · refine Stands.one (l, n / 2) ⟨⟨by show n / 2 ≤ n; omega, Hg.Same.refl d0 _ _, Hg.HeapF.half⟩, ?_⟩
    ((conv => (arg 1; reduce)); with_reducible repeat' (first | exact Tr.yes_h | refine Tr.and_h ?_ ?_ | refine Tr.imp_h fun _ => ?_ | refine Tr.all_h fun _ => ?_ | refine Tr.lf_h ?_))
    all_goals first | (first | first | (show Region.lexB _ _ = true; kernel_rfl) | (show planned _ _ = true; kernel_rfl) | exact rfl | exact True.intro | ((try dsimp only [imp, C1, cBlk, cItm] at *); (try refine inR64 ?_ ?_) <;> (try simp only [List.length_set, List.length_append, List.length_take, List.length_drop]) <;> omega)) | (show (n : Int).tdiv 2 - 1 = ((n / 2 : Nat) : Int) - 1; rw [half])
  · rename_i x hx hc
    have hc := of_decide_eq_true hc
    omega
  · rename_i x hx hc
    obtain ⟨h1, h2, h3⟩ := hx
    have hc := of_decide_eq_true hc
    have e1 : ((x.2 : Int) - 1).toNat = x.2 - 1 := by omega
    have hl := h2.1
    show Hg.HeapX d0 lessI x.1 (n : Int).toNat ((x.2 : Int) - 1).toNat ((x.2 : Int) - 1).toNat ∧ ((x.2 : Int) - 1).toNat ≤ ((x.2 : Int) - 1).toNat ∧ ((x.2 : Int) - 1).toNat ≤ (n : Int).toNat ∧ (n : Int).toNat ≤ n ∧ n ≤ x.1.length ∧ (n : Int).toNat < 1048577
    rw [e1, Int.toNat_natCast]
    refine ⟨Hg.HeapF.step ?_, Nat.le_refl _, by omega, Nat.le_refl _, by omega, by omega⟩
    rw [show x.2 - 1 + 1 = x.2 by omega]; exact h3
  · rename_i x hx hc y hy
    obtain ⟨h1, h2, h3⟩ := hx
    exact inR64 (by omega) (by omega)
  · rename_i x hx hc y hy
    obtain ⟨h1, h2, h3⟩ := hx
    have hc := of_decide_eq_true hc
    have e1 : ((x.2 : Int) - 1).toNat = x.2 - 1 := by omega
    have hy : Hg.DownPost d0 lessI x.1 (n : Int).toNat ((x.2 : Int) - 1).toNat ((x.2 : Int) - 1).toNat y := hy
    rw [e1, Int.toNat_natCast] at hy
    have hj := Hg.DownPost.joined hy
    refine Stands.one (y.1, x.2 - 1) ⟨⟨by show x.2 - 1 ≤ n; omega, h2.trans hj.1, hj.2⟩, ?_, ?_⟩
    · show x.2 - 1 < x.2; omega
    · ((conv => (arg 1; reduce)); with_reducible repeat' (first | exact Tr.yes_h | refine Tr.and_h ?_ ?_ | refine Tr.imp_h fun _ => ?_ | refine Tr.all_h fun _ => ?_ | refine Tr.lf_h ?_))
      all_goals first | (first | first | (show Region.lexB _ _ = true; kernel_rfl) | (show planned _ _ = true; kernel_rfl) | exact rfl | exact True.intro | ((try dsimp only [imp, C1, cBlk, cItm] at *); (try refine inR64 ?_ ?_) <;> (try simp only [List.length_set, List.length_append, List.length_take, List.length_drop]) <;> omega)) | (show (x.2 : Int) - 1 - 1 = ((x.2 - 1 : Nat) : Int) - 1; omega)
  · rename_i x hx hc
    obtain ⟨h1, h2, h3⟩ := hx
    have hc := of_decide_eq_false hc
    have e : x.2 = 0 := by omega
    rw [e] at h3
    refine Ends.one x.1 ⟨h2, Hg.heapF_zero.1 h3⟩ ?_
    ((conv => (arg 1; reduce)); with_reducible repeat' (first | exact Tr.yes_h | refine Tr.and_h ?_ ?_ | refine Tr.imp_h fun _ => ?_ | refine Tr.all_h fun _ => ?_ | refine Tr.lf_h ?_))
    all_goals (first | first | (show Region.lexB _ _ = true; kernel_rfl) | (show planned _ _ = true; kernel_rfl) | exact rfl | exact True.intro | ((try dsimp only [imp, C1, cBlk, cItm] at *); (try refine inR64 ?_ ?_) <;> (try simp only [List.length_set, List.length_append, List.length_take, List.length_drop]) <;> omega))
/-- A queue that has no array as yet. -/
def qn (bp q : Nat) (wr : Bool) : List (Ck C1) := [⟨bp, q, 2, wr, none, .one [.nils, lsSV]⟩]
theorem lenF_nil (bp q : Nat) : Tells (C := C1) Try.prog (.fn 23) (qn bp q false) [.ptr 0 0 0] (.int .i64 0) := by
  refine loc_pc (P := Try.prog) (E := ⟨[], [], 8, []⟩) (L := []) mix Try.func23 rfl (by kernel_rfl) (by kernel_rfl) rfl rfl ?_
  ((conv => (arg 1; reduce)); with_reducible repeat' (first | exact Tr.yes_h | refine Tr.and_h ?_ ?_ | refine Tr.imp_h fun _ => ?_ | refine Tr.all_h fun _ => ?_ | refine Tr.lf_h ?_))
  all_goals (first | first | (show Region.lexB _ _ = true; kernel_rfl) | (show planned _ _ = true; kernel_rfl) | exact rfl | exact True.intro | ((try dsimp only [imp, C1, cBlk, cItm] at *); (try refine inR64 ?_ ?_) <;> (try simp only [List.length_set, List.length_append, List.length_take, List.length_drop]) <;> omega))
theorem lenM_nil (bp q : Nat) : Tells (C := C1) Try.prog (.inv 47 "Len") (qn bp q false) [.ptr 0 0 0] (.int .i64 0) := by
  refine loc_inv (f := 23) (recv := .ptr 0 0 0) Try.func23 rfl (by kernel_rfl) (fun w hm => ?_) (lenF_nil _ _)
  exact method_ptr (mm := me47 "Len") ti47_is (by kernel_rfl) (by kernel_rfl) (by kernel_rfl) un47 _ _
def matN (p : SV) (m : List (Ck C1)) : Option ((Nat × Nat) × List Nat) :=
  match p with
  | .ptr k _ _ => match nth m k with
    | ⟨bp, q, _, _, _, .one [.nils, _]⟩ => some ((bp, q), [k])
    | _ => none
  | _ => none
noncomputable def pcLen0 : Pc Try.prog C1 where
  tg := .inv 47 "Len"
  X := Nat × Nat
  args _ := [.ptr 0 0 0]
  mem := fun (bp, q) => qn bp q false
  pre _ := True
  res := fun _ => .int .i64 0
  mat vs m := match vs with
    | [p] => matN p m
    | _ => none
  ok := fun (_, _) _ => lenM_nil _ _
noncomputable def pcLenF0 : Pc Try.prog C1 := { pcLen0 with
  tg := .fn 23
  ok := fun (_, _) _ => lenF_nil _ _ }
theorem init_nil (bp q : Nat) :
    Does (C := C1) Try.prog (.fn 21) (qn bp q true) [.ifc 47 (.ptr 0 0 0)] [⟨Unit, fun _ => True, fun _ => .tup [], fun _ => qn bp q true⟩] := by
  refine loc_fn (P := Try.prog) (E := ⟨[], [pcLen0], 17, []⟩)
    (L := [⟨2, Unit, fun x => [(3, .int .i64 (-1))], fun _ m => m, fun x => True, fun x => 0⟩]) mix Try.func21 rfl (by kernel_rfl) (by kernel_rfl) rfl rfl ?_
  ((conv => (arg 1; reduce)); with_reducible repeat' (first | exact Tr.yes_h | refine Tr.and_h ?_ ?_ | refine Tr.imp_h fun _ => ?_ | refine Tr.all_h fun _ => ?_ | refine Tr.lf_h ?_))
  all_goals try first | (show Region.lexB _ _ = true; kernel_rfl) | (show planned _ _ = true; kernel_rfl) | exact rfl | exact True.intro
  · exact (by decide : (2 : Int) ≠ 0)
  · refine Stands.one () ⟨trivial, ?_⟩
    ((conv => (arg 1; reduce)); with_reducible repeat' (first | exact Tr.yes_h | refine Tr.and_h ?_ ?_ | refine Tr.imp_h fun _ => ?_ | refine Tr.all_h fun _ => ?_ | refine Tr.lf_h ?_))
    all_goals (first | first | (show Region.lexB _ _ = true; kernel_rfl) | (show planned _ _ = true; kernel_rfl) | exact rfl | exact True.intro | ((try dsimp only [imp, C1, cBlk, cItm] at *); (try refine inR64 ?_ ?_) <;> (try simp only [List.length_set, List.length_append, List.length_take, List.length_drop]) <;> omega))
  · rename_i x hx hc
    exact absurd hc (by decide)
  · refine Ends.one () trivial ?_
    ((conv => (arg 1; reduce)); with_reducible repeat' (first | exact Tr.yes_h | refine Tr.and_h ?_ ?_ | refine Tr.imp_h fun _ => ?_ | refine Tr.all_h fun _ => ?_ | refine Tr.lf_h ?_))
    all_goals (first | first | (show Region.lexB _ _ = true; kernel_rfl) | (show planned _ _ = true; kernel_rfl) | exact rfl | exact True.intro | ((try dsimp only [imp, C1, cBlk, cItm] at *); (try refine inR64 ?_ ?_) <;> (try simp only [List.length_set, List.length_append, List.length_take, List.length_drop]) <;> omega))
noncomputable def fcInit : Fc Try.prog C1 where
  tg := .fn 21
  X := Qx
  args := fun _ => [.ifc 47 (.ptr 0 0 0)]
  mem := fun ⟨bp, q, b, base, l, n, c⟩ => qp bp q b base true true l n c
  pre := fun ⟨_, _, _, _, l, n, c⟩ => n ≤ c ∧ c ≤ l.length ∧ n < 1048576
  alts := fun ⟨bp, q, b, base, l, n, c⟩ => [⟨List Itm, fun l' => Hg.Same d0 l l' n ∧ Hg.HeapL d0 lessI l' n, fun _ => .tup [], fun l' => qp bp q b base true true l' n c⟩]
  mat vs m := match vs with
    | [.ifc _ p] => matQ p m
    | _ => none
  ok := fun ⟨_, _, _, _, _, _, _⟩ h => init_ok _ _ _ _ _ _ _ h.1 h.2.1 h.2.2
noncomputable def fcInit0 : Fc Try.prog C1 where
  tg := .fn 21
  X := Nat × Nat
  args := fun _ => [.ifc 47 (.ptr 0 0 0)]
  mem := fun (bp, q) => qn bp q true
  pre := fun _ => True
  alts := fun (bp, q) => [⟨Unit, fun _ => True, fun _ => .tup [], fun _ => qn bp q true⟩]
  mat vs m := match vs with
    | [.ifc _ p] => matN p m
    | _ => none
  ok := fun (_, _) _ => init_nil _ _
end Go.Vi
