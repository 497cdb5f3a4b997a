/-
  Round 17: the heap's up and down.
  Conditions: none.
-/
import Derived.Test.YtncpjklejppdkaaDoorPoC
import Derived.Test.YtncpjklejppdkaaDoorPoH
set_option linter.unusedSectionVars false
set_option maxRecDepth 100000
set_option linter.unusedVariables false
set_option linter.unusedSimpArgs false
namespace Go.Vx
open Go Go.Proofs
variable [Gl]

theorem par_div (j : Nat) : ((j : Int) - 1).tdiv 2 = ((par j : Nat) : Int) := by
  unfold par
  cases j with
  | zero => rfl
  | succ k => rw [show ((k + 1 : Nat) : Int) - 1 = (k : Int) by omega, Int.tdiv_eq_ediv_of_nonneg (by omega)]; omega

theorem up_ok (bp q b base : Nat) (l : List Ent) (n sn c j : Nat) (h : HeapUp l n j) (hj : j < n) (hs : n ≤ sn) (hl : sn ≤ l.length) (hb : n < 1048577) :
    Does (C := C0) Tryd.prog (.fn 35) (hp bp q b base false true l sn c) [.ifc 62 (.ptr 0 0 0), .int .i64 j]
     [⟨List Ent, fun l' => Same l l' n ∧ HeapL l' n, fun _ => .tup [], fun l' => hp bp q b base false true l' sn c⟩] := by
  have hn : n ≤ l.length := Nat.le_trans hs hl
  refine loc_fn (P := Tryd.prog) (E := ⟨[fcSwap], [pcLess], 23, []⟩)
    (L := [⟨1, List Ent × Nat, fun x => [(1, .int .i64 x.2)], fun x _ => hp bp q b base false true x.1 sn c, fun x => HeapUp x.1 n x.2 ∧ x.2 < n ∧ Same l x.1 n, fun x => x.2⟩]) mix Tryd.func35 rfl (by kernel_rfl) (by kernel_rfl) rfl rfl ?_
  ((conv => (arg 1; reduce)); with_reducible repeat' (first | exact Tr.yes_h | refine Tr.and_h ?_ ?_ | refine Tr.imp_h fun _ => ?_ | refine Tr.all_h fun _ => ?_ | refine Tr.lf_h ?_))
  all_goals try (first | exact rfl | exact True.intro | (show (2:Int) ≠ 0; omega))
  · refine Stands.one (l, j) ⟨⟨h, hj, Same.refl _ _⟩, ?_⟩
    ((conv => (arg 1; reduce)); with_reducible repeat' (first | exact Tr.yes_h | refine Tr.and_h ?_ ?_ | refine Tr.imp_h fun _ => ?_ | refine Tr.all_h fun _ => ?_ | refine Tr.lf_h ?_))
    all_goals (first | first | (show Region.lexB _ _ = true; kernel_rfl) | (show planned _ _ = true; kernel_rfl) | exact rfl | exact True.intro | ((try dsimp only [imp, C0, cG, cInt2] at *); (try refine inR64 ?_ ?_) <;> (try simp only [List.length_set, List.length_append, List.length_take, List.length_drop]) <;> omega))
  · rename_i x hx
    obtain ⟨h1, h2, h3⟩ := hx
    exact inR64 (by omega) (by omega)
  · rename_i x hx
    obtain ⟨h1, h2, h3⟩ := hx
    rw [par_div]
    have : par x.2 ≤ x.2 := by unfold par; omega
    exact inR64 (by omega) (by omega)
  · rename_i x hx hc
    obtain ⟨h1, h2, h3⟩ := hx
    have : par x.2 ≤ x.2 := by unfold par; omega
    have := h3.1
    simp only [pcLess, par_div]
    omega
  · rename_i x hx hc
    obtain ⟨h1, h2, h3⟩ := hx
    have hp' : 0 < x.2 → par x.2 < x.2 := by unfold par; omega
    refine Ends.one x.1 ⟨h3, up_done h1 fun h0 => ?_⟩ ?_
    · rw [par_div] at hc
      have := hp' h0
      simp only [SB.val, Bool.or_eq_true, decide_eq_true_eq, Bool.not_eq_true', Int.toNat_natCast] at hc
      rcases hc with hc | hc
      · omega
      · exact hc
    · ((conv => (arg 1; reduce)); with_reducible repeat' (first | exact Tr.yes_h | refine Tr.and_h ?_ ?_ | refine Tr.imp_h fun _ => ?_ | refine Tr.all_h fun _ => ?_ | refine Tr.lf_h ?_))
      all_goals (first | first | (show Region.lexB _ _ = true; kernel_rfl) | (show planned _ _ = true; kernel_rfl) | exact rfl | exact True.intro | ((try dsimp only [imp, C0, cG, cInt2] at *); (try refine inR64 ?_ ?_) <;> (try simp only [List.length_set, List.length_append, List.length_take, List.length_drop]) <;> omega))
  · rename_i x hx hc
    obtain ⟨h1, h2, h3⟩ := hx
    have : par x.2 ≤ x.2 := by unfold par; omega
    have := h3.1
    simp only [fcSwap, par_div]
    omega
  · rename_i x hx hc u hu
    obtain ⟨h1, h2, h3⟩ := hx
    have hp0 : par 0 = 0 := rfl
    have hp' : 0 < x.2 → par x.2 < x.2 := by unfold par; omega
    rw [par_div] at hc
    simp only [SB.val, Bool.or_eq_false_iff, decide_eq_false_iff_not, Bool.not_eq_false', Int.toNat_natCast] at hc
    have h0 : 0 < x.2 := by
      rcases Nat.eq_zero_or_pos x.2 with e | e
      · rw [e] at hc; exact absurd rfl hc.1
      · exact e
    have hlen := h3.1
    refine Stands.one (swp x.1 (par x.2) x.2, par x.2) ⟨⟨up_step h1 (by omega) h0 h2 hc.2, ?_, h3.swp hn ?_ h2⟩, ?_, ?_⟩
    · have := hp' h0; show par x.2 < n; omega
    · have := hp' h0; omega
    · exact hp' h0
    · ((conv => (arg 1; reduce)); with_reducible repeat' (first | exact Tr.yes_h | refine Tr.and_h ?_ ?_ | refine Tr.imp_h fun _ => ?_ | refine Tr.all_h fun _ => ?_ | refine Tr.lf_h ?_))
      all_goals first | (first | first | (show Region.lexB _ _ = true; kernel_rfl) | (show planned _ _ = true; kernel_rfl) | exact rfl | exact True.intro | ((try dsimp only [imp, C0, cG, cInt2] at *); (try refine inR64 ?_ ?_) <;> (try simp only [List.length_set, List.length_append, List.length_take, List.length_drop]) <;> omega)) | exact par_div x.2 | (show swp x.1 (par x.2) x.2 = swp x.1 (((x.2 : Int) - 1).tdiv 2).toNat ((x.2 : Int).toNat); rw [par_div]; rfl)

theorem kids {k i : Nat} (h : par k = i) (h0 : 0 < k) : k = 2 * i + 1 ∨ k = 2 * i + 2 := by unfold par at h; omega
theorem par1 (i : Nat) : par (2 * i + 1) = i := by unfold par; omega
theorem par2 (i : Nat) : par (2 * i + 2) = i := by unfold par; omega
theorem bef_irr (a : Ent) : bef a a = false := by rw [bef_f]; omega
theorem bef_asym {a b : Ent} (h : bef a b = true) : bef b a = false := by rw [bef_t] at h; rw [bef_f]; omega
theorem bef_tr {a b c : Ent} (h : bef b a = false) (h' : bef c b = false) : bef c a = false := by rw [bef_f] at *; omega
abbrev downPost (l : List Ent) (n i : Nat) (y : List Ent × Bool) : Prop := Same l y.1 n ∧ (y.2 = true → HeapL y.1 n) ∧ (y.2 = false → HeapUp y.1 n i)
theorem down_end {l l1 : List Ent} {n i X : Nat} (h : HeapX l1 n X) (hX : i ≤ X) (hs : Same l l1 n) (hu : i < X → bef (at_ l1 X) (at_ l1 (par X)) = false)
    (hk : ∀ k, 0 < k → k < n → par k = X → bef (at_ l1 k) (at_ l1 X) = false) : downPost l n i (l1, decide ((i : Int) < (X : Int))) := by
  have hup := down_done h hk
  refine ⟨hs, fun hb => ?_, fun hb => ?_⟩
  · have : i < X := by have := of_decide_eq_true hb; omega
    exact up_done hup (fun _ => hu this)
  · have : i = X := by have := of_decide_eq_false hb; omega
    rw [this]; exact hup

theorem least2 {l : List Ent} {n X : Nat} (h : bef (at_ l (2 * X + 2)) (at_ l (2 * X + 1)) = true) : ∀ k, 0 < k → k < n → par k = X → bef (at_ l k) (at_ l (2 * X + 2)) = false := by
  intro k hk0 _ hk
  rcases kids hk hk0 with e | e
  · rw [e]; exact bef_asym h
  · rw [e]; exact bef_irr _
theorem least1 {l : List Ent} {n X : Nat} (h : 2 * X + 2 < n → bef (at_ l (2 * X + 2)) (at_ l (2 * X + 1)) = false) : ∀ k, 0 < k → k < n → par k = X → bef (at_ l k) (at_ l (2 * X + 1)) = false := by
  intro k hk0 hkn hk
  rcases kids hk hk0 with e | e
  · rw [e]; exact bef_irr _
  · rw [e]; exact h (by omega)
theorem toN1 (X : Nat) : (2 * (X : Int) + 1).toNat = 2 * X + 1 := by omega
theorem toN2 (X : Nat) : (2 * (X : Int) + 1 + 1).toNat = 2 * X + 2 := by omega

theorem down_ok (bp q b base : Nat) (l : List Ent) (n sn c i : Nat) (h : HeapX l n i) (hi : i ≤ n) (hs : n ≤ sn) (hl : sn ≤ l.length) (hb : n < 1048577) :
    Does (C := C0) Tryd.prog (.fn 34) (hp bp q b base false true l sn c) [.ifc 62 (.ptr 0 0 0), .int .i64 i, .int .i64 n]
     [⟨List Ent × Bool, downPost l n i, fun y => .bool (.tm y.2), fun y => hp bp q b base false true y.1 sn c⟩] := by
  have hn : n ≤ l.length := Nat.le_trans hs hl
  refine loc_fn (P := Tryd.prog) (E := ⟨[fcSwap], [pcLess], 48, []⟩)
    (L := [⟨2, List Ent × Nat, fun x => [(7, .int .i64 x.2)], fun x _ => hp bp q b base false true x.1 sn c,
      fun x => HeapX x.1 n x.2 ∧ x.2 ≤ n ∧ i ≤ x.2 ∧ Same l x.1 n ∧ (i < x.2 → bef (at_ x.1 x.2) (at_ x.1 (par x.2)) = false), fun x => n - x.2⟩]) mix Tryd.func34 rfl (by kernel_rfl) (by kernel_rfl) rfl rfl ?_
  ((conv => (arg 1; reduce)); with_reducible repeat' (first | exact Tr.yes_h | refine Tr.and_h ?_ ?_ | refine Tr.imp_h fun _ => ?_ | refine Tr.all_h fun _ => ?_ | refine Tr.lf_h ?_))
  all_goals try (first | exact rfl | exact True.intro)
  · refine Stands.one (l, i) ⟨⟨h, hi, Nat.le_refl _, Same.refl _ _, fun hlt => absurd hlt (Nat.lt_irrefl _)⟩, ?_⟩
    ((conv => (arg 1; reduce)); with_reducible repeat' (first | exact Tr.yes_h | refine Tr.and_h ?_ ?_ | refine Tr.imp_h fun _ => ?_ | refine Tr.all_h fun _ => ?_ | refine Tr.lf_h ?_))
    all_goals (first | first | (show Region.lexB _ _ = true; kernel_rfl) | (show planned _ _ = true; kernel_rfl) | exact rfl | exact True.intro | ((try dsimp only [imp, C0, cG, cInt2] at *); (try refine inR64 ?_ ?_) <;> (try simp only [List.length_set, List.length_append, List.length_take, List.length_drop]) <;> omega))
  · rename_i x hx
    obtain ⟨h1, h2, h3, h4, h5⟩ := hx
    exact inR64 (by omega) (by omega)
  · rename_i x hx
    obtain ⟨h1, h2, h3, h4, h5⟩ := hx
    exact inR64 (by omega) (by omega)
  · rename_i x hx hc
    obtain ⟨h1, h2, h3, h4, h5⟩ := hx
    simp only [SB.val, Bool.or_eq_true, decide_eq_true_eq] at hc
    refine Ends.one (x.1, decide ((i : Int) < (x.2 : Int))) (down_end h1 h3 h4 h5 fun k hk0 hkn hk => ?_) ?_
    · have := kids hk hk0; omega
    · ((conv => (arg 1; reduce)); with_reducible repeat' (first | exact Tr.yes_h | refine Tr.and_h ?_ ?_ | refine Tr.imp_h fun _ => ?_ | refine Tr.all_h fun _ => ?_ | refine Tr.lf_h ?_))
      all_goals (first | first | (show Region.lexB _ _ = true; kernel_rfl) | (show planned _ _ = true; kernel_rfl) | exact rfl | exact True.intro | ((try dsimp only [imp, C0, cG, cInt2] at *); (try refine inR64 ?_ ?_) <;> (try simp only [List.length_set, List.length_append, List.length_take, List.length_drop]) <;> omega))
  · rename_i x hx hc
    obtain ⟨h1, h2, h3, h4, h5⟩ := hx
    exact inR64 (by omega) (by omega)
  · rename_i x hx hc hd
    obtain ⟨h1, h2, h3, h4, h5⟩ := hx
    have hlen := h4.1
    simp only [SB.val, Bool.or_eq_false_iff, decide_eq_false_iff_not, decide_eq_true_eq] at hc hd
    simp only [pcLess]
    omega
  · rename_i x hx hc hd
    obtain ⟨h1, h2, h3, h4, h5⟩ := hx
    have hlen := h4.1
    simp only [SB.val, Bool.or_eq_false_iff, decide_eq_false_iff_not, Bool.and_eq_true, decide_eq_true_eq, Bool.and_eq_false_iff] at hc hd
    simp only [pcLess]
    omega
  · rename_i x hx hc hd he
    obtain ⟨h1, h2, h3, h4, h5⟩ := hx
    simp only [SB.val, Bool.or_eq_false_iff, decide_eq_false_iff_not, Bool.and_eq_true, decide_eq_true_eq, Bool.not_eq_true', Bool.and_eq_false_iff, toN1, toN2, Int.toNat_natCast] at hc hd he
    refine Ends.one (x.1, decide ((i : Int) < (x.2 : Int))) (down_end h1 h3 h4 h5 fun k hk0 hkn hk => ?_) ?_
    · exact bef_tr he (least2 hd.2 k hk0 hkn hk)
    · ((conv => (arg 1; reduce)); with_reducible repeat' (first | exact Tr.yes_h | refine Tr.and_h ?_ ?_ | refine Tr.imp_h fun _ => ?_ | refine Tr.all_h fun _ => ?_ | refine Tr.lf_h ?_))
      all_goals (first | first | (show Region.lexB _ _ = true; kernel_rfl) | (show planned _ _ = true; kernel_rfl) | exact rfl | exact True.intro | ((try dsimp only [imp, C0, cG, cInt2] at *); (try refine inR64 ?_ ?_) <;> (try simp only [List.length_set, List.length_append, List.length_take, List.length_drop]) <;> omega))
  · rename_i x hx hc hd he
    obtain ⟨h1, h2, h3, h4, h5⟩ := hx
    have hlen := h4.1
    simp only [SB.val, Bool.or_eq_false_iff, decide_eq_false_iff_not, Bool.and_eq_true, decide_eq_true_eq, Bool.and_eq_false_iff] at hc hd
    simp only [fcSwap]
    omega
  · rename_i x hx hc hd he u hu
    obtain ⟨h1, h2, h3, h4, h5⟩ := hx
    have hlen := h4.1
    simp only [SB.val, Bool.or_eq_false_iff, decide_eq_false_iff_not, Bool.and_eq_true, decide_eq_true_eq, Bool.not_eq_false', Bool.and_eq_false_iff, toN1, toN2, Int.toNat_natCast] at hc hd he
    have hjn : 2 * x.2 + 2 < n := by omega
    obtain ⟨g1, g2⟩ := down_step (i := x.2) (j := 2 * x.2 + 2) h1 (by omega) hjn (par2 x.2) (by omega) (least2 hd.2) he (fun _ => .inr trivial)
    refine Stands.one (swp x.1 x.2 (2 * x.2 + 2), 2 * x.2 + 2) ⟨⟨g1, Nat.le_of_lt hjn, ?_, h4.swp hn ?_ hjn, fun _ => g2⟩, ?_, ?_⟩
    · show i ≤ 2 * x.2 + 2; omega
    · omega
    · show n - (2 * x.2 + 2) < n - x.2; omega
    · ((conv => (arg 1; reduce)); with_reducible repeat' (first | exact Tr.yes_h | refine Tr.and_h ?_ ?_ | refine Tr.imp_h fun _ => ?_ | refine Tr.all_h fun _ => ?_ | refine Tr.lf_h ?_))
      all_goals first | (first | first | (show Region.lexB _ _ = true; kernel_rfl) | (show planned _ _ = true; kernel_rfl) | exact rfl | exact True.intro | ((try dsimp only [imp, C0, cG, cInt2] at *); (try refine inR64 ?_ ?_) <;> (try simp only [List.length_set, List.length_append, List.length_take, List.length_drop]) <;> omega)) | (show _ = ((2 * x.2 + 2 : Nat) : Int); omega) | (show swp x.1 x.2 (2 * x.2 + 2) = swp x.1 (x.2 : Int).toNat _; rw [Int.toNat_natCast]; congr 1; omega)
  · rename_i x hx hc hd
    obtain ⟨h1, h2, h3, h4, h5⟩ := hx
    have hlen := h4.1
    simp only [SB.val, Bool.or_eq_false_iff, decide_eq_false_iff_not, Bool.and_eq_true, decide_eq_true_eq, Bool.and_eq_false_iff] at hc hd
    simp only [pcLess]
    omega
  · rename_i x hx hc hd he
    obtain ⟨h1, h2, h3, h4, h5⟩ := hx
    simp only [SB.val, Bool.or_eq_false_iff, decide_eq_false_iff_not, Bool.and_eq_true, decide_eq_true_eq, Bool.not_eq_true', Bool.and_eq_false_iff, toN1, toN2, Int.toNat_natCast] at hc hd he
    refine Ends.one (x.1, decide ((i : Int) < (x.2 : Int))) (down_end h1 h3 h4 h5 fun k hk0 hkn hk => ?_) ?_
    · exact bef_tr he (least1 (fun hj2 => (hd.resolve_left (by omega))) k hk0 hkn hk)
    · ((conv => (arg 1; reduce)); with_reducible repeat' (first | exact Tr.yes_h | refine Tr.and_h ?_ ?_ | refine Tr.imp_h fun _ => ?_ | refine Tr.all_h fun _ => ?_ | refine Tr.lf_h ?_))
      all_goals (first | first | (show Region.lexB _ _ = true; kernel_rfl) | (show planned _ _ = true; kernel_rfl) | exact rfl | exact True.intro | ((try dsimp only [imp, C0, cG, cInt2] at *); (try refine inR64 ?_ ?_) <;> (try simp only [List.length_set, List.length_append, List.length_take, List.length_drop]) <;> omega))
  · rename_i x hx hc hd he
    obtain ⟨h1, h2, h3, h4, h5⟩ := hx
    have hlen := h4.1
    simp only [SB.val, Bool.or_eq_false_iff, decide_eq_false_iff_not, Bool.and_eq_true, decide_eq_true_eq, Bool.and_eq_false_iff] at hc hd
    simp only [fcSwap]
    omega
  · rename_i x hx hc hd he u hu
    obtain ⟨h1, h2, h3, h4, h5⟩ := hx
    have hlen := h4.1
    simp only [SB.val, Bool.or_eq_false_iff, decide_eq_false_iff_not, Bool.and_eq_true, decide_eq_true_eq, Bool.not_eq_false', Bool.and_eq_false_iff, toN1, toN2, Int.toNat_natCast] at hc hd he
    have hjn : 2 * x.2 + 1 < n := by omega
    obtain ⟨g1, g2⟩ := down_step (i := x.2) (j := 2 * x.2 + 1) h1 (by omega) hjn (par1 x.2) (by omega) (least1 (fun hj2 => (hd.resolve_left (by omega)))) he (fun _ => .inr trivial)
    refine Stands.one (swp x.1 x.2 (2 * x.2 + 1), 2 * x.2 + 1) ⟨⟨g1, Nat.le_of_lt hjn, ?_, h4.swp hn ?_ hjn, fun _ => g2⟩, ?_, ?_⟩
    · show i ≤ 2 * x.2 + 1; omega
    · omega
    · show n - (2 * x.2 + 1) < n - x.2; omega
    · ((conv => (arg 1; reduce)); with_reducible repeat' (first | exact Tr.yes_h | refine Tr.and_h ?_ ?_ | refine Tr.imp_h fun _ => ?_ | refine Tr.all_h fun _ => ?_ | refine Tr.lf_h ?_))
      all_goals first | (first | first | (show Region.lexB _ _ = true; kernel_rfl) | (show planned _ _ = true; kernel_rfl) | exact rfl | exact True.intro | ((try dsimp only [imp, C0, cG, cInt2] at *); (try refine inR64 ?_ ?_) <;> (try simp only [List.length_set, List.length_append, List.length_take, List.length_drop]) <;> omega)) | (show _ = ((2 * x.2 + 1 : Nat) : Int); omega) | (show swp x.1 x.2 (2 * x.2 + 1) = swp x.1 (x.2 : Int).toNat _; rw [Int.toNat_natCast]; congr 1; omega)

noncomputable def fcUp : Fc Tryd.prog C0 where
  tg := .fn 35
  X := Hx × Nat × Nat
  args := fun (_, _, j) => [.ifc 62 (.ptr 0 0 0), .int .i64 j]
  mem := fun (⟨bp, q, b, base, l, n, c⟩, _, _) => hp bp q b base false true l n c
  pre := fun (⟨_, _, _, _, l, n, _⟩, m, j) => HeapUp l m j ∧ j < m ∧ m ≤ n ∧ n ≤ l.length ∧ m < 1048577
  alts := fun (⟨bp, q, b, base, l, n, c⟩, m, _) => [⟨List Ent, fun l' => Same l l' m ∧ HeapL l' m, fun _ => .tup [], fun l' => hp bp q b base false true l' n c⟩]
  mat vs m := match vs with
    | [.ifc _ p, .int _ j] => (matH p m).map fun (h, r) => ((h, h.n, j.toNat), r)
    | _ => none
  ok := fun (⟨_, _, _, _, _, _, _⟩, _, _) h => up_ok _ _ _ _ _ _ _ _ _ h.1 h.2.1 h.2.2.1 h.2.2.2.1 h.2.2.2.2
/-- The same, of all but the last. -/
noncomputable def fcUp1 : Fc Tryd.prog C0 := { fcUp with
  mat := fun vs m => match vs with
    | [.ifc _ p, .int _ j] => (matH p m).map fun (h, r) => ((h, h.n - 1, j.toNat), r)
    | _ => none }
noncomputable def fcDown : Fc Tryd.prog C0 where
  tg := .fn 34
  X := Hx × Nat × Nat
  args := fun (_, i, j) => [.ifc 62 (.ptr 0 0 0), .int .i64 i, .int .i64 j]
  mem := fun (⟨bp, q, b, base, l, n, c⟩, _, _) => hp bp q b base false true l n c
  pre := fun (⟨_, _, _, _, l, n, _⟩, i, m) => HeapX l m i ∧ i ≤ m ∧ m ≤ n ∧ n ≤ l.length ∧ m < 1048577
  alts := fun (⟨bp, q, b, base, l, n, c⟩, i, m) => [⟨List Ent × Bool, downPost l m i, fun y => .bool (.tm y.2), fun y => hp bp q b base false true y.1 n c⟩]
  mat vs m := match vs with
    | [.ifc _ p, .int _ i, .int _ j] => (matH p m).map fun (h, r) => ((h, i.toNat, j.toNat), r)
    | _ => none
  ok := fun (⟨_, _, _, _, _, _, _⟩, _, _) h => down_ok _ _ _ _ _ _ _ _ _ h.1 h.2.1 h.2.2.1 h.2.2.2.1 h.2.2.2.2
end Go.Vx
