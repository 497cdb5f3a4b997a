/-
  Round 17: PoolSorts, what it computes, turned.
  Conditions: none.
-/
import Derived.Test.YtncpjklejppdkaaDoorPoL
set_option maxRecDepth 100000
set_option linter.unusedVariables false
set_option linter.unusedSimpArgs false
namespace Go.Vx
open Go Go.Proofs

theorem perm_good {worn : List Int} {N n n' : Nat} {l l' : List Ent} {seen : List Bool} (h : good worn N l n seen) (hp : (l'.take n').Perm (l.take n)) : good worn N l' n' seen :=
  ⟨(hp.map _).nodup_iff.2 h.1, fun e he => h.2 e (hp.mem_iff.1 he)⟩
/-- A round of the second loop, turned: the least one is taken, and laid in again. -/
theorem round_t1 {worn : List Int} {N : Nat} {x : Nat × Nat × List Ent × Nat × Nat × Int × List Bool} {y : List Ent × Int × Bool} (h : i2 mst worn N x) (hi : x.2.2.2.2.1 < N) (ht : takePost First x.2.2.1 (N - x.2.2.2.2.1) x.2.2.2.1 y) :
    y.2.2 = true ∧ ∃ k, k < N ∧ y.2.1 = (k : Int) ∧ HOK y.1 (N - x.2.2.2.2.1 - 1) x.2.2.2.1 ∧ ixf y.1 (N - x.2.2.2.2.1 - 1) (k : Int) = -1 ∧ (x.2.2.1.take (N - x.2.2.2.2.1)).Perm (((k : Int), wv worn k) :: y.1.take (N - x.2.2.2.2.1 - 1)) := by
  obtain ⟨h0, h1, h2, h3, h4, h5⟩ := h
  obtain ⟨t1, t2, e, t3, t4, t5⟩ := takeP ht (by omega)
  obtain ⟨k, hk, e1, e2, e3⟩ := good_take h4 t5
  subst e1
  refine ⟨t1, k, hk, t4, t2, ixf_absent t2.lt (List.Perm.refl _) fun a ha e => ?_, t5⟩
  have := (t5.map (·.1)).nodup_iff.1 h4.1
  simp only [List.map_cons, List.nodup_cons] at this
  exact this.1 (List.mem_map.2 ⟨a, ha, e⟩)
/-- Then the most worn one is taken. -/
theorem round_t2 {worn : List Int} {N k : Nat} {x : Nat × Nat × List Ent × Nat × Nat × Int × List Bool} {l : List Ent} {z : Nat × Nat × List Ent × Nat} {u : List Ent × Int × Bool} (h : i2 mst worn N x) (hi : x.2.2.2.2.1 < N)
    (hp : (x.2.2.1.take (N - x.2.2.2.2.1)).Perm (((k : Int), wv worn k) :: l.take (N - x.2.2.2.2.1 - 1))) (hz : pushPost l (N - x.2.2.2.2.1 - 1) ((k : Int), wv worn k) z) (hu : takePost Most z.2.2.1 (N - x.2.2.2.2.1 - 1 + 1) z.2.2.2 u) :
    u.2.2 = true ∧ ∃ k, k < N ∧ u.2.1 = (k : Int) ∧ x.2.2.2.2.2.2.getD k false = false ∧ HOK u.1 (N - x.2.2.2.2.1 - 1 + 1 - 1) z.2.2.2 ∧ good worn N u.1 (N - x.2.2.2.2.1 - 1 + 1 - 1) (x.2.2.2.2.2.2.set k true) ∧
      (∀ e ∈ u.1.take (N - x.2.2.2.2.1 - 1 + 1 - 1), mst e ((k : Int), wv worn k) = false) ∧ (0 ≤ x.2.2.2.2.2.1 → mst ((k : Int), wv worn k) (x.2.2.2.2.2.1, wv worn x.2.2.2.2.2.1.toNat) = false) := by
  obtain ⟨h0, h1, h2, h3, h4, h5⟩ := h
  have hzl : (z.2.2.1.take (N - x.2.2.2.2.1 - 1 + 1)).Perm (x.2.2.1.take (N - x.2.2.2.2.1)) := hz.2.trans (List.perm_append_comm.trans hp.symm)
  obtain ⟨t1, t2, e, t3, t4, t5⟩ := takeP hu (by omega)
  obtain ⟨k, hk, e1, e2, e3⟩ := good_take (perm_good h4 hzl) t5
  subst e1
  refine ⟨t1, k, hk, t4, e2, t2, e3, fun a ha => ?_, fun h0 => ?_⟩
  · exact most_all hz.1.lt (List.Perm.refl _) t3 a (t5.mem_iff.2 (List.mem_cons_of_mem _ ha))
  · rcases h5 with h5 | ⟨_, _, h5⟩
    · omega
    · exact h5 _ (hzl.mem_iff.1 (t5.mem_iff.2 (by simp)))

theorem round_t {worn : List Int} {N : Nat} {x1 : Nat × Nat × List Ent × Nat × Nat × List Int} {x : Nat × Nat × List Ent × Nat × Nat × Int × List Bool} {y u : List Ent × Int × Bool} {z : Nat × Nat × List Ent × Nat} (h1 : i1 worn N x1) (c1 : ¬ (x1.2.2.2.2.1 : Int) < (N : Int))
    (h : i2 mst worn N x) (hi : x.2.2.2.2.1 < N) (hy : takePost First x.2.2.1 (N - x.2.2.2.2.1) x.2.2.2.1 y) (hz : pushPost y.1 (N - x.2.2.2.2.1 - 1) (y.2.1, x1.2.2.2.2.2.getD (y.2.1.toNat + 0) (C0 3).dflt) z) (hu : takePost Most z.2.2.1 (N - x.2.2.2.2.1 - 1 + 1) z.2.2.2 u) :
    u.2.2 = true ∧ ∃ k, k < N ∧ u.2.1 = (k : Int) ∧ x.2.2.2.2.2.2.getD k false = false ∧ HOK u.1 (N - x.2.2.2.2.1 - 1 + 1 - 1) z.2.2.2 ∧ good worn N u.1 (N - x.2.2.2.2.1 - 1 + 1 - 1) (x.2.2.2.2.2.2.set k true) ∧
      (∀ e ∈ u.1.take (N - x.2.2.2.2.1 - 1 + 1 - 1), mst e ((k : Int), wv worn k) = false) ∧ (0 ≤ x.2.2.2.2.2.1 → mst ((k : Int), wv worn k) (x.2.2.2.2.2.1, wv worn x.2.2.2.2.2.1.toNat) = false) := by
  obtain ⟨_, k, hk, e1, _, _, hp⟩ := round_t1 h hi hy
  obtain ⟨g1, g2, g3, g4, g5, g6⟩ := h1
  have e2 : x1.2.2.2.2.2.getD (y.2.1.toNat + 0) (C0 3).dflt = wv worn k := by rw [e1]; exact g5 k (by omega)
  rw [e1, ← e1, e2, e1] at hz
  exact round_t2 h hi hp hz hu

set_option maxHeartbeats 4000000 in
theorem sorts_t (b0 base0 : Nat) (worn : List Int) (N m : Nat) (hN : N ≤ worn.length) :
    Tells (C := C0) Tryd.prog (.fn 3) [⟨b0, base0, 1, false, none, .rows 3 worn⟩] [.sl 0 0 N m, .bool .t] (.bool .t) := by
  refine loc_pc (P := Tryd.prog) (E := ⟨[fcNew, fcAdd, fcAdd0, fcTake, fcTake0, fcMost, fcMost0], [pcFirst, pcPlen, pcPlen0], 169, []⟩)
    (L := [I1a N, I1b worn N, I2a N, I2b mst worn N]) mix Tryd.func3 rfl (by kernel_rfl) (by kernel_rfl) rfl rfl ?_
  ((conv => (arg 1; reduce)); with_reducible repeat' (first | exact Tr.yes_h | refine Tr.and_h ?_ ?_ | refine Tr.imp_h fun _ => ?_ | refine Tr.all_h fun _ => ?_ | refine Tr.lf_h ?_))
  all_goals try first | (show Region.lexB _ _ = true; kernel_rfl) | (show planned _ _ = true; kernel_rfl) | exact rfl | exact True.intro
  -- paths that no run takes
  all_goals try (exfalso; have h1 : N = 0 := ‹(I2a N).inv _›; have h2 : i1 worn N _ := ‹(I1b worn N).inv _›; have := h2.2.1; have := h2.2.2.1; omega)
  all_goals try (exfalso; have h2 : i2 mst worn N _ := ‹(I2b mst worn N).inv _›; have h3 : ¬ ((0 : Int) < (N : Int)) := of_decide_eq_false ‹decide ((0 : Int) < (N : Int)) = false›; have := h2.1; omega)
  all_goals try (exfalso; have h1 : N = 0 := ‹(I2a N).inv _›; have h3 : (0 : Int) < _ := of_decide_eq_true ‹decide ((0 : Int) < (((N : Int).toNat : Nat) : Int)) = true›; omega)
  all_goals try (exfalso; have hx : i2 mst worn N _ := ‹(I2b mst worn N).inv _›; have h3 : _ < (((N : Int).toNat : Nat) : Int) := of_decide_eq_true ‹decide (_ < (((N : Int).toNat : Nat) : Int)) = true›; have r1 := (round_t1 hx (by omega) ‹takePost First _ _ _ _›).1; have r2 : Prod.snd (Prod.snd _) = false := ‹Prod.snd (Prod.snd _) = false›; rw [r1] at r2; cases r2)
  -- numbers
  all_goals try (have h3 : (0 : Int) < _ := of_decide_eq_true ‹decide ((0 : Int) < (N : Int)) = true›; (first | omega | (simp only [List.length_set, List.length_replicate]; omega)))
  all_goals try (obtain ⟨g1, g2, g3, g4, g5, g6⟩ : i1 worn N _ := ‹(I1b worn N).inv _›; have h3 : _ < (N : Int) := of_decide_eq_true ‹decide (_ < (N : Int)) = true›; (first | omega | (simp only [List.length_set, List.length_replicate]; omega)))
  · rename_i h64 pb hpb
    have h64 := of_decide_eq_false h64
    rw [by3]
    omega
  · refine Stands.one () ⟨trivial, ?_⟩
    ((conv => (arg 1; reduce)); with_reducible repeat' (first | exact Tr.yes_h | refine Tr.and_h ?_ ?_ | refine Tr.imp_h fun _ => ?_ | refine Tr.all_h fun _ => ?_ | refine Tr.lf_h ?_))
    all_goals (first | first | (show Region.lexB _ _ = true; kernel_rfl) | (show planned _ _ = true; kernel_rfl) | exact rfl | exact True.intro | ((try dsimp only [imp, C0, cInt2] at *); (try refine inR64 ?_ ?_) <;> (try simp only [List.length_set, List.length_append, List.length_take, List.length_drop]) <;> omega))
  · rename_i h64 pb hpb wb x hx hc
    have hc := of_decide_eq_true hc
    show (0 : Int) ≤ 0 ∧ (0 : Int) < 64 ∧ 0 ≤ ((List.replicate (N : Int).toNat (0 : Int)).set 0 (wv worn 0)).getD 0 0 ∧ ((List.replicate (N : Int).toNat (0 : Int)).set 0 (wv worn 0)).getD 0 0 ≤ 1073741824
    rw [getD_set_self (by simp; omega)]
    have : 0 ≤ wv worn 0 ∧ wv worn 0 ≤ 1023 := mask_ok _
    exact ⟨by decide, by decide, this.1, by omega⟩
  · rename_i h64 pb hpb wb x hx hc y hy
    have hc := of_decide_eq_true hc
    have e : ((List.replicate (N : Int).toNat (0 : Int)).set 0 (wv worn 0)).getD 0 0 = wv worn 0 := getD_set_self (by simp; omega)
    have hy : push0Post (0, ((List.replicate (N : Int).toNat (0 : Int)).set 0 (wv worn 0)).getD 0 0) y := hy
    rw [e] at hy
    refine Stands.next (Stands.one (y.1, 0, y.2.1, y.2.2, 1, (List.replicate (N : Int).toNat (0 : Int)).set 0 (wv worn 0)) ⟨⟨hy.1, Nat.one_pos, by show 1 ≤ N; omega, by simp, fun k hk => ?_, hy.2⟩, ?_, ?_⟩)
    · have : k = 0 := by have : k < 1 := hk; omega
      rw [this]; exact e
    · show N - 1 < N + 1; omega
    · ((conv => (arg 1; reduce)); with_reducible repeat' (first | exact Tr.yes_h | refine Tr.and_h ?_ ?_ | refine Tr.imp_h fun _ => ?_ | refine Tr.all_h fun _ => ?_ | refine Tr.lf_h ?_))
      all_goals (first | first | (show Region.lexB _ _ = true; kernel_rfl) | (show planned _ _ = true; kernel_rfl) | exact rfl | exact True.intro | ((try dsimp only [imp, C0, cInt2] at *); (try refine inR64 ?_ ?_) <;> (try simp only [List.length_set, List.length_append, List.length_take, List.length_drop]) <;> omega))
  · rename_i h64 pb hpb wb x hx hc
    have h64 := of_decide_eq_false h64
    rw [by4]
    omega
  · rename_i h64 pb hpb wb x hx hc sb
    have hc := of_decide_eq_false hc
    refine Stands.one () ⟨?_, ?_⟩
    · show N = 0; omega
    · ((conv => (arg 1; reduce)); with_reducible repeat' (first | exact Tr.yes_h | refine Tr.and_h ?_ ?_ | refine Tr.imp_h fun _ => ?_ | refine Tr.all_h fun _ => ?_ | refine Tr.lf_h ?_))
      all_goals (first | first | (show Region.lexB _ _ = true; kernel_rfl) | (show planned _ _ = true; kernel_rfl) | exact rfl | exact True.intro | ((try dsimp only [imp, C0, cInt2] at *); (try refine inR64 ?_ ?_) <;> (try simp only [List.length_set, List.length_append, List.length_take, List.length_drop]) <;> omega))
  · rename_i h64 pb hpb wb x hx hc
    have h64 := of_decide_eq_false h64
    have hc := of_decide_eq_true hc
    obtain ⟨g1, g2, g3, g4, g5, g6⟩ : i1 worn N x := hx
    show HOK x.2.2.1 x.2.2.2.2.1 x.2.2.2.1 ∧ x.2.2.2.2.1 < 1048576 ∧ (0 : Int) ≤ x.2.2.2.2.1 ∧ (x.2.2.2.2.1 : Int) < 64 ∧ 0 ≤ (x.2.2.2.2.2.set ((x.2.2.2.2.1 : Int).toNat) (wv worn ((x.2.2.2.2.1 : Int).toNat))).getD ((x.2.2.2.2.1 : Int).toNat) 0 ∧ (x.2.2.2.2.2.set ((x.2.2.2.2.1 : Int).toNat) (wv worn ((x.2.2.2.2.1 : Int).toNat))).getD ((x.2.2.2.2.1 : Int).toNat) 0 ≤ 1073741824 ∧ ixf x.2.2.1 x.2.2.2.2.1 x.2.2.2.2.1 = -1
    rw [Int.toNat_natCast, getD_set_self (by omega)]
    have : 0 ≤ wv worn x.2.2.2.2.1 ∧ wv worn x.2.2.2.2.1 ≤ 1023 := mask_ok _
    refine ⟨g1, by omega, by omega, by omega, this.1, by omega, ixf_absent g1.lt g6 fun e he => ?_⟩
    obtain ⟨k, hk, rfl⟩ := ents_mem he
    show (k : Int) ≠ _
    omega
  · rename_i h64 pb hpb wb x hx hc y hy
    have h64 := of_decide_eq_false h64
    have hc := of_decide_eq_true hc
    exact inR64 (by omega) (by omega)
  · rename_i h64 pb hpb wb x hx hc y hy
    have hc := of_decide_eq_true hc
    obtain ⟨g1, g2, g3, g4, g5, g6⟩ : i1 worn N x := hx
    have hy : pushPost x.2.2.1 x.2.2.2.2.1 ((x.2.2.2.2.1 : Int), (x.2.2.2.2.2.set ((x.2.2.2.2.1 : Int).toNat) (wv worn ((x.2.2.2.2.1 : Int).toNat))).getD ((x.2.2.2.2.1 : Int).toNat) 0) y := hy
    rw [Int.toNat_natCast, getD_set_self (by omega)] at hy
    refine Stands.next (Stands.one (y.1, y.2.1, y.2.2.1, y.2.2.2, x.2.2.2.2.1 + 1, x.2.2.2.2.2.set x.2.2.2.2.1 (wv worn x.2.2.2.2.1)) ⟨⟨hy.1, Nat.succ_pos _, by show x.2.2.2.2.1 + 1 ≤ N; omega, by simp [g4], fun k hk => ?_, ?_⟩, ?_, ?_⟩)
    · have hk : k < x.2.2.2.2.1 + 1 := hk
      show (x.2.2.2.2.2.set x.2.2.2.2.1 (wv worn x.2.2.2.2.1)).getD k 0 = wv worn k
      by_cases e : x.2.2.2.2.1 = k
      · subst e; rw [getD_set_self (by omega)]
      · rw [getD_set_ne e]; exact g5 k (by omega)
    · rw [ents_succ]
      exact hy.2.trans (g6.append_right _)
    · show N - (x.2.2.2.2.1 + 1) < N - x.2.2.2.2.1; omega
    · ((conv => (arg 1; reduce)); with_reducible repeat' (first | exact Tr.yes_h | refine Tr.and_h ?_ ?_ | refine Tr.imp_h fun _ => ?_ | refine Tr.all_h fun _ => ?_ | refine Tr.lf_h ?_))
      all_goals (first | first | (show Region.lexB _ _ = true; kernel_rfl) | (show planned _ _ = true; kernel_rfl) | exact rfl | exact True.intro | ((try dsimp only [imp, C0, cInt2] at *); (try refine inR64 ?_ ?_) <;> (try simp only [List.length_set, List.length_append, List.length_take, List.length_drop]) <;> omega))
  · rename_i h64 pb hpb wb x hx hc
    have h64 := of_decide_eq_false h64
    rw [by4]
    omega
  · rename_i h64 pb hpb wb x hx hc sb
    have hc := of_decide_eq_false hc
    obtain ⟨g1, g2, g3, g4, g5, g6⟩ : i1 worn N x := hx
    have hiN : x.2.2.2.2.1 = N := by omega
    rw [hiN] at g1 g6
    refine Stands.next (Stands.one (x.1, x.2.1, x.2.2.1, x.2.2.2.1, 0, -1, List.replicate ((((N : Int).toNat : Nat) : Int).toNat) false) ⟨⟨by omega, g1, Nat.zero_le _, by simp, good_start g6 fun k => ?_, .inl rfl⟩, ?_⟩)
    · simp only [List.getD_eq_getElem?_getD, List.getElem?_replicate]; split <;> rfl
    · ((conv => (arg 1; reduce)); with_reducible repeat' (first | exact Tr.yes_h | refine Tr.and_h ?_ ?_ | refine Tr.imp_h fun _ => ?_ | refine Tr.all_h fun _ => ?_ | refine Tr.lf_h ?_))
      all_goals first | (first | first | (show Region.lexB _ _ = true; kernel_rfl) | (show planned _ _ = true; kernel_rfl) | exact rfl | exact True.intro | ((try dsimp only [imp, C0, cInt2] at *); (try refine inR64 ?_ ?_) <;> (try simp only [List.length_set, List.length_append, List.length_take, List.length_drop]) <;> omega)) | (show N - 0 = x.2.2.2.2.1; omega)
  · rename_i h64 pb hpb wb x1 h1 c1 sb x hx hc
    have h64 := of_decide_eq_false h64
    obtain ⟨q1, q2, q3, q4, q5, q6⟩ : i2 mst worn N x := hx
    exact ⟨q2, by omega⟩
  iterate 3 (focus (rename_i h64 pb hpb wb x1 h1 c1 sb x hx hc y hy d0; have hc := of_decide_eq_true hc; obtain ⟨r1, k, r2, r3, r4, r5, r6⟩ := round_t1 hx (by omega) hy; obtain ⟨g1, g2, g3, g4, g5, g6⟩ : i1 worn N x1 := h1; first | omega | (simp only [List.length_set, List.length_replicate]; omega)))
  · rename_i h64 pb hpb wb x1 h1 c1 sb x hx hc y hy d0
    have h64 := of_decide_eq_false h64
    have hc := of_decide_eq_true hc
    have c1 := of_decide_eq_false c1
    obtain ⟨r1, k, r2, r3, r4, r5, r6⟩ := round_t1 hx (by omega) hy
    obtain ⟨g1, g2, g3, g4, g5, g6⟩ : i1 worn N x1 := h1
    show HOK y.1 (N - x.2.2.2.2.1 - 1) _ ∧ N - x.2.2.2.2.1 - 1 < 1048576 ∧ 0 ≤ y.2.1 ∧ y.2.1 < 64 ∧ 0 ≤ x1.2.2.2.2.2.getD (y.2.1.toNat + 0) (C0 3).dflt ∧ x1.2.2.2.2.2.getD (y.2.1.toNat + 0) (C0 3).dflt ≤ 1073741824 ∧ ixf y.1 (N - x.2.2.2.2.1 - 1) y.2.1 = -1
    have e2 : x1.2.2.2.2.2.getD (y.2.1.toNat + 0) (C0 3).dflt = wv worn k := by rw [r3]; exact g5 k (by omega)
    have : 0 ≤ wv worn k ∧ wv worn k ≤ 1023 := mask_ok _
    rw [e2, r3]
    exact ⟨r4, by omega, by omega, by omega, this.1, by omega, r5⟩
  · rename_i h64 pb hpb wb x1 h1 c1 sb x hx hc y hy d0 z hz
    have h64 := of_decide_eq_false h64
    have hz : pushPost _ _ _ z := hz
    exact ⟨hz.1, by omega⟩
  iterate 3 (focus (rename_i h64 pb hpb wb x1 h1 c1 sb x hx hc y hy d0 z hz u hu d1; have hc := of_decide_eq_true hc; have c1 := of_decide_eq_false c1; obtain ⟨r1, k, r2, r3, r4, r5, r6, r7, r8⟩ := round_t h1 c1 hx (by omega) hy hz hu; obtain ⟨g1, g2, g3, g4, g5, g6⟩ : i1 worn N x1 := h1; obtain ⟨q1, q2, q3, q4, q5, q6⟩ : i2 mst worn N x := hx; (try have q7 : (0 : Int) ≤ _ := of_decide_eq_true ‹decide ((0 : Int) ≤ _) = true›); first | omega | (simp only [List.length_set, List.length_replicate]; omega)))
  · rename_i h64 pb hpb wb x1 h1 c1 sb x hx hc y hy d0 z hz u hu d1
    have hc := of_decide_eq_true hc
    have c1 := of_decide_eq_false c1
    obtain ⟨r1, k, r2, r3, r4, r5, r6, r7, r8⟩ := round_t h1 c1 hx (by omega) hy hz hu
    exfalso
    simp only [SB.val, r1, r3, Bool.or_eq_true, decide_eq_true_eq, Nat.add_zero, Int.toNat_natCast] at d1
    rcases d1 with ((d1 | d1) | d1) | d1
    · cases d1
    · omega
    · omega
    · have : x.2.2.2.2.2.2.getD k false = true := d1
      rw [r4] at this; cases this
  iterate 3 (focus (rename_i h64 pb hpb wb x1 h1 c1 sb x hx hc y hy d0 z hz u hu d1; have hc := of_decide_eq_true hc; have c1 := of_decide_eq_false c1; obtain ⟨r1, k, r2, r3, r4, r5, r6, r7, r8⟩ := round_t h1 c1 hx (by omega) hy hz hu; obtain ⟨g1, g2, g3, g4, g5, g6⟩ : i1 worn N x1 := h1; obtain ⟨q1, q2, q3, q4, q5, q6⟩ : i2 mst worn N x := hx; (try have q7 : (0 : Int) ≤ _ := of_decide_eq_true ‹decide ((0 : Int) ≤ _) = true›); first | omega | (simp only [List.length_set, List.length_replicate]; omega)))
  iterate 6 (focus (rename_i h64 pb hpb wb x1 h1 c1 sb x hx hc y hy d0 z hz u hu d1 d2; have hc := of_decide_eq_true hc; have c1 := of_decide_eq_false c1; obtain ⟨r1, k, r2, r3, r4, r5, r6, r7, r8⟩ := round_t h1 c1 hx (by omega) hy hz hu; obtain ⟨g1, g2, g3, g4, g5, g6⟩ : i1 worn N x1 := h1; obtain ⟨q1, q2, q3, q4, q5, q6⟩ : i2 mst worn N x := hx; (try have q7 : (0 : Int) ≤ _ := of_decide_eq_true ‹decide ((0 : Int) ≤ _) = true›); first | omega | (simp only [List.length_set, List.length_replicate]; omega)))
  iterate 6 (focus (rename_i h64 pb hpb wb x1 h1 c1 sb x hx hc y hy d0 z hz u hu d1 d2 d3; have hc := of_decide_eq_true hc; have c1 := of_decide_eq_false c1; obtain ⟨r1, k, r2, r3, r4, r5, r6, r7, r8⟩ := round_t h1 c1 hx (by omega) hy hz hu; obtain ⟨g1, g2, g3, g4, g5, g6⟩ : i1 worn N x1 := h1; obtain ⟨q1, q2, q3, q4, q5, q6⟩ : i2 mst worn N x := hx; (try have q7 : (0 : Int) ≤ _ := of_decide_eq_true ‹decide ((0 : Int) ≤ _) = true›); first | omega | (simp only [List.length_set, List.length_replicate]; omega)))
  · rename_i h64 pb hpb wb x1 h1 c1 sb x hx hc y hy d0 z hz u hu d1 d2
    have hc := of_decide_eq_true hc
    have c1 := of_decide_eq_false c1
    obtain ⟨r1, k, r2, r3, r4, r5, r6, r7, r8⟩ := round_t h1 c1 hx (by omega) hy hz hu
    obtain ⟨g1, g2, g3, g4, g5, g6⟩ : i1 worn N x1 := h1
    obtain ⟨q1, q2, q3, q4, q5, q6⟩ : i2 mst worn N x := hx
    exfalso
    simp only [SB.val, r3, Bool.and_eq_true, Bool.or_eq_true, decide_eq_true_eq, Nat.add_zero, Int.toNat_natCast] at d2
    have e1 : x1.2.2.2.2.2.getD k (C0 3).dflt = wv worn k := g5 k (by omega)
    have e2 : x1.2.2.2.2.2.getD x.2.2.2.2.2.1.toNat (C0 3).dflt = wv worn x.2.2.2.2.2.1.toNat := g5 _ (by omega)
    rw [e1, e2] at d2
    have r8 := mst_f.1 (r8 d2.1)
    have r8 : wv worn k < wv worn x.2.2.2.2.2.1.toNat ∨ (wv worn k = wv worn x.2.2.2.2.2.1.toNat ∧ x.2.2.2.2.2.1 ≤ (k : Int)) := r8
    have d2 : _ ∧ (wv worn x.2.2.2.2.2.1.toNat < wv worn k ∨ (wv worn x.2.2.2.2.2.1.toNat = wv worn k ∧ (k : Int) < x.2.2.2.2.2.1)) := d2
    omega
  · rename_i h64 pb hpb wb x1 h1 c1 sb x hx hc y hy d0 z hz u hu d1 d2
    have h64 := of_decide_eq_false h64
    have hc := of_decide_eq_true hc
    exact inR64 (by omega) (by omega)
  · rename_i h64 pb hpb wb x1 h1 c1 sb x hx hc y hy d0 z hz u hu d1 d2
    have hc := of_decide_eq_true hc
    have c1 := of_decide_eq_false c1
    obtain ⟨r1, k, r2, r3, r4, r5, r6, r7, r8⟩ := round_t h1 c1 hx (by omega) hy hz hu
    obtain ⟨q1, q2, q3, q4, q5, q6⟩ : i2 mst worn N x := hx
    have en : N - (x.2.2.2.2.1 + 1) = N - x.2.2.2.2.1 - 1 + 1 - 1 := by omega
    have ek : u.2.1.toNat = k := by omega
    refine Stands.next (Stands.one (z.1, z.2.1, u.1, z.2.2.2, x.2.2.2.2.1 + 1, u.2.1, x.2.2.2.2.2.2.set u.2.1.toNat true) ⟨⟨q1, ?_, by show x.2.2.2.2.1 + 1 ≤ N; omega, by simp [q4], ?_, .inr ⟨?_, ?_, ?_⟩⟩, ?_, ?_⟩)
    · show HOK u.1 (N - (x.2.2.2.2.1 + 1)) _
      rw [en]; exact r5
    · show good worn N u.1 (N - (x.2.2.2.2.1 + 1)) (x.2.2.2.2.2.2.set u.2.1.toNat true)
      rw [en, ek]; exact r6
    · show 0 ≤ u.2.1; omega
    · show u.2.1 < N; omega
    · show ∀ e ∈ u.1.take (N - (x.2.2.2.2.1 + 1)), mst e (u.2.1, wv worn u.2.1.toNat) = false
      rw [en, ek, r3]; exact r7
    · show N - (x.2.2.2.2.1 + 1) < N - x.2.2.2.2.1; omega
    · ((conv => (arg 1; reduce)); with_reducible repeat' (first | exact Tr.yes_h | refine Tr.and_h ?_ ?_ | refine Tr.imp_h fun _ => ?_ | refine Tr.all_h fun _ => ?_ | refine Tr.lf_h ?_))
      all_goals first | (first | first | (show Region.lexB _ _ = true; kernel_rfl) | (show planned _ _ = true; kernel_rfl) | exact rfl | exact True.intro | ((try dsimp only [imp, C0, cInt2] at *); (try refine inR64 ?_ ?_) <;> (try simp only [List.length_set, List.length_append, List.length_take, List.length_drop]) <;> omega)) | (show N - (x.2.2.2.2.1 + 1) = N - x.2.2.2.2.1 - 1 + 1 - 1; omega)
  · rename_i h64 pb hpb wb x1 h1 c1 sb x hx hc
    have hc := of_decide_eq_false hc
    obtain ⟨q1, q2, q3, q4, q5, q6⟩ : i2 mst worn N x := hx
    show decide (((N - x.2.2.2.2.1 : Nat) : Int) = 0) = true
    exact decide_eq_true (by omega)
end Go.Vx
