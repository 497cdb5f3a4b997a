/-
  Round 17: PoolSorts, what it computes.
  Conditions: none.
-/
import Derived.Test.YtncpjklejppdkaaDoorPoK
set_option maxRecDepth 100000
set_option linter.unusedVariables false
set_option linter.unusedSimpArgs false
namespace Go.Vx
open Go Go.Proofs

theorem mask_ok (x : Int) : 0 ≤ ibit .and .i64 x 1023 ∧ ibit .and .i64 x 1023 ≤ 1023 := by
  have h : ((BitVec.ofInt 64 x &&& BitVec.ofInt 64 1023).toNat : Nat) ≤ 1023 := by
    rw [BitVec.toNat_and]
    exact Nat.le_trans Nat.and_le_right (by decide)
  have e : ibit .and .i64 x 1023 = (((BitVec.ofInt 64 x &&& BitVec.ofInt 64 1023).toNat : Nat) : Int) := by
    have := inR64 (n := (((BitVec.ofInt 64 x &&& BitVec.ofInt 64 1023).toNat : Nat) : Int)) (by omega) (by omega)
    exact this
  omega

/-- How worn block k is. -/
abbrev wv (worn : List Int) (k : Nat) : Int := ibit .and .i64 (worn.getD k 0) 1023
def ents (worn : List Int) (n : Nat) : List Ent := (List.range n).map fun (k : Nat) => ((k : Int), wv worn k)
/-- What is in the heap: blocks not yet seen, each once. -/
def good (worn : List Int) (N : Nat) (l : List Ent) (n : Nat) (seen : List Bool) : Prop :=
  ((l.take n).map (·.1)).Nodup ∧ ∀ e ∈ l.take n, ∃ k, k < N ∧ e = ((k : Int), wv worn k) ∧ seen.getD k false = false

abbrev i1 (worn : List Int) (N : Nat) (x : Nat × Nat × List Ent × Nat × Nat × List Int) : Prop :=
  HOK x.2.2.1 x.2.2.2.2.1 x.2.2.2.1 ∧ 0 < x.2.2.2.2.1 ∧ x.2.2.2.2.1 ≤ N ∧ x.2.2.2.2.2.length = N ∧ (∀ k, k < x.2.2.2.2.1 → x.2.2.2.2.2.getD k 0 = wv worn k) ∧ (x.2.2.1.take x.2.2.2.2.1).Perm (ents worn x.2.2.2.2.1)
/-- The states of the first loop: no array as yet; one. -/
def I1a (N : Nat) : Inv' C0 := ⟨9, Unit, fun _ => [(8, .int .i64 0)], fun _ m => m, fun _ => True, fun _ => N + 1⟩
def I1b (worn : List Int) (N : Nat) : Inv' C0 := ⟨9, Nat × Nat × List Ent × Nat × Nat × List Int, fun x => [(8, .int .i64 x.2.2.2.2.1)],
  fun x m => match m with
    | [a, ⟨pb, pq, _, _, _, _⟩, ⟨wb, wq, _, _, _, _⟩] => [a, ⟨pb, pq, 1, true, none, .one [.sl 3 0 x.2.2.2.2.1 x.2.2.2.1]⟩, ⟨wb, wq, 1, true, none, .rows 3 x.2.2.2.2.2⟩, ⟨x.1, x.2.1, 2, true, none, .rows 60 x.2.2.1⟩]
    | _ => [], i1 worn N, fun x => N - x.2.2.2.2.1⟩
abbrev i2 (rel : Ent → Ent → Bool) (worn : List Int) (N : Nat) (x : Nat × Nat × List Ent × Nat × Nat × Int × List Bool) : Prop :=
  0 < N ∧ HOK x.2.2.1 (N - x.2.2.2.2.1) x.2.2.2.1 ∧ x.2.2.2.2.1 ≤ N ∧ x.2.2.2.2.2.2.length = N ∧ good worn N x.2.2.1 (N - x.2.2.2.2.1) x.2.2.2.2.2.2 ∧
   (x.2.2.2.2.2.1 = -1 ∨ (0 ≤ x.2.2.2.2.2.1 ∧ x.2.2.2.2.2.1 < N ∧ ∀ e ∈ x.2.2.1.take (N - x.2.2.2.2.1), rel e (x.2.2.2.2.2.1, wv worn x.2.2.2.2.2.1.toNat) = false))
def I2a (N : Nat) : Inv' C0 := ⟨17, Unit, fun _ => [(11, .int .i64 0), (10, .int .i64 (-1))], fun _ m => m, fun _ => N = 0, fun _ => 0⟩
def I2b (rel : Ent → Ent → Bool) (worn : List Int) (N : Nat) : Inv' C0 := ⟨17, Nat × Nat × List Ent × Nat × Nat × Int × List Bool, fun x => [(11, .int .i64 x.2.2.2.2.1), (10, .int .i64 x.2.2.2.2.2.1)],
  fun x m => match m with
    | [a, ⟨pb, pq, _, _, _, _⟩, w, _, ⟨sb, sq, _, _, _, _⟩] => [a, ⟨pb, pq, 1, true, none, .one [.sl 3 0 (N - x.2.2.2.2.1) x.2.2.2.1]⟩, w, ⟨x.1, x.2.1, 2, true, none, .rows 60 x.2.2.1⟩, ⟨sb, sq, 1, true, none, .rows 4 x.2.2.2.2.2.2⟩]
    | _ => [], i2 rel worn N, fun x => N - x.2.2.2.2.1⟩

theorem by3 : Tryd.prog.types[3].bytes = 8 := by kernel_rfl
theorem by4 : Tryd.prog.types[4].bytes = 1 := by kernel_rfl
theorem ents_succ (worn : List Int) (n : Nat) : ents worn (n + 1) = ents worn n ++ [((n : Int), wv worn n)] := by
  simp [ents, List.range_succ]
theorem ents_mem {worn : List Int} {n : Nat} {e : Ent} (h : e ∈ ents worn n) : ∃ k, k < n ∧ e = ((k : Int), wv worn k) := by
  simp only [ents, List.mem_map, List.mem_range] at h
  obtain ⟨k, hk, rfl⟩ := h
  exact ⟨k, hk, rfl⟩
theorem ents_keys (worn : List Int) (n : Nat) : ((ents worn n).map (·.1)).Nodup := by
  have : (ents worn n).map (·.1) = (List.range n).map (fun (k : Nat) => (k : Int)) := by simp [ents]
  rw [this]
  exact List.Pairwise.map _ (fun a b h e => h (Int.ofNat.inj e)) List.nodup_range
theorem good_start {worn : List Int} {N : Nat} {l : List Ent} {seen : List Bool} (h : (l.take N).Perm (ents worn N)) (hs : ∀ k, seen.getD k false = false) : good worn N l N seen := by
  refine ⟨(h.map _).nodup_iff.2 (ents_keys worn N), fun e he => ?_⟩
  obtain ⟨k, hk, e1⟩ := ents_mem (h.mem_iff.1 he)
  exact ⟨k, hk, e1, hs k⟩
/-- One is taken. -/
theorem good_take {worn : List Int} {N n : Nat} {l l' : List Ent} {seen : List Bool} {e : Ent} (h : good worn N l n seen) (hp : (l.take n).Perm (e :: l'.take (n - 1))) :
    ∃ k, k < N ∧ e = ((k : Int), wv worn k) ∧ seen.getD k false = false ∧ good worn N l' (n - 1) (seen.set k true) := by
  obtain ⟨h1, h2⟩ := h
  obtain ⟨k, hk, e1, e2⟩ := h2 e (hp.mem_iff.2 (by simp))
  refine ⟨k, hk, e1, e2, ?_, fun a ha => ?_⟩
  · have := (hp.map (·.1)).nodup_iff.1 h1
    simp only [List.map_cons, List.nodup_cons] at this
    exact this.2
  · obtain ⟨j, hj, a1, a2⟩ := h2 a (hp.mem_iff.2 (by simp [ha]))
    refine ⟨j, hj, a1, ?_⟩
    have hne : k ≠ j := by
      rintro rfl
      have := (hp.map (·.1)).nodup_iff.1 h1
      simp only [List.map_cons, List.nodup_cons] at this
      refine this.1 (List.mem_map.2 ⟨a, ha, ?_⟩)
      rw [a1, e1]
    rw [List.getD_eq_getElem?_getD, List.getElem?_set_ne hne, ← List.getD_eq_getElem?_getD]
    exact a2

/-- A round of the second loop, not turned. -/
theorem round_f {worn : List Int} {N : Nat} {x : Nat × Nat × List Ent × Nat × Nat × Int × List Bool} {y : List Ent × Int × Bool} (h : i2 bef worn N x) (hi : x.2.2.2.2.1 < N) (ht : takePost First x.2.2.1 (N - x.2.2.2.2.1) x.2.2.2.1 y) :
    y.2.2 = true ∧ ∃ k, k < N ∧ y.2.1 = (k : Int) ∧ x.2.2.2.2.2.2.getD k false = false ∧ HOK y.1 (N - x.2.2.2.2.1 - 1) x.2.2.2.1 ∧ good worn N y.1 (N - x.2.2.2.2.1 - 1) (x.2.2.2.2.2.2.set k true) ∧
      (∀ e ∈ y.1.take (N - x.2.2.2.2.1 - 1), bef e ((k : Int), wv worn k) = false) ∧ (0 ≤ x.2.2.2.2.2.1 → bef ((k : Int), wv worn k) (x.2.2.2.2.2.1, wv worn x.2.2.2.2.2.1.toNat) = false) := by
  obtain ⟨h0, h1, h2, h3, h4, h5⟩ := h
  obtain ⟨t1, t2, e, t3, t4, t5⟩ := takeP ht (by omega)
  obtain ⟨k, hk, e1, e2, e3⟩ := good_take h4 t5
  subst e1
  refine ⟨t1, k, hk, t4, e2, t2, e3, fun a ha => ?_, fun h0 => ?_⟩
  · exact first_all h1.lt (List.Perm.refl _) t3 a (t5.mem_iff.2 (by simp [ha]))
  · rcases h5 with h5 | ⟨_, _, h5⟩
    · omega
    · exact h5 _ (t5.mem_iff.2 (by simp))

theorem getD_set_self {α : Type} {l : List α} {i : Nat} {v d : α} (h : i < l.length) : (l.set i v).getD i d = v := by
  simp [List.getD_eq_getElem?_getD, h]
theorem getD_set_ne {α : Type} {l : List α} {i j : Nat} {v d : α} (h : i ≠ j) : (l.set i v).getD j d = l.getD j d := by
  simp [List.getD_eq_getElem?_getD, List.getElem?_set_ne h]

set_option maxHeartbeats 4000000 in
theorem sorts_f (b0 base0 : Nat) (worn : List Int) (N m : Nat) (hN : N ≤ worn.length) :
    Tells (C := C0) Tryd.prog (.fn 3) [⟨b0, base0, 1, false, none, .rows 3 worn⟩] [.sl 0 0 N m, .bool .f] (.bool .t) := by
  refine loc_pc (P := Tryd.prog) (E := ⟨[fcNew, fcAdd, fcAdd0, fcTake, fcTake0, fcMost, fcMost0], [pcFirst, pcPlen, pcPlen0], 169, []⟩)
    (L := [I1a N, I1b worn N, I2a N, I2b bef worn N]) mix Tryd.func3 rfl (by kernel_rfl) (by kernel_rfl) rfl rfl ?_
  ((conv => (arg 1; reduce)); with_reducible repeat' (first | exact Tr.yes_h | refine Tr.and_h ?_ ?_ | refine Tr.imp_h fun _ => ?_ | refine Tr.all_h fun _ => ?_ | refine Tr.lf_h ?_))
  all_goals try first | (show Region.lexB _ _ = true; kernel_rfl) | (show planned _ _ = true; kernel_rfl) | exact rfl | exact True.intro
  -- paths that no run takes
  all_goals try (exfalso; have h1 : N = 0 := ‹(I2a N).inv _›; have h2 : i1 worn N _ := ‹(I1b worn N).inv _›; have := h2.2.1; have := h2.2.2.1; omega)
  all_goals try (exfalso; have h2 : i2 bef worn N _ := ‹(I2b bef worn N).inv _›; have h3 : ¬ ((0 : Int) < (N : Int)) := of_decide_eq_false ‹decide ((0 : Int) < (N : Int)) = false›; have := h2.1; omega)
  all_goals try (exfalso; have h1 : N = 0 := ‹(I2a N).inv _›; have h3 : (0 : Int) < _ := of_decide_eq_true ‹decide ((0 : Int) < (((N : Int).toNat : Nat) : Int)) = true›; omega)
  -- numbers
  all_goals try (have h3 : (0 : Int) < _ := of_decide_eq_true ‹decide ((0 : Int) < (N : Int)) = true›; (first | omega | (simp only [List.length_set, List.length_replicate]; omega)))
  all_goals try (obtain ⟨g1, g2, g3, g4, g5, g6⟩ : i1 worn N _ := ‹(I1b worn N).inv _›; have h3 : _ < (N : Int) := of_decide_eq_true ‹decide (_ < (N : Int)) = true›; (first | omega | (simp only [List.length_set, List.length_replicate]; omega)))
  all_goals try (have hx : i2 bef worn N _ := ‹(I2b bef worn N).inv _›; have h3 : _ < (((N : Int).toNat : Nat) : Int) := of_decide_eq_true ‹decide (_ < (((N : Int).toNat : Nat) : Int)) = true›; obtain ⟨r1, k, r2, r3, r4, r5, r6, r7, r8⟩ := round_f hx (by omega) ‹takePost First _ _ _ _›; obtain ⟨g1, g2, g3, g4, g5, g6⟩ : i1 worn N _ := ‹(I1b worn N).inv _›; obtain ⟨q1, q2, q3, q4, q5, q6⟩ := hx; (try have q7 : (0 : Int) ≤ _ := of_decide_eq_true ‹decide ((0 : Int) ≤ _) = true›); (first | omega | (simp only [List.length_set, List.length_replicate]; omega)))
  · rename_i h64 pb hpb
    have h64 := of_decide_eq_false h64
    rw [by3]
    omega
  · refine Stands.one () ⟨trivial, ?_⟩
    ((conv => (arg 1; reduce)); with_reducible repeat' (first | exact Tr.yes_h | refine Tr.and_h ?_ ?_ | refine Tr.imp_h fun _ => ?_ | refine Tr.all_h fun _ => ?_ | refine Tr.lf_h ?_))
    all_goals (first | first | (show Region.lexB _ _ = true; kernel_rfl) | (show planned _ _ = true; kernel_rfl) | exact rfl | exact True.intro | ((try dsimp only [imp, C0, cInt2] at *); (try refine inR64 ?_ ?_) <;> (try simp only [List.length_set, List.length_append, List.length_take, List.length_drop]) <;> omega))
  · rename_i h64 pb hpb wb x hx hc
    have hc := of_decide_eq_true hc
    show (0 : Int) ≤ 0 ∧ (0 : Int) < 64 ∧ 0 ≤ ((List.replicate (N : Int).toNat (0 : Int)).set 0 (wv worn 0)).getD 0 0 ∧ ((List.replicate (N : Int).toNat (0 : Int)).set 0 (wv worn 0)).getD 0 0 ≤ 1073741824
    rw [getD_set_self (by simp; omega)]
    have : 0 ≤ wv worn 0 ∧ wv worn 0 ≤ 1023 := mask_ok _
    exact ⟨by decide, by decide, this.1, by omega⟩
  · rename_i h64 pb hpb wb x hx hc y hy
    have hc := of_decide_eq_true hc
    have e : ((List.replicate (N : Int).toNat (0 : Int)).set 0 (wv worn 0)).getD 0 0 = wv worn 0 := getD_set_self (by simp; omega)
    have hy : push0Post (0, ((List.replicate (N : Int).toNat (0 : Int)).set 0 (wv worn 0)).getD 0 0) y := hy
    rw [e] at hy
    refine Stands.next (Stands.one (y.1, 0, y.2.1, y.2.2, 1, (List.replicate (N : Int).toNat (0 : Int)).set 0 (wv worn 0)) ⟨⟨hy.1, Nat.one_pos, by show 1 ≤ N; omega, by simp, fun k hk => ?_, hy.2⟩, ?_, ?_⟩)
    · have : k = 0 := by have : k < 1 := hk; omega
      rw [this]; exact e
    · show N - 1 < N + 1; omega
    · ((conv => (arg 1; reduce)); with_reducible repeat' (first | exact Tr.yes_h | refine Tr.and_h ?_ ?_ | refine Tr.imp_h fun _ => ?_ | refine Tr.all_h fun _ => ?_ | refine Tr.lf_h ?_))
      all_goals (first | first | (show Region.lexB _ _ = true; kernel_rfl) | (show planned _ _ = true; kernel_rfl) | exact rfl | exact True.intro | ((try dsimp only [imp, C0, cInt2] at *); (try refine inR64 ?_ ?_) <;> (try simp only [List.length_set, List.length_append, List.length_take, List.length_drop]) <;> omega))
  · rename_i h64 pb hpb wb x hx hc
    have h64 := of_decide_eq_false h64
    rw [by4]
    omega
  · rename_i h64 pb hpb wb x hx hc sb
    have hc := of_decide_eq_false hc
    refine Stands.one () ⟨?_, ?_⟩
    · show N = 0; omega
    · ((conv => (arg 1; reduce)); with_reducible repeat' (first | exact Tr.yes_h | refine Tr.and_h ?_ ?_ | refine Tr.imp_h fun _ => ?_ | refine Tr.all_h fun _ => ?_ | refine Tr.lf_h ?_))
      all_goals (first | first | (show Region.lexB _ _ = true; kernel_rfl) | (show planned _ _ = true; kernel_rfl) | exact rfl | exact True.intro | ((try dsimp only [imp, C0, cInt2] at *); (try refine inR64 ?_ ?_) <;> (try simp only [List.length_set, List.length_append, List.length_take, List.length_drop]) <;> omega))
  · rename_i h64 pb hpb wb x hx hc
    have h64 := of_decide_eq_false h64
    have hc := of_decide_eq_true hc
    obtain ⟨g1, g2, g3, g4, g5, g6⟩ : i1 worn N x := hx
    show HOK x.2.2.1 x.2.2.2.2.1 x.2.2.2.1 ∧ x.2.2.2.2.1 < 1048576 ∧ (0 : Int) ≤ x.2.2.2.2.1 ∧ (x.2.2.2.2.1 : Int) < 64 ∧ 0 ≤ (x.2.2.2.2.2.set ((x.2.2.2.2.1 : Int).toNat) (wv worn ((x.2.2.2.2.1 : Int).toNat))).getD ((x.2.2.2.2.1 : Int).toNat) 0 ∧ (x.2.2.2.2.2.set ((x.2.2.2.2.1 : Int).toNat) (wv worn ((x.2.2.2.2.1 : Int).toNat))).getD ((x.2.2.2.2.1 : Int).toNat) 0 ≤ 1073741824 ∧ ixf x.2.2.1 x.2.2.2.2.1 x.2.2.2.2.1 = -1
    rw [Int.toNat_natCast, getD_set_self (by omega)]
    have : 0 ≤ wv worn x.2.2.2.2.1 ∧ wv worn x.2.2.2.2.1 ≤ 1023 := mask_ok _
    refine ⟨g1, by omega, by omega, by omega, this.1, by omega, ixf_absent g1.lt g6 fun e he => ?_⟩
    obtain ⟨k, hk, rfl⟩ := ents_mem he
    show (k : Int) ≠ _
    omega
  · rename_i h64 pb hpb wb x hx hc y hy
    have h64 := of_decide_eq_false h64
    have hc := of_decide_eq_true hc
    exact inR64 (by omega) (by omega)
  · rename_i h64 pb hpb wb x hx hc y hy
    have hc := of_decide_eq_true hc
    obtain ⟨g1, g2, g3, g4, g5, g6⟩ : i1 worn N x := hx
    have hy : pushPost x.2.2.1 x.2.2.2.2.1 ((x.2.2.2.2.1 : Int), (x.2.2.2.2.2.set ((x.2.2.2.2.1 : Int).toNat) (wv worn ((x.2.2.2.2.1 : Int).toNat))).getD ((x.2.2.2.2.1 : Int).toNat) 0) y := hy
    rw [Int.toNat_natCast, getD_set_self (by omega)] at hy
    refine Stands.next (Stands.one (y.1, y.2.1, y.2.2.1, y.2.2.2, x.2.2.2.2.1 + 1, x.2.2.2.2.2.set x.2.2.2.2.1 (wv worn x.2.2.2.2.1)) ⟨⟨hy.1, Nat.succ_pos _, by show x.2.2.2.2.1 + 1 ≤ N; omega, by simp [g4], fun k hk => ?_, ?_⟩, ?_, ?_⟩)
    · have hk : k < x.2.2.2.2.1 + 1 := hk
      show (x.2.2.2.2.2.set x.2.2.2.2.1 (wv worn x.2.2.2.2.1)).getD k 0 = wv worn k
      by_cases e : x.2.2.2.2.1 = k
      · subst e; rw [getD_set_self (by omega)]
      · rw [getD_set_ne e]; exact g5 k (by omega)
    · rw [ents_succ]
      exact hy.2.trans (g6.append_right _)
    · show N - (x.2.2.2.2.1 + 1) < N - x.2.2.2.2.1; omega
    · ((conv => (arg 1; reduce)); with_reducible repeat' (first | exact Tr.yes_h | refine Tr.and_h ?_ ?_ | refine Tr.imp_h fun _ => ?_ | refine Tr.all_h fun _ => ?_ | refine Tr.lf_h ?_))
      all_goals (first | first | (show Region.lexB _ _ = true; kernel_rfl) | (show planned _ _ = true; kernel_rfl) | exact rfl | exact True.intro | ((try dsimp only [imp, C0, cInt2] at *); (try refine inR64 ?_ ?_) <;> (try simp only [List.length_set, List.length_append, List.length_take, List.length_drop]) <;> omega))
  · rename_i h64 pb hpb wb x hx hc
    have h64 := of_decide_eq_false h64
    rw [by4]
    omega
  · rename_i h64 pb hpb wb x hx hc sb
    have hc := of_decide_eq_false hc
    obtain ⟨g1, g2, g3, g4, g5, g6⟩ : i1 worn N x := hx
    have hiN : x.2.2.2.2.1 = N := by omega
    rw [hiN] at g1 g6
    refine Stands.next (Stands.one (x.1, x.2.1, x.2.2.1, x.2.2.2.1, 0, -1, List.replicate ((((N : Int).toNat : Nat) : Int).toNat) false) ⟨⟨by omega, g1, Nat.zero_le _, by simp, good_start g6 fun k => ?_, .inl rfl⟩, ?_⟩)
    · simp only [List.getD_eq_getElem?_getD, List.getElem?_replicate]; split <;> rfl
    · ((conv => (arg 1; reduce)); with_reducible repeat' (first | exact Tr.yes_h | refine Tr.and_h ?_ ?_ | refine Tr.imp_h fun _ => ?_ | refine Tr.all_h fun _ => ?_ | refine Tr.lf_h ?_))
      all_goals first | (first | first | (show Region.lexB _ _ = true; kernel_rfl) | (show planned _ _ = true; kernel_rfl) | exact rfl | exact True.intro | ((try dsimp only [imp, C0, cInt2] at *); (try refine inR64 ?_ ?_) <;> (try simp only [List.length_set, List.length_append, List.length_take, List.length_drop]) <;> omega)) | (show N - 0 = x.2.2.2.2.1; omega)
  · rename_i h64 pb hpb wb x1 h1 c1 sb x hx hc
    have h64 := of_decide_eq_false h64
    obtain ⟨q1, q2, q3, q4, q5, q6⟩ : i2 bef worn N x := hx
    exact ⟨q2, by omega⟩
  · rename_i h64 pb hpb wb x1 h1 c1 sb x hx hc y hy d1
    have hc := of_decide_eq_true hc
    obtain ⟨r1, k, r2, r3, r4, r5, r6, r7, r8⟩ := round_f hx (by omega) hy
    exfalso
    simp only [SB.val, r1, r3, Bool.or_eq_true, decide_eq_true_eq, Nat.add_zero, Int.toNat_natCast] at d1
    rcases d1 with ((d1 | d1) | d1) | d1
    · cases d1
    · omega
    · omega
    · have : x.2.2.2.2.2.2.getD k false = true := d1
      rw [r4] at this; cases this
  · rename_i h64 pb hpb wb x1 h1 c1 sb x hx hc y hy d1 d2
    have hc := of_decide_eq_true hc
    have c1 := of_decide_eq_false c1
    obtain ⟨r1, k, r2, r3, r4, r5, r6, r7, r8⟩ := round_f hx (by omega) hy
    obtain ⟨g1, g2, g3, g4, g5, g6⟩ : i1 worn N x1 := h1
    obtain ⟨q1, q2, q3, q4, q5, q6⟩ : i2 bef worn N x := hx
    exfalso
    simp only [SB.val, r3, Bool.and_eq_true, Bool.or_eq_true, decide_eq_true_eq, Nat.add_zero, Int.toNat_natCast] at d2
    have e1 : x1.2.2.2.2.2.getD k (C0 3).dflt = wv worn k := g5 k (by omega)
    have e2 : x1.2.2.2.2.2.getD x.2.2.2.2.2.1.toNat (C0 3).dflt = wv worn x.2.2.2.2.2.1.toNat := g5 _ (by omega)
    rw [e1, e2] at d2
    have r8 := bef_f.1 (r8 d2.1)
    have r8 : wv worn x.2.2.2.2.2.1.toNat < wv worn k ∨ (wv worn k = wv worn x.2.2.2.2.2.1.toNat ∧ x.2.2.2.2.2.1 ≤ (k : Int)) := r8
    have d2 : _ ∧ (wv worn k < wv worn x.2.2.2.2.2.1.toNat ∨ (wv worn x.2.2.2.2.2.1.toNat = wv worn k ∧ (k : Int) < x.2.2.2.2.2.1)) := d2
    omega
  · rename_i h64 pb hpb wb x1 h1 c1 sb x hx hc y hy d1 d2
    have h64 := of_decide_eq_false h64
    have hc := of_decide_eq_true hc
    exact inR64 (by omega) (by omega)
  · rename_i h64 pb hpb wb x1 h1 c1 sb x hx hc y hy d1 d2
    have hc := of_decide_eq_true hc
    obtain ⟨r1, k, r2, r3, r4, r5, r6, r7, r8⟩ := round_f hx (by omega) hy
    obtain ⟨q1, q2, q3, q4, q5, q6⟩ : i2 bef worn N x := hx
    have en : N - (x.2.2.2.2.1 + 1) = N - x.2.2.2.2.1 - 1 := by omega
    have ek : y.2.1.toNat = k := by omega
    refine Stands.next (Stands.one (x.1, x.2.1, y.1, x.2.2.2.1, x.2.2.2.2.1 + 1, y.2.1, x.2.2.2.2.2.2.set y.2.1.toNat true) ⟨⟨q1, ?_, by show x.2.2.2.2.1 + 1 ≤ N; omega, by simp [q4], ?_, .inr ⟨?_, ?_, ?_⟩⟩, ?_, ?_⟩)
    · show HOK y.1 (N - (x.2.2.2.2.1 + 1)) _
      rw [en]; exact r5
    · show good worn N y.1 (N - (x.2.2.2.2.1 + 1)) (x.2.2.2.2.2.2.set y.2.1.toNat true)
      rw [en, ek]; exact r6
    · show 0 ≤ y.2.1; omega
    · show y.2.1 < N; omega
    · show ∀ e ∈ y.1.take (N - (x.2.2.2.2.1 + 1)), bef e (y.2.1, wv worn y.2.1.toNat) = false
      rw [en, ek, r3]; exact r7
    · show N - (x.2.2.2.2.1 + 1) < N - x.2.2.2.2.1; omega
    · ((conv => (arg 1; reduce)); with_reducible repeat' (first | exact Tr.yes_h | refine Tr.and_h ?_ ?_ | refine Tr.imp_h fun _ => ?_ | refine Tr.all_h fun _ => ?_ | refine Tr.lf_h ?_))
      all_goals first | (first | first | (show Region.lexB _ _ = true; kernel_rfl) | (show planned _ _ = true; kernel_rfl) | exact rfl | exact True.intro | ((try dsimp only [imp, C0, cInt2] at *); (try refine inR64 ?_ ?_) <;> (try simp only [List.length_set, List.length_append, List.length_take, List.length_drop]) <;> omega)) | (show N - (x.2.2.2.2.1 + 1) = N - x.2.2.2.2.1 - 1; omega)
  · rename_i h64 pb hpb wb x1 h1 c1 sb x hx hc
    have hc := of_decide_eq_false hc
    obtain ⟨q1, q2, q3, q4, q5, q6⟩ : i2 bef worn N x := hx
    show decide (((N - x.2.2.2.2.1 : Nat) : Int) = 0) = true
    exact decide_eq_true (by omega)
end Go.Vx
