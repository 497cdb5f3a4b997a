/-
  Round 23: the point of bytes, az the document has it.
  Conditions: none.
-/
import Derived.Test.YtmdnpfocihfkdaaDoorM5
import Derived.Test.YtmdnpfocihfkdaaDoorM6
import Derived.Test.YtmdnpfocihfkdaaDoorM7
set_option linter.unusedSectionVars false
set_option maxRecDepth 100000
set_option linter.unusedVariables false
set_option linter.unusedSimpArgs false
namespace Go.Vx
open Go Go.Proofs
variable [Gl]

theorem by3 : Tryd.prog.types[3].bytes = 8 := by kernel_rfl
theorem isPt_cnt {bv : List Int} {h : Hd} {A : List Pl} {B : List Slot} (hp : IsPt bv h A B) (hl : bv.length < 4294967296) : (nsOf bv).getD 4 0 = (nB (nsOf bv) : Nat) ∧ (nsOf bv).getD (5 + 2 * nB (nsOf bv)) 0 = (nS (nsOf bv) : Nat) := by
  rw [(isPt_facts hp hl).2.1, nB_nums, nS_nums]
  have e1 : ∀ A : List Pl, (A.flatMap lst).length = 2 * A.length := by
    intro A
    induction A with
    | nil => rfl
    | cons x r ih => rw [List.flatMap_cons, List.length_append, ih]; simp [lst]; omega
  refine ⟨by unfold nums; rfl, ?_⟩
  unfold nums
  rw [List.getD_eq_getElem?_getD, List.append_assoc, List.getElem?_append_right (by simp [e1]; omega)]
  have : 5 + 2 * A.length - ([h.1, h.2.1, h.2.2.1, h.2.2.2, (A.length : Int)] ++ A.flatMap lst).length = 0 := by simp [e1]; omega
  rw [this]; rfl
theorem nB_of {R : List Int} (h6 : 6 ≤ R.length) (h0 : 0 ≤ R.getD 4 0) (h : R.getD 4 0 ≤ ((R.length : Int) - 6) / 2) : R.getD 4 0 = (nB R : Nat) ∧ 6 + 2 * nB R ≤ R.length := by
  have e : nB R = min (R.getD 4 0).toNat ((R.length - 3) / 2) := by unfold nB; rfl
  omega
theorem nS_of {R : List Int} (h6 : 6 + 2 * nB R ≤ R.length) (h0 : 0 ≤ R.getD (5 + 2 * nB R) 0) (h : 6 + 2 * (nB R : Int) + 9 * R.getD (5 + 2 * nB R) 0 = R.length) : R.getD (5 + 2 * nB R) 0 = (nS R : Nat) ∧ 6 + 2 * nB R + 9 * nS R = R.length := by
  have e : nS R = min (R.getD (5 + 2 * nB R) 0).toNat ((R.length + 9 - (6 + 2 * nB R)) / 9) := by unfold nS; rfl
  omega
def Ro5 (R : List Int) : Inv' C0 := ⟨5, Gx Int, fun x => [(5, .int .i64 (4 * (x.1 : Int))), (4, .sl 2 0 x.1 x.2.2.2.2.2)], fun x m => match m with
  | [a, rs] => [a, rs, ⟨x.2.2.1, x.2.2.2.1, 1, true, some x.2.1, .rows 3 x.2.2.2.2.1⟩]
  | m => m, fun x => x.1 ≤ R.length ∧ Grw (R.take x.1) x.2.2.2.2.1 x.2.1 x.1 x.2.2.2.2.2, fun x => R.length - x.1⟩
def Ro14 (R : List Int) : Inv' C0 := ⟨14, Gx (Rw Int), fun x => [(9, .int .i64 (x.1 : Int)), (8, .int .i64 (5 + 2 * (x.1 : Int)))], fun x m => match m with
  | [a, rs, y, p] => [a, rs, y, ⟨p.block, p.base, 6, true, none, .one (hdE (hdR R) (.sl 4 0 x.1 x.2.2.2.2.2) .nils)⟩, ⟨x.2.2.1, x.2.2.2.1, 1, true, some x.2.1, .rows 71 x.2.2.2.2.1⟩]
  | m => m, fun x => x.1 ≤ nB R ∧ Grw (x.2.2.2.2.1.take x.1) x.2.2.2.2.1 x.2.1 x.1 x.2.2.2.2.2 ∧ (x.2.2.2.2.1.take x.1).map (·.l) = (blks R x.1).map lst ∧ ∀ r ∈ x.2.2.2.2.1.take x.1, Rok r, fun x => nB R - x.1⟩
def Ro23 (R : List Int) : Inv' C0 := ⟨23, Gx Slot, fun x => [(11, .int .i64 (x.1 : Int)), (8, .int .i64 (6 + 2 * (nB R : Int) + 9 * (x.1 : Int)))], fun x m => match m with
  | [a, rs, y, p, bl] => match p.cells with
    | .one [_, _, _, _, sb, _] => [a, rs, y, ⟨p.block, p.base, 6, true, none, .one (hdE (hdR R) sb (.sl 5 0 x.1 x.2.2.2.2.2))⟩, bl, ⟨x.2.2.1, x.2.2.2.1, 9, true, some x.2.1, .rows 74 x.2.2.2.2.1⟩]
    | _ => m
  | m => m, fun x => x.1 ≤ nS R ∧ Grw (slts R x.1) x.2.2.2.2.1 x.2.1 x.1 x.2.2.2.2.2, fun x => nS R - x.1⟩
set_option maxHeartbeats 16000000 in
theorem ropen_ok (o : Bool) (b q : Nat) (l : List Int) (i n c : Nat) (h1 : n ≤ c) (h2 : i + c ≤ l.length) (h3 : n < 140737488355000) (ho : o = false → n = 0 ∧ c = 0) (hb : Bys ((l.drop i).take n)) (hn : n ≤ 1000000) :
    Does (C := C0) Tryd.prog (.fn 17) [⟨b, q, 1, false, some o, .rows 5 l⟩] [.sl 0 i n c]
    [⟨Unit, fun _ => ∀ h A B, ¬ IsPt ((l.drop i).take n) h A B, fun _ => .tup [ptv (0, 0, 0, 0) .nils .nils, .bool .f], fun _ => [⟨b, q, 1, false, some o, .rows 5 l⟩]⟩,
     ⟨Hd × (Bool × Nat × Nat × List (Rw Int) × Nat × Nat) × (Bool × Nat × Nat × List Slot × Nat × Nat), fun y => IsPt ((l.drop i).take n) y.1 ((y.2.1.2.2.2.1.take y.2.1.2.2.2.2.1).map blkOf) (y.2.2.2.2.2.1.take y.2.2.2.2.2.2.1) ∧ Sq.ok y.2.1 ∧ Sq.ok y.2.2 ∧ ∀ r ∈ y.2.1.2.2.2.1.take y.2.1.2.2.2.2.1, Rok r ∧ r.l.length = 2,
      fun y => .tup [ptv y.1 (.sl 1 0 y.2.1.2.2.2.2.1 y.2.1.2.2.2.2.2) (.sl 2 0 y.2.2.2.2.2.2.1 y.2.2.2.2.2.2.2), .bool .t],
      fun y => [⟨b, q, 1, false, some o, .rows 5 l⟩, ⟨y.2.1.2.1, y.2.1.2.2.1, 1, true, some y.2.1.1, .rows 71 y.2.1.2.2.2.1⟩, ⟨y.2.2.2.1, y.2.2.2.2.1, 9, true, some y.2.2.1, .rows 74 y.2.2.2.2.2.1⟩]⟩] := by
  have hbl : ((l.drop i).take n).length = n := rows_len (by omega)
  have hRl : (nsOf ((l.drop i).take n)).length = (n - 4) / 4 := by rw [nsOf_len, hbl]
  refine loc_fn (P := Tryd.prog) (E := ⟨[], [pcNum, pcRcrc, pcRpmay], 184, [(8, [2], [.p 0, .p 1, .p 2, .p 3, .p 4, .p 5, .p 6, .p 7, .p 8, .p 9, .p 10, .p 11, .p 12, .e 13, .e 14]),
    (16, [2, 3], [.p 0, .p 1, .p 2, .p 3, .p 4, .p 5, .p 6, .p 7, .p 8, .p 9, .p 10, .e 11, .e 12, .e 13, .p 14, .f 15]),
    (25, [2], [.p 0, .p 1, .p 2, .p 3, .p 4, .p 5, .p 6, .p 7, .p 8, .p 9, .p 10, .p 11, .p 12, .p 13, .p 14, .p 15, .e 16, .e 17]),
    (26, [2], [.p 0, .p 1, .p 2, .p 3, .p 4, .p 5, .p 6, .p 7, .p 8, .p 9, .p 10, .p 11, .p 12, .p 13, .p 14, .p 15, .p 16, .p 17, .p 18, .p 19, .p 20, .p 21, .p 22, .p 23, .p 24, .p 25, .p 26, .p 27, .p 28, .p 29, .p 30, .p 31, .e 32])], [], [wI]⟩)
    (L := [Ro5 (nsOf ((l.drop i).take n)), Ro14 (nsOf ((l.drop i).take n)), Ro23 (nsOf ((l.drop i).take n))]) mix Tryd.func17 rfl (by kernel_rfl) (by kernel_rfl) rfl rfl ?_
  ((conv => (arg 1; reduce)); with_reducible repeat' (first | exact Tr.yes_h | refine Tr.and_h ?_ ?_ | refine Tr.imp_h fun _ => ?_ | refine Tr.all_h fun _ => ?_ | refine Tr.lf_h ?_))
  all_goals try (first | first | (show Region.lexB _ _ = true; kernel_rfl) | (show planned _ _ = true; kernel_rfl) | exact rfl | exact True.intro | ((try dsimp only [imp, C0, cG, cInt, cPl, cSlot, cPg, rwCodec, cRaw] at *); (try refine inR64 ?_ ?_) <;> (try simp only [List.length_set, List.length_append, List.length_take, List.length_drop]) <;> omega))
  · rename_i b0 h4
    have h4 : (decide ((n : Int) < 28) || decide ((n : Int).tmod 4 ≠ 0)) = false := h4
    rw [Int.tmod_eq_emod_of_nonneg (show (0 : Int) ≤ (n : Int) by omega)] at h4
    simp only [Bool.or_eq_false_iff, decide_eq_false_iff_not] at h4
    have h28 : 28 ≤ n := by omega
    have e4 : ((n : Int) - 4).toNat = n - 4 := by omega
    exact ⟨by omega, ⟨by omega, by omega⟩, h3, ho, hb⟩
  · rename_i b0 h4
    have h4 : (decide ((n : Int) < 28) || decide ((n : Int).tmod 4 ≠ 0)) = false := h4
    rw [Int.tmod_eq_emod_of_nonneg (show (0 : Int) ≤ (n : Int) by omega)] at h4
    simp only [Bool.or_eq_false_iff, decide_eq_false_iff_not] at h4
    have h28 : 28 ≤ n := by omega
    have e4 : ((n : Int) - 4).toNat = n - 4 := by omega
    omega
  · rename_i b0 h4
    have h4 : (decide ((n : Int) < 28) || decide ((n : Int).tmod 4 ≠ 0)) = false := h4
    rw [Int.tmod_eq_emod_of_nonneg (show (0 : Int) ≤ (n : Int) by omega)] at h4
    simp only [Bool.or_eq_false_iff, decide_eq_false_iff_not] at h4
    have h28 : 28 ≤ n := by omega
    have e4 : ((n : Int) - 4).toNat = n - 4 := by omega
    rw [e4]
    exact ⟨by show i + (n - 4) ≤ l.length; omega, by show n - 4 < 4611686018427387904; omega, fun h => ⟨by have := (ho h).1; omega, (ho h).2⟩⟩
  · rename_i b0 h4
    have h4 : (decide ((n : Int) < 28) || decide ((n : Int).tmod 4 ≠ 0) || decide (nm l (((n : Int) - 4).toNat + i) ≠ crc ((l.drop i).take ((n : Int) - 4).toNat))) = true := h4
    rw [Int.tmod_eq_emod_of_nonneg (show (0 : Int) ≤ (n : Int) by omega)] at h4
    refine Ends.one () (fun h A B hp => ?_) ?_
    · obtain ⟨f1, f2, f3, f4, f5, f6⟩ := isPt_facts hp (by rw [hbl]; omega)
      rw [hbl] at f1 f3 f5
      have e4 : ((n : Int) - 4).toNat = n - 4 := by omega
      have hnm : nm l ((n - 4) + i) = nm ((l.drop i).take n) (n - 4) := by
        rw [nm_take _ (by omega), nm_drop, Nat.add_comm]
      have hcr : (l.drop i).take (n - 4) = ((l.drop i).take n).take (n - 4) := by rw [List.take_take]; congr 1; omega
      rw [e4, hnm, hcr, f3] at h4
      have : (n : Int) % 4 = 0 := by omega
      simp [this] at h4
      omega
    ((conv => (arg 1; reduce)); with_reducible repeat' (first | exact Tr.yes_h | refine Tr.and_h ?_ ?_ | refine Tr.imp_h fun _ => ?_ | refine Tr.all_h fun _ => ?_ | refine Tr.lf_h ?_))
    all_goals (first | first | (show Region.lexB _ _ = true; kernel_rfl) | (show planned _ _ = true; kernel_rfl) | exact rfl | exact True.intro | ((try dsimp only [imp, C0, cG, cInt, cPl, cSlot, cPg, rwCodec, cRaw] at *); (try refine inR64 ?_ ?_) <;> (try simp only [List.length_set, List.length_append, List.length_take, List.length_drop]) <;> omega))
  · rename_i b0 h4
    have h4 : (decide ((n : Int) < 28) || decide ((n : Int).tmod 4 ≠ 0) || decide (nm l (((n : Int) - 4).toNat + i) ≠ crc ((l.drop i).take ((n : Int) - 4).toNat))) = false := h4
    rw [Int.tmod_eq_emod_of_nonneg (show (0 : Int) ≤ (n : Int) by omega)] at h4
    simp only [Bool.or_eq_false_iff, decide_eq_false_iff_not] at h4
    have h28 : 28 ≤ n := by omega
    have hm4 : n % 4 = 0 := by omega
    have e4 : ((n : Int) - 4).toNat = n - 4 := by omega
    refine Stands.one (0, false, 0, 0, [], 0) ⟨⟨Nat.zero_le _, rfl, rfl, Nat.le_refl _, Nat.le_refl _, fun _ => ⟨rfl, rfl⟩⟩, ?_⟩
    ((conv => (arg 1; reduce)); with_reducible repeat' (first | exact Tr.yes_h | refine Tr.and_h ?_ ?_ | refine Tr.imp_h fun _ => ?_ | refine Tr.all_h fun _ => ?_ | refine Tr.lf_h ?_))
    all_goals (first | first | (show Region.lexB _ _ = true; kernel_rfl) | (show planned _ _ = true; kernel_rfl) | exact rfl | exact True.intro | ((try dsimp only [imp, C0, cG, cInt, cPl, cSlot, cPg, rwCodec, cRaw] at *); (try refine inR64 ?_ ?_) <;> (try simp only [List.length_set, List.length_append, List.length_take, List.length_drop]) <;> omega))
  · rename_i b0 h4 v hv
    have h4 : (decide ((n : Int) < 28) || decide ((n : Int).tmod 4 ≠ 0) || decide (nm l (((n : Int) - 4).toNat + i) ≠ crc ((l.drop i).take ((n : Int) - 4).toNat))) = false := h4
    rw [Int.tmod_eq_emod_of_nonneg (show (0 : Int) ≤ (n : Int) by omega)] at h4
    simp only [Bool.or_eq_false_iff, decide_eq_false_iff_not] at h4
    have h28 : 28 ≤ n := by omega
    have hm4 : n % 4 = 0 := by omega
    have e4 : ((n : Int) - 4).toNat = n - 4 := by omega
    obtain ⟨k, on, vb, vq, vl, vc⟩ := v
    obtain ⟨e1, e2⟩ : k ≤ (nsOf ((l.drop i).take n)).length ∧ Grw ((nsOf ((l.drop i).take n)).take k) vl on k vc := hv
    rw [hRl] at e1
    exact inR64 (by show _ ≤ 4 * (k : Int) + 4; omega) (by show 4 * (k : Int) + 4 ≤ _; omega)
  · rename_i b0 h4 v hv h5
    have h4 : (decide ((n : Int) < 28) || decide ((n : Int).tmod 4 ≠ 0) || decide (nm l (((n : Int) - 4).toNat + i) ≠ crc ((l.drop i).take ((n : Int) - 4).toNat))) = false := h4
    rw [Int.tmod_eq_emod_of_nonneg (show (0 : Int) ≤ (n : Int) by omega)] at h4
    simp only [Bool.or_eq_false_iff, decide_eq_false_iff_not] at h4
    have h28 : 28 ≤ n := by omega
    have hm4 : n % 4 = 0 := by omega
    have e4 : ((n : Int) - 4).toNat = n - 4 := by omega
    obtain ⟨k, on, vb, vq, vl, vc⟩ := v
    obtain ⟨e1, e2⟩ : k ≤ (nsOf ((l.drop i).take n)).length ∧ Grw ((nsOf ((l.drop i).take n)).take k) vl on k vc := hv
    rw [hRl] at e1
    have h5 : 4 * (k : Int) + 4 < (n : Int) := of_decide_eq_true h5
    exact ⟨by omega, ⟨by show (0 : Int) ≤ 4 * (k : Int); omega, by show 4 * (k : Int) + 4 ≤ (n : Int); omega⟩, h3, ho, hb⟩
  · rename_i b0 h4 v hv h5 bk
    have h4 : (decide ((n : Int) < 28) || decide ((n : Int).tmod 4 ≠ 0) || decide (nm l (((n : Int) - 4).toNat + i) ≠ crc ((l.drop i).take ((n : Int) - 4).toNat))) = false := h4
    rw [Int.tmod_eq_emod_of_nonneg (show (0 : Int) ≤ (n : Int) by omega)] at h4
    simp only [Bool.or_eq_false_iff, decide_eq_false_iff_not] at h4
    have h28 : 28 ≤ n := by omega
    have hm4 : n % 4 = 0 := by omega
    have e4 : ((n : Int) - 4).toNat = n - 4 := by omega
    obtain ⟨k, on, vb, vq, vl, vc⟩ := v
    obtain ⟨e1, e2⟩ : k ≤ (nsOf ((l.drop i).take n)).length ∧ Grw ((nsOf ((l.drop i).take n)).take k) vl on k vc := hv
    rw [hRl] at e1
    have h5 : 4 * (k : Int) + 4 < (n : Int) := of_decide_eq_true h5
    obtain ⟨k1, k2, k3, k4, k5⟩ := e2
    rw [by3]
    exact ⟨k3, by show 0 + vc ≤ vl.length; omega, Nat.le_refl 1, by show (k + 1) * 8 ≤ _; omega⟩
  · rename_i b0 h4 v hv h5 bk
    have h4 : (decide ((n : Int) < 28) || decide ((n : Int).tmod 4 ≠ 0) || decide (nm l (((n : Int) - 4).toNat + i) ≠ crc ((l.drop i).take ((n : Int) - 4).toNat))) = false := h4
    rw [Int.tmod_eq_emod_of_nonneg (show (0 : Int) ≤ (n : Int) by omega)] at h4
    simp only [Bool.or_eq_false_iff, decide_eq_false_iff_not] at h4
    have h28 : 28 ≤ n := by omega
    have hm4 : n % 4 = 0 := by omega
    have e4 : ((n : Int) - 4).toNat = n - 4 := by omega
    obtain ⟨k, on, vb, vq, vl, vc⟩ := v
    obtain ⟨e1, e2⟩ : k ≤ (nsOf ((l.drop i).take n)).length ∧ Grw ((nsOf ((l.drop i).take n)).take k) vl on k vc := hv
    rw [hRl] at e1
    have h5 : 4 * (k : Int) + 4 < (n : Int) := of_decide_eq_true h5
    exact e2.2.2.2.2
  · rename_i b0 h4 v hv h5 bk b9 q9 sp cap m1 m2
    have h4 : (decide ((n : Int) < 28) || decide ((n : Int).tmod 4 ≠ 0) || decide (nm l (((n : Int) - 4).toNat + i) ≠ crc ((l.drop i).take ((n : Int) - 4).toNat))) = false := h4
    rw [Int.tmod_eq_emod_of_nonneg (show (0 : Int) ≤ (n : Int) by omega)] at h4
    simp only [Bool.or_eq_false_iff, decide_eq_false_iff_not] at h4
    have h28 : 28 ≤ n := by omega
    have hm4 : n % 4 = 0 := by omega
    have e4 : ((n : Int) - 4).toNat = n - 4 := by omega
    obtain ⟨k, on, vb, vq, vl, vc⟩ := v
    obtain ⟨e1, e2⟩ : k ≤ (nsOf ((l.drop i).take n)).length ∧ Grw ((nsOf ((l.drop i).take n)).take k) vl on k vc := hv
    rw [hRl] at e1
    have h5 : 4 * (k : Int) + 4 < (n : Int) := of_decide_eq_true h5
    exact inR64 (by show _ ≤ 4 * (k : Int) + 4; omega) (by show 4 * (k : Int) + 4 ≤ _; omega)
  · rename_i b0 h4 v hv h5 bk b9 q9 sp cap m1 m2
    have h4 : (decide ((n : Int) < 28) || decide ((n : Int).tmod 4 ≠ 0) || decide (nm l (((n : Int) - 4).toNat + i) ≠ crc ((l.drop i).take ((n : Int) - 4).toNat))) = false := h4
    rw [Int.tmod_eq_emod_of_nonneg (show (0 : Int) ≤ (n : Int) by omega)] at h4
    simp only [Bool.or_eq_false_iff, decide_eq_false_iff_not] at h4
    have h28 : 28 ≤ n := by omega
    have hm4 : n % 4 = 0 := by omega
    have e4 : ((n : Int) - 4).toNat = n - 4 := by omega
    obtain ⟨k, on, vb, vq, vl, vc⟩ := v
    obtain ⟨e1, e2⟩ : k ≤ (nsOf ((l.drop i).take n)).length ∧ Grw ((nsOf ((l.drop i).take n)).take k) vl on k vc := hv
    rw [hRl] at e1
    have h5 : 4 * (k : Int) + 4 < (n : Int) := of_decide_eq_true h5
    have hkM : k < (n - 4) / 4 := by omega
    have hval : nm l ((4 * (k : Int)).toNat + i) = (nsOf ((l.drop i).take n)).getD k 0 := by
      rw [show (4 * (k : Int)).toNat + i = i + 4 * k by omega, ← nm_drop]
      unfold nsOf
      rw [hbl, rdN_get _ hkM, nm_take _ (by omega), nm_take _ (by omega)]
    have e3 := e2.app (x := (nsOf ((l.drop i).take n)).getD k 0) (sp := sp) m1 m2
    refine Stands.one (k + 1, true, b9, q9, vl.take k ++ [(nsOf ((l.drop i).take n)).getD k 0] ++ sp, cap) ⟨⟨by rw [hRl]; exact hkM, ?_⟩, ?_, ?_⟩
    · show Grw ((nsOf ((l.drop i).take n)).take (k + 1)) _ _ _ _
      rw [take_snoc (d := 0) (by rw [hRl]; exact hkM)]
      exact e3
    · show (nsOf ((l.drop i).take n)).length - (k + 1) < (nsOf ((l.drop i).take n)).length - k
      rw [hRl]; omega
    ((conv => (arg 1; reduce)); with_reducible repeat' (first | exact Tr.yes_h | refine Tr.and_h ?_ ?_ | refine Tr.imp_h fun _ => ?_ | refine Tr.all_h fun _ => ?_ | refine Tr.lf_h ?_))
    all_goals first | (first | first | (show Region.lexB _ _ = true; kernel_rfl) | (show planned _ _ = true; kernel_rfl) | exact rfl | exact True.intro | ((try dsimp only [imp, C0, cG, cInt, cPl, cSlot, cPg, rwCodec, cRaw] at *); (try refine inR64 ?_ ?_) <;> (try simp only [List.length_set, List.length_append, List.length_take, List.length_drop]) <;> omega)) | (rw [← hval]; rfl)
  · rename_i b0 h4 v hv h5
    have h4 : (decide ((n : Int) < 28) || decide ((n : Int).tmod 4 ≠ 0) || decide (nm l (((n : Int) - 4).toNat + i) ≠ crc ((l.drop i).take ((n : Int) - 4).toNat))) = false := h4
    rw [Int.tmod_eq_emod_of_nonneg (show (0 : Int) ≤ (n : Int) by omega)] at h4
    simp only [Bool.or_eq_false_iff, decide_eq_false_iff_not] at h4
    have h28 : 28 ≤ n := by omega
    have hm4 : n % 4 = 0 := by omega
    have e4 : ((n : Int) - 4).toNat = n - 4 := by omega
    obtain ⟨k, on, vb, vq, vl, vc⟩ := v
    obtain ⟨e1, e2⟩ : k ≤ (nsOf ((l.drop i).take n)).length ∧ Grw ((nsOf ((l.drop i).take n)).take k) vl on k vc := hv
    rw [hRl] at e1
    have h5 : ¬ 4 * (k : Int) + 4 < (n : Int) := of_decide_eq_false h5
    have hk : k = (n - 4) / 4 := by omega
    have hk4 : 4 * k = n - 4 := by omega
    have hg : ∀ t, t < k → vl.getD t 0 = (nsOf ((l.drop i).take n)).getD t 0 := by
      intro t ht
      rw [← tk_at (l := vl) (n := k) ht, e2.2.1, tk_at ht]
    have hon : on = true := on_of e2.2.2.2.2 (by omega)
    have hvl : k ≤ vl.length := Nat.le_trans e2.2.2.1 e2.2.2.2.1
    exact hon
  · rename_i b0 h4 v hv h5
    have h4 : (decide ((n : Int) < 28) || decide ((n : Int).tmod 4 ≠ 0) || decide (nm l (((n : Int) - 4).toNat + i) ≠ crc ((l.drop i).take ((n : Int) - 4).toNat))) = false := h4
    rw [Int.tmod_eq_emod_of_nonneg (show (0 : Int) ≤ (n : Int) by omega)] at h4
    simp only [Bool.or_eq_false_iff, decide_eq_false_iff_not] at h4
    have h28 : 28 ≤ n := by omega
    have hm4 : n % 4 = 0 := by omega
    have e4 : ((n : Int) - 4).toNat = n - 4 := by omega
    obtain ⟨k, on, vb, vq, vl, vc⟩ := v
    obtain ⟨e1, e2⟩ : k ≤ (nsOf ((l.drop i).take n)).length ∧ Grw ((nsOf ((l.drop i).take n)).take k) vl on k vc := hv
    rw [hRl] at e1
    have h5 : ¬ 4 * (k : Int) + 4 < (n : Int) := of_decide_eq_false h5
    have hk : k = (n - 4) / 4 := by omega
    have hk4 : 4 * k = n - 4 := by omega
    have hg : ∀ t, t < k → vl.getD t 0 = (nsOf ((l.drop i).take n)).getD t 0 := by
      intro t ht
      rw [← tk_at (l := vl) (n := k) ht, e2.2.1, tk_at ht]
    have hon : on = true := on_of e2.2.2.2.2 (by omega)
    have hvl : k ≤ vl.length := Nat.le_trans e2.2.2.1 e2.2.2.2.1
    show (0 : Int) < (k : Int)
    omega
  · rename_i b0 h4 v hv h5
    have h4 : (decide ((n : Int) < 28) || decide ((n : Int).tmod 4 ≠ 0) || decide (nm l (((n : Int) - 4).toNat + i) ≠ crc ((l.drop i).take ((n : Int) - 4).toNat))) = false := h4
    rw [Int.tmod_eq_emod_of_nonneg (show (0 : Int) ≤ (n : Int) by omega)] at h4
    simp only [Bool.or_eq_false_iff, decide_eq_false_iff_not] at h4
    have h28 : 28 ≤ n := by omega
    have hm4 : n % 4 = 0 := by omega
    have e4 : ((n : Int) - 4).toNat = n - 4 := by omega
    obtain ⟨k, on, vb, vq, vl, vc⟩ := v
    obtain ⟨e1, e2⟩ : k ≤ (nsOf ((l.drop i).take n)).length ∧ Grw ((nsOf ((l.drop i).take n)).take k) vl on k vc := hv
    rw [hRl] at e1
    have h5 : ¬ 4 * (k : Int) + 4 < (n : Int) := of_decide_eq_false h5
    have hk : k = (n - 4) / 4 := by omega
    have hk4 : 4 * k = n - 4 := by omega
    have hg : ∀ t, t < k → vl.getD t 0 = (nsOf ((l.drop i).take n)).getD t 0 := by
      intro t ht
      rw [← tk_at (l := vl) (n := k) ht, e2.2.1, tk_at ht]
    have hon : on = true := on_of e2.2.2.2.2 (by omega)
    have hvl : k ≤ vl.length := Nat.le_trans e2.2.2.1 e2.2.2.2.1
    exact hon
  · rename_i b0 h4 v hv h5
    have h4 : (decide ((n : Int) < 28) || decide ((n : Int).tmod 4 ≠ 0) || decide (nm l (((n : Int) - 4).toNat + i) ≠ crc ((l.drop i).take ((n : Int) - 4).toNat))) = false := h4
    rw [Int.tmod_eq_emod_of_nonneg (show (0 : Int) ≤ (n : Int) by omega)] at h4
    simp only [Bool.or_eq_false_iff, decide_eq_false_iff_not] at h4
    have h28 : 28 ≤ n := by omega
    have hm4 : n % 4 = 0 := by omega
    have e4 : ((n : Int) - 4).toNat = n - 4 := by omega
    obtain ⟨k, on, vb, vq, vl, vc⟩ := v
    obtain ⟨e1, e2⟩ : k ≤ (nsOf ((l.drop i).take n)).length ∧ Grw ((nsOf ((l.drop i).take n)).take k) vl on k vc := hv
    rw [hRl] at e1
    have h5 : ¬ 4 * (k : Int) + 4 < (n : Int) := of_decide_eq_false h5
    have hk : k = (n - 4) / 4 := by omega
    have hk4 : 4 * k = n - 4 := by omega
    have hg : ∀ t, t < k → vl.getD t 0 = (nsOf ((l.drop i).take n)).getD t 0 := by
      intro t ht
      rw [← tk_at (l := vl) (n := k) ht, e2.2.1, tk_at ht]
    have hon : on = true := on_of e2.2.2.2.2 (by omega)
    have hvl : k ≤ vl.length := Nat.le_trans e2.2.2.1 e2.2.2.2.1
    show (0 : Int).toNat + 0 < vl.length
    omega
  · rename_i b0 h4 v hv h5
    have h4 : (decide ((n : Int) < 28) || decide ((n : Int).tmod 4 ≠ 0) || decide (nm l (((n : Int) - 4).toNat + i) ≠ crc ((l.drop i).take ((n : Int) - 4).toNat))) = false := h4
    rw [Int.tmod_eq_emod_of_nonneg (show (0 : Int) ≤ (n : Int) by omega)] at h4
    simp only [Bool.or_eq_false_iff, decide_eq_false_iff_not] at h4
    have h28 : 28 ≤ n := by omega
    have hm4 : n % 4 = 0 := by omega
    have e4 : ((n : Int) - 4).toNat = n - 4 := by omega
    obtain ⟨k, on, vb, vq, vl, vc⟩ := v
    obtain ⟨e1, e2⟩ : k ≤ (nsOf ((l.drop i).take n)).length ∧ Grw ((nsOf ((l.drop i).take n)).take k) vl on k vc := hv
    rw [hRl] at e1
    have h5 : ¬ 4 * (k : Int) + 4 < (n : Int) := of_decide_eq_false h5
    have hk : k = (n - 4) / 4 := by omega
    have hk4 : 4 * k = n - 4 := by omega
    have hg : ∀ t, t < k → vl.getD t 0 = (nsOf ((l.drop i).take n)).getD t 0 := by
      intro t ht
      rw [← tk_at (l := vl) (n := k) ht, e2.2.1, tk_at ht]
    have hon : on = true := on_of e2.2.2.2.2 (by omega)
    have hvl : k ≤ vl.length := Nat.le_trans e2.2.2.1 e2.2.2.2.1
    exact hon
  · rename_i b0 h4 v hv h5
    have h4 : (decide ((n : Int) < 28) || decide ((n : Int).tmod 4 ≠ 0) || decide (nm l (((n : Int) - 4).toNat + i) ≠ crc ((l.drop i).take ((n : Int) - 4).toNat))) = false := h4
    rw [Int.tmod_eq_emod_of_nonneg (show (0 : Int) ≤ (n : Int) by omega)] at h4
    simp only [Bool.or_eq_false_iff, decide_eq_false_iff_not] at h4
    have h28 : 28 ≤ n := by omega
    have hm4 : n % 4 = 0 := by omega
    have e4 : ((n : Int) - 4).toNat = n - 4 := by omega
    obtain ⟨k, on, vb, vq, vl, vc⟩ := v
    obtain ⟨e1, e2⟩ : k ≤ (nsOf ((l.drop i).take n)).length ∧ Grw ((nsOf ((l.drop i).take n)).take k) vl on k vc := hv
    rw [hRl] at e1
    have h5 : ¬ 4 * (k : Int) + 4 < (n : Int) := of_decide_eq_false h5
    have hk : k = (n - 4) / 4 := by omega
    have hk4 : 4 * k = n - 4 := by omega
    have hg : ∀ t, t < k → vl.getD t 0 = (nsOf ((l.drop i).take n)).getD t 0 := by
      intro t ht
      rw [← tk_at (l := vl) (n := k) ht, e2.2.1, tk_at ht]
    have hon : on = true := on_of e2.2.2.2.2 (by omega)
    have hvl : k ≤ vl.length := Nat.le_trans e2.2.2.1 e2.2.2.2.1
    show (1 : Int) < (k : Int)
    omega
  · rename_i b0 h4 v hv h5
    have h4 : (decide ((n : Int) < 28) || decide ((n : Int).tmod 4 ≠ 0) || decide (nm l (((n : Int) - 4).toNat + i) ≠ crc ((l.drop i).take ((n : Int) - 4).toNat))) = false := h4
    rw [Int.tmod_eq_emod_of_nonneg (show (0 : Int) ≤ (n : Int) by omega)] at h4
    simp only [Bool.or_eq_false_iff, decide_eq_false_iff_not] at h4
    have h28 : 28 ≤ n := by omega
    have hm4 : n % 4 = 0 := by omega
    have e4 : ((n : Int) - 4).toNat = n - 4 := by omega
    obtain ⟨k, on, vb, vq, vl, vc⟩ := v
    obtain ⟨e1, e2⟩ : k ≤ (nsOf ((l.drop i).take n)).length ∧ Grw ((nsOf ((l.drop i).take n)).take k) vl on k vc := hv
    rw [hRl] at e1
    have h5 : ¬ 4 * (k : Int) + 4 < (n : Int) := of_decide_eq_false h5
    have hk : k = (n - 4) / 4 := by omega
    have hk4 : 4 * k = n - 4 := by omega
    have hg : ∀ t, t < k → vl.getD t 0 = (nsOf ((l.drop i).take n)).getD t 0 := by
      intro t ht
      rw [← tk_at (l := vl) (n := k) ht, e2.2.1, tk_at ht]
    have hon : on = true := on_of e2.2.2.2.2 (by omega)
    have hvl : k ≤ vl.length := Nat.le_trans e2.2.2.1 e2.2.2.2.1
    exact hon
  · rename_i b0 h4 v hv h5
    have h4 : (decide ((n : Int) < 28) || decide ((n : Int).tmod 4 ≠ 0) || decide (nm l (((n : Int) - 4).toNat + i) ≠ crc ((l.drop i).take ((n : Int) - 4).toNat))) = false := h4
    rw [Int.tmod_eq_emod_of_nonneg (show (0 : Int) ≤ (n : Int) by omega)] at h4
    simp only [Bool.or_eq_false_iff, decide_eq_false_iff_not] at h4
    have h28 : 28 ≤ n := by omega
    have hm4 : n % 4 = 0 := by omega
    have e4 : ((n : Int) - 4).toNat = n - 4 := by omega
    obtain ⟨k, on, vb, vq, vl, vc⟩ := v
    obtain ⟨e1, e2⟩ : k ≤ (nsOf ((l.drop i).take n)).length ∧ Grw ((nsOf ((l.drop i).take n)).take k) vl on k vc := hv
    rw [hRl] at e1
    have h5 : ¬ 4 * (k : Int) + 4 < (n : Int) := of_decide_eq_false h5
    have hk : k = (n - 4) / 4 := by omega
    have hk4 : 4 * k = n - 4 := by omega
    have hg : ∀ t, t < k → vl.getD t 0 = (nsOf ((l.drop i).take n)).getD t 0 := by
      intro t ht
      rw [← tk_at (l := vl) (n := k) ht, e2.2.1, tk_at ht]
    have hon : on = true := on_of e2.2.2.2.2 (by omega)
    have hvl : k ≤ vl.length := Nat.le_trans e2.2.2.1 e2.2.2.2.1
    show (1 : Int).toNat + 0 < vl.length
    omega
  · rename_i b0 h4 v hv h5
    have h4 : (decide ((n : Int) < 28) || decide ((n : Int).tmod 4 ≠ 0) || decide (nm l (((n : Int) - 4).toNat + i) ≠ crc ((l.drop i).take ((n : Int) - 4).toNat))) = false := h4
    rw [Int.tmod_eq_emod_of_nonneg (show (0 : Int) ≤ (n : Int) by omega)] at h4
    simp only [Bool.or_eq_false_iff, decide_eq_false_iff_not] at h4
    have h28 : 28 ≤ n := by omega
    have hm4 : n % 4 = 0 := by omega
    have e4 : ((n : Int) - 4).toNat = n - 4 := by omega
    obtain ⟨k, on, vb, vq, vl, vc⟩ := v
    obtain ⟨e1, e2⟩ : k ≤ (nsOf ((l.drop i).take n)).length ∧ Grw ((nsOf ((l.drop i).take n)).take k) vl on k vc := hv
    rw [hRl] at e1
    have h5 : ¬ 4 * (k : Int) + 4 < (n : Int) := of_decide_eq_false h5
    have hk : k = (n - 4) / 4 := by omega
    have hk4 : 4 * k = n - 4 := by omega
    have hg : ∀ t, t < k → vl.getD t 0 = (nsOf ((l.drop i).take n)).getD t 0 := by
      intro t ht
      rw [← tk_at (l := vl) (n := k) ht, e2.2.1, tk_at ht]
    have hon : on = true := on_of e2.2.2.2.2 (by omega)
    have hvl : k ≤ vl.length := Nat.le_trans e2.2.2.1 e2.2.2.2.1
    exact hon
  · rename_i b0 h4 v hv h5
    have h4 : (decide ((n : Int) < 28) || decide ((n : Int).tmod 4 ≠ 0) || decide (nm l (((n : Int) - 4).toNat + i) ≠ crc ((l.drop i).take ((n : Int) - 4).toNat))) = false := h4
    rw [Int.tmod_eq_emod_of_nonneg (show (0 : Int) ≤ (n : Int) by omega)] at h4
    simp only [Bool.or_eq_false_iff, decide_eq_false_iff_not] at h4
    have h28 : 28 ≤ n := by omega
    have hm4 : n % 4 = 0 := by omega
    have e4 : ((n : Int) - 4).toNat = n - 4 := by omega
    obtain ⟨k, on, vb, vq, vl, vc⟩ := v
    obtain ⟨e1, e2⟩ : k ≤ (nsOf ((l.drop i).take n)).length ∧ Grw ((nsOf ((l.drop i).take n)).take k) vl on k vc := hv
    rw [hRl] at e1
    have h5 : ¬ 4 * (k : Int) + 4 < (n : Int) := of_decide_eq_false h5
    have hk : k = (n - 4) / 4 := by omega
    have hk4 : 4 * k = n - 4 := by omega
    have hg : ∀ t, t < k → vl.getD t 0 = (nsOf ((l.drop i).take n)).getD t 0 := by
      intro t ht
      rw [← tk_at (l := vl) (n := k) ht, e2.2.1, tk_at ht]
    have hon : on = true := on_of e2.2.2.2.2 (by omega)
    have hvl : k ≤ vl.length := Nat.le_trans e2.2.2.1 e2.2.2.2.1
    show (2 : Int) < (k : Int)
    omega
  · rename_i b0 h4 v hv h5
    have h4 : (decide ((n : Int) < 28) || decide ((n : Int).tmod 4 ≠ 0) || decide (nm l (((n : Int) - 4).toNat + i) ≠ crc ((l.drop i).take ((n : Int) - 4).toNat))) = false := h4
    rw [Int.tmod_eq_emod_of_nonneg (show (0 : Int) ≤ (n : Int) by omega)] at h4
    simp only [Bool.or_eq_false_iff, decide_eq_false_iff_not] at h4
    have h28 : 28 ≤ n := by omega
    have hm4 : n % 4 = 0 := by omega
    have e4 : ((n : Int) - 4).toNat = n - 4 := by omega
    obtain ⟨k, on, vb, vq, vl, vc⟩ := v
    obtain ⟨e1, e2⟩ : k ≤ (nsOf ((l.drop i).take n)).length ∧ Grw ((nsOf ((l.drop i).take n)).take k) vl on k vc := hv
    rw [hRl] at e1
    have h5 : ¬ 4 * (k : Int) + 4 < (n : Int) := of_decide_eq_false h5
    have hk : k = (n - 4) / 4 := by omega
    have hk4 : 4 * k = n - 4 := by omega
    have hg : ∀ t, t < k → vl.getD t 0 = (nsOf ((l.drop i).take n)).getD t 0 := by
      intro t ht
      rw [← tk_at (l := vl) (n := k) ht, e2.2.1, tk_at ht]
    have hon : on = true := on_of e2.2.2.2.2 (by omega)
    have hvl : k ≤ vl.length := Nat.le_trans e2.2.2.1 e2.2.2.2.1
    exact hon
  · rename_i b0 h4 v hv h5
    have h4 : (decide ((n : Int) < 28) || decide ((n : Int).tmod 4 ≠ 0) || decide (nm l (((n : Int) - 4).toNat + i) ≠ crc ((l.drop i).take ((n : Int) - 4).toNat))) = false := h4
    rw [Int.tmod_eq_emod_of_nonneg (show (0 : Int) ≤ (n : Int) by omega)] at h4
    simp only [Bool.or_eq_false_iff, decide_eq_false_iff_not] at h4
    have h28 : 28 ≤ n := by omega
    have hm4 : n % 4 = 0 := by omega
    have e4 : ((n : Int) - 4).toNat = n - 4 := by omega
    obtain ⟨k, on, vb, vq, vl, vc⟩ := v
    obtain ⟨e1, e2⟩ : k ≤ (nsOf ((l.drop i).take n)).length ∧ Grw ((nsOf ((l.drop i).take n)).take k) vl on k vc := hv
    rw [hRl] at e1
    have h5 : ¬ 4 * (k : Int) + 4 < (n : Int) := of_decide_eq_false h5
    have hk : k = (n - 4) / 4 := by omega
    have hk4 : 4 * k = n - 4 := by omega
    have hg : ∀ t, t < k → vl.getD t 0 = (nsOf ((l.drop i).take n)).getD t 0 := by
      intro t ht
      rw [← tk_at (l := vl) (n := k) ht, e2.2.1, tk_at ht]
    have hon : on = true := on_of e2.2.2.2.2 (by omega)
    have hvl : k ≤ vl.length := Nat.le_trans e2.2.2.1 e2.2.2.2.1
    show (2 : Int).toNat + 0 < vl.length
    omega
  · rename_i b0 h4 v hv h5
    have h4 : (decide ((n : Int) < 28) || decide ((n : Int).tmod 4 ≠ 0) || decide (nm l (((n : Int) - 4).toNat + i) ≠ crc ((l.drop i).take ((n : Int) - 4).toNat))) = false := h4
    rw [Int.tmod_eq_emod_of_nonneg (show (0 : Int) ≤ (n : Int) by omega)] at h4
    simp only [Bool.or_eq_false_iff, decide_eq_false_iff_not] at h4
    have h28 : 28 ≤ n := by omega
    have hm4 : n % 4 = 0 := by omega
    have e4 : ((n : Int) - 4).toNat = n - 4 := by omega
    obtain ⟨k, on, vb, vq, vl, vc⟩ := v
    obtain ⟨e1, e2⟩ : k ≤ (nsOf ((l.drop i).take n)).length ∧ Grw ((nsOf ((l.drop i).take n)).take k) vl on k vc := hv
    rw [hRl] at e1
    have h5 : ¬ 4 * (k : Int) + 4 < (n : Int) := of_decide_eq_false h5
    have hk : k = (n - 4) / 4 := by omega
    have hk4 : 4 * k = n - 4 := by omega
    have hg : ∀ t, t < k → vl.getD t 0 = (nsOf ((l.drop i).take n)).getD t 0 := by
      intro t ht
      rw [← tk_at (l := vl) (n := k) ht, e2.2.1, tk_at ht]
    have hon : on = true := on_of e2.2.2.2.2 (by omega)
    have hvl : k ≤ vl.length := Nat.le_trans e2.2.2.1 e2.2.2.2.1
    exact hon
  · rename_i b0 h4 v hv h5
    have h4 : (decide ((n : Int) < 28) || decide ((n : Int).tmod 4 ≠ 0) || decide (nm l (((n : Int) - 4).toNat + i) ≠ crc ((l.drop i).take ((n : Int) - 4).toNat))) = false := h4
    rw [Int.tmod_eq_emod_of_nonneg (show (0 : Int) ≤ (n : Int) by omega)] at h4
    simp only [Bool.or_eq_false_iff, decide_eq_false_iff_not] at h4
    have h28 : 28 ≤ n := by omega
    have hm4 : n % 4 = 0 := by omega
    have e4 : ((n : Int) - 4).toNat = n - 4 := by omega
    obtain ⟨k, on, vb, vq, vl, vc⟩ := v
    obtain ⟨e1, e2⟩ : k ≤ (nsOf ((l.drop i).take n)).length ∧ Grw ((nsOf ((l.drop i).take n)).take k) vl on k vc := hv
    rw [hRl] at e1
    have h5 : ¬ 4 * (k : Int) + 4 < (n : Int) := of_decide_eq_false h5
    have hk : k = (n - 4) / 4 := by omega
    have hk4 : 4 * k = n - 4 := by omega
    have hg : ∀ t, t < k → vl.getD t 0 = (nsOf ((l.drop i).take n)).getD t 0 := by
      intro t ht
      rw [← tk_at (l := vl) (n := k) ht, e2.2.1, tk_at ht]
    have hon : on = true := on_of e2.2.2.2.2 (by omega)
    have hvl : k ≤ vl.length := Nat.le_trans e2.2.2.1 e2.2.2.2.1
    show (3 : Int) < (k : Int)
    omega
  · rename_i b0 h4 v hv h5
    have h4 : (decide ((n : Int) < 28) || decide ((n : Int).tmod 4 ≠ 0) || decide (nm l (((n : Int) - 4).toNat + i) ≠ crc ((l.drop i).take ((n : Int) - 4).toNat))) = false := h4
    rw [Int.tmod_eq_emod_of_nonneg (show (0 : Int) ≤ (n : Int) by omega)] at h4
    simp only [Bool.or_eq_false_iff, decide_eq_false_iff_not] at h4
    have h28 : 28 ≤ n := by omega
    have hm4 : n % 4 = 0 := by omega
    have e4 : ((n : Int) - 4).toNat = n - 4 := by omega
    obtain ⟨k, on, vb, vq, vl, vc⟩ := v
    obtain ⟨e1, e2⟩ : k ≤ (nsOf ((l.drop i).take n)).length ∧ Grw ((nsOf ((l.drop i).take n)).take k) vl on k vc := hv
    rw [hRl] at e1
    have h5 : ¬ 4 * (k : Int) + 4 < (n : Int) := of_decide_eq_false h5
    have hk : k = (n - 4) / 4 := by omega
    have hk4 : 4 * k = n - 4 := by omega
    have hg : ∀ t, t < k → vl.getD t 0 = (nsOf ((l.drop i).take n)).getD t 0 := by
      intro t ht
      rw [← tk_at (l := vl) (n := k) ht, e2.2.1, tk_at ht]
    have hon : on = true := on_of e2.2.2.2.2 (by omega)
    have hvl : k ≤ vl.length := Nat.le_trans e2.2.2.1 e2.2.2.2.1
    exact hon
  · rename_i b0 h4 v hv h5
    have h4 : (decide ((n : Int) < 28) || decide ((n : Int).tmod 4 ≠ 0) || decide (nm l (((n : Int) - 4).toNat + i) ≠ crc ((l.drop i).take ((n : Int) - 4).toNat))) = false := h4
    rw [Int.tmod_eq_emod_of_nonneg (show (0 : Int) ≤ (n : Int) by omega)] at h4
    simp only [Bool.or_eq_false_iff, decide_eq_false_iff_not] at h4
    have h28 : 28 ≤ n := by omega
    have hm4 : n % 4 = 0 := by omega
    have e4 : ((n : Int) - 4).toNat = n - 4 := by omega
    obtain ⟨k, on, vb, vq, vl, vc⟩ := v
    obtain ⟨e1, e2⟩ : k ≤ (nsOf ((l.drop i).take n)).length ∧ Grw ((nsOf ((l.drop i).take n)).take k) vl on k vc := hv
    rw [hRl] at e1
    have h5 : ¬ 4 * (k : Int) + 4 < (n : Int) := of_decide_eq_false h5
    have hk : k = (n - 4) / 4 := by omega
    have hk4 : 4 * k = n - 4 := by omega
    have hg : ∀ t, t < k → vl.getD t 0 = (nsOf ((l.drop i).take n)).getD t 0 := by
      intro t ht
      rw [← tk_at (l := vl) (n := k) ht, e2.2.1, tk_at ht]
    have hon : on = true := on_of e2.2.2.2.2 (by omega)
    have hvl : k ≤ vl.length := Nat.le_trans e2.2.2.1 e2.2.2.2.1
    show (3 : Int).toNat + 0 < vl.length
    omega
  · rename_i b0 h4 v hv h5 bp
    have h4 : (decide ((n : Int) < 28) || decide ((n : Int).tmod 4 ≠ 0) || decide (nm l (((n : Int) - 4).toNat + i) ≠ crc ((l.drop i).take ((n : Int) - 4).toNat))) = false := h4
    rw [Int.tmod_eq_emod_of_nonneg (show (0 : Int) ≤ (n : Int) by omega)] at h4
    simp only [Bool.or_eq_false_iff, decide_eq_false_iff_not] at h4
    have h28 : 28 ≤ n := by omega
    have hm4 : n % 4 = 0 := by omega
    have e4 : ((n : Int) - 4).toNat = n - 4 := by omega
    obtain ⟨k, on, vb, vq, vl, vc⟩ := v
    obtain ⟨e1, e2⟩ : k ≤ (nsOf ((l.drop i).take n)).length ∧ Grw ((nsOf ((l.drop i).take n)).take k) vl on k vc := hv
    rw [hRl] at e1
    have h5 : ¬ 4 * (k : Int) + 4 < (n : Int) := of_decide_eq_false h5
    have hk : k = (n - 4) / 4 := by omega
    have hk4 : 4 * k = n - 4 := by omega
    have hg : ∀ t, t < k → vl.getD t 0 = (nsOf ((l.drop i).take n)).getD t 0 := by
      intro t ht
      rw [← tk_at (l := vl) (n := k) ht, e2.2.1, tk_at ht]
    have hon : on = true := on_of e2.2.2.2.2 (by omega)
    have hvl : k ≤ vl.length := Nat.le_trans e2.2.2.1 e2.2.2.2.1
    exact hon
  · rename_i b0 h4 v hv h5 bp
    have h4 : (decide ((n : Int) < 28) || decide ((n : Int).tmod 4 ≠ 0) || decide (nm l (((n : Int) - 4).toNat + i) ≠ crc ((l.drop i).take ((n : Int) - 4).toNat))) = false := h4
    rw [Int.tmod_eq_emod_of_nonneg (show (0 : Int) ≤ (n : Int) by omega)] at h4
    simp only [Bool.or_eq_false_iff, decide_eq_false_iff_not] at h4
    have h28 : 28 ≤ n := by omega
    have hm4 : n % 4 = 0 := by omega
    have e4 : ((n : Int) - 4).toNat = n - 4 := by omega
    obtain ⟨k, on, vb, vq, vl, vc⟩ := v
    obtain ⟨e1, e2⟩ : k ≤ (nsOf ((l.drop i).take n)).length ∧ Grw ((nsOf ((l.drop i).take n)).take k) vl on k vc := hv
    rw [hRl] at e1
    have h5 : ¬ 4 * (k : Int) + 4 < (n : Int) := of_decide_eq_false h5
    have hk : k = (n - 4) / 4 := by omega
    have hk4 : 4 * k = n - 4 := by omega
    have hg : ∀ t, t < k → vl.getD t 0 = (nsOf ((l.drop i).take n)).getD t 0 := by
      intro t ht
      rw [← tk_at (l := vl) (n := k) ht, e2.2.1, tk_at ht]
    have hon : on = true := on_of e2.2.2.2.2 (by omega)
    have hvl : k ≤ vl.length := Nat.le_trans e2.2.2.1 e2.2.2.2.1
    show (4 : Int) < (k : Int)
    omega
  · rename_i b0 h4 v hv h5 bp
    have h4 : (decide ((n : Int) < 28) || decide ((n : Int).tmod 4 ≠ 0) || decide (nm l (((n : Int) - 4).toNat + i) ≠ crc ((l.drop i).take ((n : Int) - 4).toNat))) = false := h4
    rw [Int.tmod_eq_emod_of_nonneg (show (0 : Int) ≤ (n : Int) by omega)] at h4
    simp only [Bool.or_eq_false_iff, decide_eq_false_iff_not] at h4
    have h28 : 28 ≤ n := by omega
    have hm4 : n % 4 = 0 := by omega
    have e4 : ((n : Int) - 4).toNat = n - 4 := by omega
    obtain ⟨k, on, vb, vq, vl, vc⟩ := v
    obtain ⟨e1, e2⟩ : k ≤ (nsOf ((l.drop i).take n)).length ∧ Grw ((nsOf ((l.drop i).take n)).take k) vl on k vc := hv
    rw [hRl] at e1
    have h5 : ¬ 4 * (k : Int) + 4 < (n : Int) := of_decide_eq_false h5
    have hk : k = (n - 4) / 4 := by omega
    have hk4 : 4 * k = n - 4 := by omega
    have hg : ∀ t, t < k → vl.getD t 0 = (nsOf ((l.drop i).take n)).getD t 0 := by
      intro t ht
      rw [← tk_at (l := vl) (n := k) ht, e2.2.1, tk_at ht]
    have hon : on = true := on_of e2.2.2.2.2 (by omega)
    have hvl : k ≤ vl.length := Nat.le_trans e2.2.2.1 e2.2.2.2.1
    exact hon
  · rename_i b0 h4 v hv h5 bp
    have h4 : (decide ((n : Int) < 28) || decide ((n : Int).tmod 4 ≠ 0) || decide (nm l (((n : Int) - 4).toNat + i) ≠ crc ((l.drop i).take ((n : Int) - 4).toNat))) = false := h4
    rw [Int.tmod_eq_emod_of_nonneg (show (0 : Int) ≤ (n : Int) by omega)] at h4
    simp only [Bool.or_eq_false_iff, decide_eq_false_iff_not] at h4
    have h28 : 28 ≤ n := by omega
    have hm4 : n % 4 = 0 := by omega
    have e4 : ((n : Int) - 4).toNat = n - 4 := by omega
    obtain ⟨k, on, vb, vq, vl, vc⟩ := v
    obtain ⟨e1, e2⟩ : k ≤ (nsOf ((l.drop i).take n)).length ∧ Grw ((nsOf ((l.drop i).take n)).take k) vl on k vc := hv
    rw [hRl] at e1
    have h5 : ¬ 4 * (k : Int) + 4 < (n : Int) := of_decide_eq_false h5
    have hk : k = (n - 4) / 4 := by omega
    have hk4 : 4 * k = n - 4 := by omega
    have hg : ∀ t, t < k → vl.getD t 0 = (nsOf ((l.drop i).take n)).getD t 0 := by
      intro t ht
      rw [← tk_at (l := vl) (n := k) ht, e2.2.1, tk_at ht]
    have hon : on = true := on_of e2.2.2.2.2 (by omega)
    have hvl : k ≤ vl.length := Nat.le_trans e2.2.2.1 e2.2.2.2.1
    show (4 : Int).toNat + 0 < vl.length
    omega
  · rename_i b0 h4 v hv h5 bp
    have h4 : (decide ((n : Int) < 28) || decide ((n : Int).tmod 4 ≠ 0) || decide (nm l (((n : Int) - 4).toNat + i) ≠ crc ((l.drop i).take ((n : Int) - 4).toNat))) = false := h4
    rw [Int.tmod_eq_emod_of_nonneg (show (0 : Int) ≤ (n : Int) by omega)] at h4
    simp only [Bool.or_eq_false_iff, decide_eq_false_iff_not] at h4
    have h28 : 28 ≤ n := by omega
    have hm4 : n % 4 = 0 := by omega
    have e4 : ((n : Int) - 4).toNat = n - 4 := by omega
    obtain ⟨k, on, vb, vq, vl, vc⟩ := v
    obtain ⟨e1, e2⟩ : k ≤ (nsOf ((l.drop i).take n)).length ∧ Grw ((nsOf ((l.drop i).take n)).take k) vl on k vc := hv
    rw [hRl] at e1
    have h5 : ¬ 4 * (k : Int) + 4 < (n : Int) := of_decide_eq_false h5
    have hk : k = (n - 4) / 4 := by omega
    have hk4 : 4 * k = n - 4 := by omega
    have hg : ∀ t, t < k → vl.getD t 0 = (nsOf ((l.drop i).take n)).getD t 0 := by
      intro t ht
      rw [← tk_at (l := vl) (n := k) ht, e2.2.1, tk_at ht]
    have hon : on = true := on_of e2.2.2.2.2 (by omega)
    have hvl : k ≤ vl.length := Nat.le_trans e2.2.2.1 e2.2.2.2.1
    exact inR64 (by show _ ≤ (k : Int) - 6; omega) (by show (k : Int) - 6 ≤ _; omega)
  · rename_i b0 h4 v hv h5 bp
    have h4 : (decide ((n : Int) < 28) || decide ((n : Int).tmod 4 ≠ 0) || decide (nm l (((n : Int) - 4).toNat + i) ≠ crc ((l.drop i).take ((n : Int) - 4).toNat))) = false := h4
    rw [Int.tmod_eq_emod_of_nonneg (show (0 : Int) ≤ (n : Int) by omega)] at h4
    simp only [Bool.or_eq_false_iff, decide_eq_false_iff_not] at h4
    have h28 : 28 ≤ n := by omega
    have hm4 : n % 4 = 0 := by omega
    have e4 : ((n : Int) - 4).toNat = n - 4 := by omega
    obtain ⟨k, on, vb, vq, vl, vc⟩ := v
    obtain ⟨e1, e2⟩ : k ≤ (nsOf ((l.drop i).take n)).length ∧ Grw ((nsOf ((l.drop i).take n)).take k) vl on k vc := hv
    rw [hRl] at e1
    have h5 : ¬ 4 * (k : Int) + 4 < (n : Int) := of_decide_eq_false h5
    have hk : k = (n - 4) / 4 := by omega
    have hk4 : 4 * k = n - 4 := by omega
    have hg : ∀ t, t < k → vl.getD t 0 = (nsOf ((l.drop i).take n)).getD t 0 := by
      intro t ht
      rw [← tk_at (l := vl) (n := k) ht, e2.2.1, tk_at ht]
    have hon : on = true := on_of e2.2.2.2.2 (by omega)
    have hvl : k ≤ vl.length := Nat.le_trans e2.2.2.1 e2.2.2.2.1
    have htd : ((k : Int) - 6).tdiv 2 = ((k : Int) - 6) / 2 := Int.tdiv_eq_ediv_of_nonneg (by omega)
    rw [show ((k, on, vb, vq, vl, vc) : Gx Int).1 = k from rfl, htd]
    exact inR64 (by omega) (by omega)
  · rename_i b0 h4 v hv h5 bp h6
    have h4 : (decide ((n : Int) < 28) || decide ((n : Int).tmod 4 ≠ 0) || decide (nm l (((n : Int) - 4).toNat + i) ≠ crc ((l.drop i).take ((n : Int) - 4).toNat))) = false := h4
    rw [Int.tmod_eq_emod_of_nonneg (show (0 : Int) ≤ (n : Int) by omega)] at h4
    simp only [Bool.or_eq_false_iff, decide_eq_false_iff_not] at h4
    have h28 : 28 ≤ n := by omega
    have hm4 : n % 4 = 0 := by omega
    have e4 : ((n : Int) - 4).toNat = n - 4 := by omega
    obtain ⟨k, on, vb, vq, vl, vc⟩ := v
    obtain ⟨e1, e2⟩ : k ≤ (nsOf ((l.drop i).take n)).length ∧ Grw ((nsOf ((l.drop i).take n)).take k) vl on k vc := hv
    rw [hRl] at e1
    have h5 : ¬ 4 * (k : Int) + 4 < (n : Int) := of_decide_eq_false h5
    have hk : k = (n - 4) / 4 := by omega
    have hk4 : 4 * k = n - 4 := by omega
    have hg : ∀ t, t < k → vl.getD t 0 = (nsOf ((l.drop i).take n)).getD t 0 := by
      intro t ht
      rw [← tk_at (l := vl) (n := k) ht, e2.2.1, tk_at ht]
    have hon : on = true := on_of e2.2.2.2.2 (by omega)
    have hvl : k ≤ vl.length := Nat.le_trans e2.2.2.1 e2.2.2.2.1
    have htd : ((k : Int) - 6).tdiv 2 = ((k : Int) - 6) / 2 := Int.tdiv_eq_ediv_of_nonneg (by omega)
    have h6 :  ((k : Int) - 6).tdiv 2 < vl.getD 4 0 := of_decide_eq_true h6
    rw [htd, hg 4 (by omega)] at h6
    have hu4 := ns_u32 (bv := ((l.drop i).take n)) hb 4
    refine Ends.one () (fun h A B hp => ?_) ?_
    · obtain ⟨f1, f2, f3, f4, f5, f6⟩ := isPt_facts hp (by rw [hbl]; omega)
      have hc := (isPt_cnt hp (by rw [hbl]; omega)).1
      omega
    ((conv => (arg 1; reduce)); with_reducible repeat' (first | exact Tr.yes_h | refine Tr.and_h ?_ ?_ | refine Tr.imp_h fun _ => ?_ | refine Tr.all_h fun _ => ?_ | refine Tr.lf_h ?_))
    all_goals (first | first | (show Region.lexB _ _ = true; kernel_rfl) | (show planned _ _ = true; kernel_rfl) | exact rfl | exact True.intro | ((try dsimp only [imp, C0, cG, cInt, cPl, cSlot, cPg, rwCodec, cRaw] at *); (try refine inR64 ?_ ?_) <;> (try simp only [List.length_set, List.length_append, List.length_take, List.length_drop]) <;> omega))
  · rename_i b0 h4 v hv h5 bp h6
    have h4 : (decide ((n : Int) < 28) || decide ((n : Int).tmod 4 ≠ 0) || decide (nm l (((n : Int) - 4).toNat + i) ≠ crc ((l.drop i).take ((n : Int) - 4).toNat))) = false := h4
    rw [Int.tmod_eq_emod_of_nonneg (show (0 : Int) ≤ (n : Int) by omega)] at h4
    simp only [Bool.or_eq_false_iff, decide_eq_false_iff_not] at h4
    have h28 : 28 ≤ n := by omega
    have hm4 : n % 4 = 0 := by omega
    have e4 : ((n : Int) - 4).toNat = n - 4 := by omega
    obtain ⟨k, on, vb, vq, vl, vc⟩ := v
    obtain ⟨e1, e2⟩ : k ≤ (nsOf ((l.drop i).take n)).length ∧ Grw ((nsOf ((l.drop i).take n)).take k) vl on k vc := hv
    rw [hRl] at e1
    have h5 : ¬ 4 * (k : Int) + 4 < (n : Int) := of_decide_eq_false h5
    have hk : k = (n - 4) / 4 := by omega
    have hk4 : 4 * k = n - 4 := by omega
    have hg : ∀ t, t < k → vl.getD t 0 = (nsOf ((l.drop i).take n)).getD t 0 := by
      intro t ht
      rw [← tk_at (l := vl) (n := k) ht, e2.2.1, tk_at ht]
    have hon : on = true := on_of e2.2.2.2.2 (by omega)
    have hvl : k ≤ vl.length := Nat.le_trans e2.2.2.1 e2.2.2.2.1
    have htd : ((k : Int) - 6).tdiv 2 = ((k : Int) - 6) / 2 := Int.tdiv_eq_ediv_of_nonneg (by omega)
    have h6 : ¬ ((k : Int) - 6).tdiv 2 < vl.getD 4 0 := of_decide_eq_false h6
    rw [htd, hg 4 (by omega)] at h6
    have hu4 := ns_u32 (bv := ((l.drop i).take n)) hb 4
    obtain ⟨hB, hB2⟩ := nB_of (R := (nsOf ((l.drop i).take n))) (by rw [hRl]; omega) hu4.1 (by omega)
    refine Stands.one (0, false, 0, 0, [], 0) ⟨⟨Nat.zero_le _, ⟨rfl, rfl, Nat.le_refl _, Nat.le_refl _, fun _ => ⟨rfl, rfl⟩⟩, by rw [blks_zero]; rfl, by intro r hr; cases hr⟩, ?_⟩
    have g0 := hg 0 (by omega)
    have g1 := hg 1 (by omega)
    have g2 := hg 2 (by omega)
    have g3 := hg 3 (by omega)
    ((conv => (arg 1; reduce)); with_reducible repeat' (first | exact Tr.yes_h | refine Tr.and_h ?_ ?_ | refine Tr.imp_h fun _ => ?_ | refine Tr.all_h fun _ => ?_ | refine Tr.lf_h ?_))
    all_goals first | (first | first | (show Region.lexB _ _ = true; kernel_rfl) | (show planned _ _ = true; kernel_rfl) | exact rfl | exact True.intro | ((try dsimp only [imp, C0, cG, cInt, cPl, cSlot, cPg, rwCodec, cRaw] at *); (try refine inR64 ?_ ?_) <;> (try simp only [List.length_set, List.length_append, List.length_take, List.length_drop]) <;> omega)) | exact g0.symm | exact g1.symm | exact g2.symm | exact g3.symm
  · rename_i b0 h4 v hv h5 bp h6 w hw h7
    have h4 : (decide ((n : Int) < 28) || decide ((n : Int).tmod 4 ≠ 0) || decide (nm l (((n : Int) - 4).toNat + i) ≠ crc ((l.drop i).take ((n : Int) - 4).toNat))) = false := h4
    rw [Int.tmod_eq_emod_of_nonneg (show (0 : Int) ≤ (n : Int) by omega)] at h4
    simp only [Bool.or_eq_false_iff, decide_eq_false_iff_not] at h4
    have h28 : 28 ≤ n := by omega
    have hm4 : n % 4 = 0 := by omega
    have e4 : ((n : Int) - 4).toNat = n - 4 := by omega
    obtain ⟨k, on, vb, vq, vl, vc⟩ := v
    obtain ⟨e1, e2⟩ : k ≤ (nsOf ((l.drop i).take n)).length ∧ Grw ((nsOf ((l.drop i).take n)).take k) vl on k vc := hv
    rw [hRl] at e1
    have h5 : ¬ 4 * (k : Int) + 4 < (n : Int) := of_decide_eq_false h5
    have hk : k = (n - 4) / 4 := by omega
    have hk4 : 4 * k = n - 4 := by omega
    have hg : ∀ t, t < k → vl.getD t 0 = (nsOf ((l.drop i).take n)).getD t 0 := by
      intro t ht
      rw [← tk_at (l := vl) (n := k) ht, e2.2.1, tk_at ht]
    have hon : on = true := on_of e2.2.2.2.2 (by omega)
    have hvl : k ≤ vl.length := Nat.le_trans e2.2.2.1 e2.2.2.2.1
    have htd : ((k : Int) - 6).tdiv 2 = ((k : Int) - 6) / 2 := Int.tdiv_eq_ediv_of_nonneg (by omega)
    have h6 : ¬ ((k : Int) - 6).tdiv 2 < vl.getD 4 0 := of_decide_eq_false h6
    rw [htd, hg 4 (by omega)] at h6
    have hu4 := ns_u32 (bv := ((l.drop i).take n)) hb 4
    obtain ⟨hB, hB2⟩ := nB_of (R := (nsOf ((l.drop i).take n))) (by rw [hRl]; omega) hu4.1 (by omega)
    obtain ⟨j, won, wb, wq, wl, wc⟩ := w
    obtain ⟨f1, f2, f3, f4⟩ : j ≤ nB (nsOf ((l.drop i).take n)) ∧ Grw (wl.take j) wl won j wc ∧ (wl.take j).map (·.l) = (blks (nsOf ((l.drop i).take n)) j).map lst ∧ ∀ r ∈ wl.take j, Rok r := hw
    have h7 : (j : Int) < vl.getD 4 0 := of_decide_eq_true h7
    rw [hg 4 (by omega), hB] at h7
    exact hon
  · rename_i b0 h4 v hv h5 bp h6 w hw h7
    have h4 : (decide ((n : Int) < 28) || decide ((n : Int).tmod 4 ≠ 0) || decide (nm l (((n : Int) - 4).toNat + i) ≠ crc ((l.drop i).take ((n : Int) - 4).toNat))) = false := h4
    rw [Int.tmod_eq_emod_of_nonneg (show (0 : Int) ≤ (n : Int) by omega)] at h4
    simp only [Bool.or_eq_false_iff, decide_eq_false_iff_not] at h4
    have h28 : 28 ≤ n := by omega
    have hm4 : n % 4 = 0 := by omega
    have e4 : ((n : Int) - 4).toNat = n - 4 := by omega
    obtain ⟨k, on, vb, vq, vl, vc⟩ := v
    obtain ⟨e1, e2⟩ : k ≤ (nsOf ((l.drop i).take n)).length ∧ Grw ((nsOf ((l.drop i).take n)).take k) vl on k vc := hv
    rw [hRl] at e1
    have h5 : ¬ 4 * (k : Int) + 4 < (n : Int) := of_decide_eq_false h5
    have hk : k = (n - 4) / 4 := by omega
    have hk4 : 4 * k = n - 4 := by omega
    have hg : ∀ t, t < k → vl.getD t 0 = (nsOf ((l.drop i).take n)).getD t 0 := by
      intro t ht
      rw [← tk_at (l := vl) (n := k) ht, e2.2.1, tk_at ht]
    have hon : on = true := on_of e2.2.2.2.2 (by omega)
    have hvl : k ≤ vl.length := Nat.le_trans e2.2.2.1 e2.2.2.2.1
    have htd : ((k : Int) - 6).tdiv 2 = ((k : Int) - 6) / 2 := Int.tdiv_eq_ediv_of_nonneg (by omega)
    have h6 : ¬ ((k : Int) - 6).tdiv 2 < vl.getD 4 0 := of_decide_eq_false h6
    rw [htd, hg 4 (by omega)] at h6
    have hu4 := ns_u32 (bv := ((l.drop i).take n)) hb 4
    obtain ⟨hB, hB2⟩ := nB_of (R := (nsOf ((l.drop i).take n))) (by rw [hRl]; omega) hu4.1 (by omega)
    obtain ⟨j, won, wb, wq, wl, wc⟩ := w
    obtain ⟨f1, f2, f3, f4⟩ : j ≤ nB (nsOf ((l.drop i).take n)) ∧ Grw (wl.take j) wl won j wc ∧ (wl.take j).map (·.l) = (blks (nsOf ((l.drop i).take n)) j).map lst ∧ ∀ r ∈ wl.take j, Rok r := hw
    have h7 : (j : Int) < vl.getD 4 0 := of_decide_eq_true h7
    rw [hg 4 (by omega), hB] at h7
    show 5 + 2 * (j : Int) < (k : Int)
    omega
  · rename_i b0 h4 v hv h5 bp h6 w hw h7
    have h4 : (decide ((n : Int) < 28) || decide ((n : Int).tmod 4 ≠ 0) || decide (nm l (((n : Int) - 4).toNat + i) ≠ crc ((l.drop i).take ((n : Int) - 4).toNat))) = false := h4
    rw [Int.tmod_eq_emod_of_nonneg (show (0 : Int) ≤ (n : Int) by omega)] at h4
    simp only [Bool.or_eq_false_iff, decide_eq_false_iff_not] at h4
    have h28 : 28 ≤ n := by omega
    have hm4 : n % 4 = 0 := by omega
    have e4 : ((n : Int) - 4).toNat = n - 4 := by omega
    obtain ⟨k, on, vb, vq, vl, vc⟩ := v
    obtain ⟨e1, e2⟩ : k ≤ (nsOf ((l.drop i).take n)).length ∧ Grw ((nsOf ((l.drop i).take n)).take k) vl on k vc := hv
    rw [hRl] at e1
    have h5 : ¬ 4 * (k : Int) + 4 < (n : Int) := of_decide_eq_false h5
    have hk : k = (n - 4) / 4 := by omega
    have hk4 : 4 * k = n - 4 := by omega
    have hg : ∀ t, t < k → vl.getD t 0 = (nsOf ((l.drop i).take n)).getD t 0 := by
      intro t ht
      rw [← tk_at (l := vl) (n := k) ht, e2.2.1, tk_at ht]
    have hon : on = true := on_of e2.2.2.2.2 (by omega)
    have hvl : k ≤ vl.length := Nat.le_trans e2.2.2.1 e2.2.2.2.1
    have htd : ((k : Int) - 6).tdiv 2 = ((k : Int) - 6) / 2 := Int.tdiv_eq_ediv_of_nonneg (by omega)
    have h6 : ¬ ((k : Int) - 6).tdiv 2 < vl.getD 4 0 := of_decide_eq_false h6
    rw [htd, hg 4 (by omega)] at h6
    have hu4 := ns_u32 (bv := ((l.drop i).take n)) hb 4
    obtain ⟨hB, hB2⟩ := nB_of (R := (nsOf ((l.drop i).take n))) (by rw [hRl]; omega) hu4.1 (by omega)
    obtain ⟨j, won, wb, wq, wl, wc⟩ := w
    obtain ⟨f1, f2, f3, f4⟩ : j ≤ nB (nsOf ((l.drop i).take n)) ∧ Grw (wl.take j) wl won j wc ∧ (wl.take j).map (·.l) = (blks (nsOf ((l.drop i).take n)) j).map lst ∧ ∀ r ∈ wl.take j, Rok r := hw
    have h7 : (j : Int) < vl.getD 4 0 := of_decide_eq_true h7
    rw [hg 4 (by omega), hB] at h7
    exact hon
  · rename_i b0 h4 v hv h5 bp h6 w hw h7
    have h4 : (decide ((n : Int) < 28) || decide ((n : Int).tmod 4 ≠ 0) || decide (nm l (((n : Int) - 4).toNat + i) ≠ crc ((l.drop i).take ((n : Int) - 4).toNat))) = false := h4
    rw [Int.tmod_eq_emod_of_nonneg (show (0 : Int) ≤ (n : Int) by omega)] at h4
    simp only [Bool.or_eq_false_iff, decide_eq_false_iff_not] at h4
    have h28 : 28 ≤ n := by omega
    have hm4 : n % 4 = 0 := by omega
    have e4 : ((n : Int) - 4).toNat = n - 4 := by omega
    obtain ⟨k, on, vb, vq, vl, vc⟩ := v
    obtain ⟨e1, e2⟩ : k ≤ (nsOf ((l.drop i).take n)).length ∧ Grw ((nsOf ((l.drop i).take n)).take k) vl on k vc := hv
    rw [hRl] at e1
    have h5 : ¬ 4 * (k : Int) + 4 < (n : Int) := of_decide_eq_false h5
    have hk : k = (n - 4) / 4 := by omega
    have hk4 : 4 * k = n - 4 := by omega
    have hg : ∀ t, t < k → vl.getD t 0 = (nsOf ((l.drop i).take n)).getD t 0 := by
      intro t ht
      rw [← tk_at (l := vl) (n := k) ht, e2.2.1, tk_at ht]
    have hon : on = true := on_of e2.2.2.2.2 (by omega)
    have hvl : k ≤ vl.length := Nat.le_trans e2.2.2.1 e2.2.2.2.1
    have htd : ((k : Int) - 6).tdiv 2 = ((k : Int) - 6) / 2 := Int.tdiv_eq_ediv_of_nonneg (by omega)
    have h6 : ¬ ((k : Int) - 6).tdiv 2 < vl.getD 4 0 := of_decide_eq_false h6
    rw [htd, hg 4 (by omega)] at h6
    have hu4 := ns_u32 (bv := ((l.drop i).take n)) hb 4
    obtain ⟨hB, hB2⟩ := nB_of (R := (nsOf ((l.drop i).take n))) (by rw [hRl]; omega) hu4.1 (by omega)
    obtain ⟨j, won, wb, wq, wl, wc⟩ := w
    obtain ⟨f1, f2, f3, f4⟩ : j ≤ nB (nsOf ((l.drop i).take n)) ∧ Grw (wl.take j) wl won j wc ∧ (wl.take j).map (·.l) = (blks (nsOf ((l.drop i).take n)) j).map lst ∧ ∀ r ∈ wl.take j, Rok r := hw
    have h7 : (j : Int) < vl.getD 4 0 := of_decide_eq_true h7
    rw [hg 4 (by omega), hB] at h7
    show (5 + 2 * (j : Int)).toNat + 0 < vl.length
    omega
  · rename_i b0 h4 v hv h5 bp h6 w hw h7
    have h4 : (decide ((n : Int) < 28) || decide ((n : Int).tmod 4 ≠ 0) || decide (nm l (((n : Int) - 4).toNat + i) ≠ crc ((l.drop i).take ((n : Int) - 4).toNat))) = false := h4
    rw [Int.tmod_eq_emod_of_nonneg (show (0 : Int) ≤ (n : Int) by omega)] at h4
    simp only [Bool.or_eq_false_iff, decide_eq_false_iff_not] at h4
    have h28 : 28 ≤ n := by omega
    have hm4 : n % 4 = 0 := by omega
    have e4 : ((n : Int) - 4).toNat = n - 4 := by omega
    obtain ⟨k, on, vb, vq, vl, vc⟩ := v
    obtain ⟨e1, e2⟩ : k ≤ (nsOf ((l.drop i).take n)).length ∧ Grw ((nsOf ((l.drop i).take n)).take k) vl on k vc := hv
    rw [hRl] at e1
    have h5 : ¬ 4 * (k : Int) + 4 < (n : Int) := of_decide_eq_false h5
    have hk : k = (n - 4) / 4 := by omega
    have hk4 : 4 * k = n - 4 := by omega
    have hg : ∀ t, t < k → vl.getD t 0 = (nsOf ((l.drop i).take n)).getD t 0 := by
      intro t ht
      rw [← tk_at (l := vl) (n := k) ht, e2.2.1, tk_at ht]
    have hon : on = true := on_of e2.2.2.2.2 (by omega)
    have hvl : k ≤ vl.length := Nat.le_trans e2.2.2.1 e2.2.2.2.1
    have htd : ((k : Int) - 6).tdiv 2 = ((k : Int) - 6) / 2 := Int.tdiv_eq_ediv_of_nonneg (by omega)
    have h6 : ¬ ((k : Int) - 6).tdiv 2 < vl.getD 4 0 := of_decide_eq_false h6
    rw [htd, hg 4 (by omega)] at h6
    have hu4 := ns_u32 (bv := ((l.drop i).take n)) hb 4
    obtain ⟨hB, hB2⟩ := nB_of (R := (nsOf ((l.drop i).take n))) (by rw [hRl]; omega) hu4.1 (by omega)
    obtain ⟨j, won, wb, wq, wl, wc⟩ := w
    obtain ⟨f1, f2, f3, f4⟩ : j ≤ nB (nsOf ((l.drop i).take n)) ∧ Grw (wl.take j) wl won j wc ∧ (wl.take j).map (·.l) = (blks (nsOf ((l.drop i).take n)) j).map lst ∧ ∀ r ∈ wl.take j, Rok r := hw
    have h7 : (j : Int) < vl.getD 4 0 := of_decide_eq_true h7
    rw [hg 4 (by omega), hB] at h7
    exact inR64 (by show _ ≤ 5 + 2 * (j : Int) + 1; omega) (by show 5 + 2 * (j : Int) + 1 ≤ _; omega)
  · rename_i b0 h4 v hv h5 bp h6 w hw h7
    have h4 : (decide ((n : Int) < 28) || decide ((n : Int).tmod 4 ≠ 0) || decide (nm l (((n : Int) - 4).toNat + i) ≠ crc ((l.drop i).take ((n : Int) - 4).toNat))) = false := h4
    rw [Int.tmod_eq_emod_of_nonneg (show (0 : Int) ≤ (n : Int) by omega)] at h4
    simp only [Bool.or_eq_false_iff, decide_eq_false_iff_not] at h4
    have h28 : 28 ≤ n := by omega
    have hm4 : n % 4 = 0 := by omega
    have e4 : ((n : Int) - 4).toNat = n - 4 := by omega
    obtain ⟨k, on, vb, vq, vl, vc⟩ := v
    obtain ⟨e1, e2⟩ : k ≤ (nsOf ((l.drop i).take n)).length ∧ Grw ((nsOf ((l.drop i).take n)).take k) vl on k vc := hv
    rw [hRl] at e1
    have h5 : ¬ 4 * (k : Int) + 4 < (n : Int) := of_decide_eq_false h5
    have hk : k = (n - 4) / 4 := by omega
    have hk4 : 4 * k = n - 4 := by omega
    have hg : ∀ t, t < k → vl.getD t 0 = (nsOf ((l.drop i).take n)).getD t 0 := by
      intro t ht
      rw [← tk_at (l := vl) (n := k) ht, e2.2.1, tk_at ht]
    have hon : on = true := on_of e2.2.2.2.2 (by omega)
    have hvl : k ≤ vl.length := Nat.le_trans e2.2.2.1 e2.2.2.2.1
    have htd : ((k : Int) - 6).tdiv 2 = ((k : Int) - 6) / 2 := Int.tdiv_eq_ediv_of_nonneg (by omega)
    have h6 : ¬ ((k : Int) - 6).tdiv 2 < vl.getD 4 0 := of_decide_eq_false h6
    rw [htd, hg 4 (by omega)] at h6
    have hu4 := ns_u32 (bv := ((l.drop i).take n)) hb 4
    obtain ⟨hB, hB2⟩ := nB_of (R := (nsOf ((l.drop i).take n))) (by rw [hRl]; omega) hu4.1 (by omega)
    obtain ⟨j, won, wb, wq, wl, wc⟩ := w
    obtain ⟨f1, f2, f3, f4⟩ : j ≤ nB (nsOf ((l.drop i).take n)) ∧ Grw (wl.take j) wl won j wc ∧ (wl.take j).map (·.l) = (blks (nsOf ((l.drop i).take n)) j).map lst ∧ ∀ r ∈ wl.take j, Rok r := hw
    have h7 : (j : Int) < vl.getD 4 0 := of_decide_eq_true h7
    rw [hg 4 (by omega), hB] at h7
    exact hon
  · rename_i b0 h4 v hv h5 bp h6 w hw h7
    have h4 : (decide ((n : Int) < 28) || decide ((n : Int).tmod 4 ≠ 0) || decide (nm l (((n : Int) - 4).toNat + i) ≠ crc ((l.drop i).take ((n : Int) - 4).toNat))) = false := h4
    rw [Int.tmod_eq_emod_of_nonneg (show (0 : Int) ≤ (n : Int) by omega)] at h4
    simp only [Bool.or_eq_false_iff, decide_eq_false_iff_not] at h4
    have h28 : 28 ≤ n := by omega
    have hm4 : n % 4 = 0 := by omega
    have e4 : ((n : Int) - 4).toNat = n - 4 := by omega
    obtain ⟨k, on, vb, vq, vl, vc⟩ := v
    obtain ⟨e1, e2⟩ : k ≤ (nsOf ((l.drop i).take n)).length ∧ Grw ((nsOf ((l.drop i).take n)).take k) vl on k vc := hv
    rw [hRl] at e1
    have h5 : ¬ 4 * (k : Int) + 4 < (n : Int) := of_decide_eq_false h5
    have hk : k = (n - 4) / 4 := by omega
    have hk4 : 4 * k = n - 4 := by omega
    have hg : ∀ t, t < k → vl.getD t 0 = (nsOf ((l.drop i).take n)).getD t 0 := by
      intro t ht
      rw [← tk_at (l := vl) (n := k) ht, e2.2.1, tk_at ht]
    have hon : on = true := on_of e2.2.2.2.2 (by omega)
    have hvl : k ≤ vl.length := Nat.le_trans e2.2.2.1 e2.2.2.2.1
    have htd : ((k : Int) - 6).tdiv 2 = ((k : Int) - 6) / 2 := Int.tdiv_eq_ediv_of_nonneg (by omega)
    have h6 : ¬ ((k : Int) - 6).tdiv 2 < vl.getD 4 0 := of_decide_eq_false h6
    rw [htd, hg 4 (by omega)] at h6
    have hu4 := ns_u32 (bv := ((l.drop i).take n)) hb 4
    obtain ⟨hB, hB2⟩ := nB_of (R := (nsOf ((l.drop i).take n))) (by rw [hRl]; omega) hu4.1 (by omega)
    obtain ⟨j, won, wb, wq, wl, wc⟩ := w
    obtain ⟨f1, f2, f3, f4⟩ : j ≤ nB (nsOf ((l.drop i).take n)) ∧ Grw (wl.take j) wl won j wc ∧ (wl.take j).map (·.l) = (blks (nsOf ((l.drop i).take n)) j).map lst ∧ ∀ r ∈ wl.take j, Rok r := hw
    have h7 : (j : Int) < vl.getD 4 0 := of_decide_eq_true h7
    rw [hg 4 (by omega), hB] at h7
    show 5 + 2 * (j : Int) + 1 < (k : Int)
    omega
  · rename_i b0 h4 v hv h5 bp h6 w hw h7
    have h4 : (decide ((n : Int) < 28) || decide ((n : Int).tmod 4 ≠ 0) || decide (nm l (((n : Int) - 4).toNat + i) ≠ crc ((l.drop i).take ((n : Int) - 4).toNat))) = false := h4
    rw [Int.tmod_eq_emod_of_nonneg (show (0 : Int) ≤ (n : Int) by omega)] at h4
    simp only [Bool.or_eq_false_iff, decide_eq_false_iff_not] at h4
    have h28 : 28 ≤ n := by omega
    have hm4 : n % 4 = 0 := by omega
    have e4 : ((n : Int) - 4).toNat = n - 4 := by omega
    obtain ⟨k, on, vb, vq, vl, vc⟩ := v
    obtain ⟨e1, e2⟩ : k ≤ (nsOf ((l.drop i).take n)).length ∧ Grw ((nsOf ((l.drop i).take n)).take k) vl on k vc := hv
    rw [hRl] at e1
    have h5 : ¬ 4 * (k : Int) + 4 < (n : Int) := of_decide_eq_false h5
    have hk : k = (n - 4) / 4 := by omega
    have hk4 : 4 * k = n - 4 := by omega
    have hg : ∀ t, t < k → vl.getD t 0 = (nsOf ((l.drop i).take n)).getD t 0 := by
      intro t ht
      rw [← tk_at (l := vl) (n := k) ht, e2.2.1, tk_at ht]
    have hon : on = true := on_of e2.2.2.2.2 (by omega)
    have hvl : k ≤ vl.length := Nat.le_trans e2.2.2.1 e2.2.2.2.1
    have htd : ((k : Int) - 6).tdiv 2 = ((k : Int) - 6) / 2 := Int.tdiv_eq_ediv_of_nonneg (by omega)
    have h6 : ¬ ((k : Int) - 6).tdiv 2 < vl.getD 4 0 := of_decide_eq_false h6
    rw [htd, hg 4 (by omega)] at h6
    have hu4 := ns_u32 (bv := ((l.drop i).take n)) hb 4
    obtain ⟨hB, hB2⟩ := nB_of (R := (nsOf ((l.drop i).take n))) (by rw [hRl]; omega) hu4.1 (by omega)
    obtain ⟨j, won, wb, wq, wl, wc⟩ := w
    obtain ⟨f1, f2, f3, f4⟩ : j ≤ nB (nsOf ((l.drop i).take n)) ∧ Grw (wl.take j) wl won j wc ∧ (wl.take j).map (·.l) = (blks (nsOf ((l.drop i).take n)) j).map lst ∧ ∀ r ∈ wl.take j, Rok r := hw
    have h7 : (j : Int) < vl.getD 4 0 := of_decide_eq_true h7
    rw [hg 4 (by omega), hB] at h7
    exact hon
  · rename_i b0 h4 v hv h5 bp h6 w hw h7
    have h4 : (decide ((n : Int) < 28) || decide ((n : Int).tmod 4 ≠ 0) || decide (nm l (((n : Int) - 4).toNat + i) ≠ crc ((l.drop i).take ((n : Int) - 4).toNat))) = false := h4
    rw [Int.tmod_eq_emod_of_nonneg (show (0 : Int) ≤ (n : Int) by omega)] at h4
    simp only [Bool.or_eq_false_iff, decide_eq_false_iff_not] at h4
    have h28 : 28 ≤ n := by omega
    have hm4 : n % 4 = 0 := by omega
    have e4 : ((n : Int) - 4).toNat = n - 4 := by omega
    obtain ⟨k, on, vb, vq, vl, vc⟩ := v
    obtain ⟨e1, e2⟩ : k ≤ (nsOf ((l.drop i).take n)).length ∧ Grw ((nsOf ((l.drop i).take n)).take k) vl on k vc := hv
    rw [hRl] at e1
    have h5 : ¬ 4 * (k : Int) + 4 < (n : Int) := of_decide_eq_false h5
    have hk : k = (n - 4) / 4 := by omega
    have hk4 : 4 * k = n - 4 := by omega
    have hg : ∀ t, t < k → vl.getD t 0 = (nsOf ((l.drop i).take n)).getD t 0 := by
      intro t ht
      rw [← tk_at (l := vl) (n := k) ht, e2.2.1, tk_at ht]
    have hon : on = true := on_of e2.2.2.2.2 (by omega)
    have hvl : k ≤ vl.length := Nat.le_trans e2.2.2.1 e2.2.2.2.1
    have htd : ((k : Int) - 6).tdiv 2 = ((k : Int) - 6) / 2 := Int.tdiv_eq_ediv_of_nonneg (by omega)
    have h6 : ¬ ((k : Int) - 6).tdiv 2 < vl.getD 4 0 := of_decide_eq_false h6
    rw [htd, hg 4 (by omega)] at h6
    have hu4 := ns_u32 (bv := ((l.drop i).take n)) hb 4
    obtain ⟨hB, hB2⟩ := nB_of (R := (nsOf ((l.drop i).take n))) (by rw [hRl]; omega) hu4.1 (by omega)
    obtain ⟨j, won, wb, wq, wl, wc⟩ := w
    obtain ⟨f1, f2, f3, f4⟩ : j ≤ nB (nsOf ((l.drop i).take n)) ∧ Grw (wl.take j) wl won j wc ∧ (wl.take j).map (·.l) = (blks (nsOf ((l.drop i).take n)) j).map lst ∧ ∀ r ∈ wl.take j, Rok r := hw
    have h7 : (j : Int) < vl.getD 4 0 := of_decide_eq_true h7
    rw [hg 4 (by omega), hB] at h7
    show (5 + 2 * (j : Int) + 1).toNat + 0 < vl.length
    omega
  · exact Nat.le_refl 2
  · rename_i b0 h4 v hv h5 bp h6 w hw h7 bk bk2
    have h4 : (decide ((n : Int) < 28) || decide ((n : Int).tmod 4 ≠ 0) || decide (nm l (((n : Int) - 4).toNat + i) ≠ crc ((l.drop i).take ((n : Int) - 4).toNat))) = false := h4
    rw [Int.tmod_eq_emod_of_nonneg (show (0 : Int) ≤ (n : Int) by omega)] at h4
    simp only [Bool.or_eq_false_iff, decide_eq_false_iff_not] at h4
    have h28 : 28 ≤ n := by omega
    have hm4 : n % 4 = 0 := by omega
    have e4 : ((n : Int) - 4).toNat = n - 4 := by omega
    obtain ⟨k, on, vb, vq, vl, vc⟩ := v
    obtain ⟨e1, e2⟩ : k ≤ (nsOf ((l.drop i).take n)).length ∧ Grw ((nsOf ((l.drop i).take n)).take k) vl on k vc := hv
    rw [hRl] at e1
    have h5 : ¬ 4 * (k : Int) + 4 < (n : Int) := of_decide_eq_false h5
    have hk : k = (n - 4) / 4 := by omega
    have hk4 : 4 * k = n - 4 := by omega
    have hg : ∀ t, t < k → vl.getD t 0 = (nsOf ((l.drop i).take n)).getD t 0 := by
      intro t ht
      rw [← tk_at (l := vl) (n := k) ht, e2.2.1, tk_at ht]
    have hon : on = true := on_of e2.2.2.2.2 (by omega)
    have hvl : k ≤ vl.length := Nat.le_trans e2.2.2.1 e2.2.2.2.1
    have htd : ((k : Int) - 6).tdiv 2 = ((k : Int) - 6) / 2 := Int.tdiv_eq_ediv_of_nonneg (by omega)
    have h6 : ¬ ((k : Int) - 6).tdiv 2 < vl.getD 4 0 := of_decide_eq_false h6
    rw [htd, hg 4 (by omega)] at h6
    have hu4 := ns_u32 (bv := ((l.drop i).take n)) hb 4
    obtain ⟨hB, hB2⟩ := nB_of (R := (nsOf ((l.drop i).take n))) (by rw [hRl]; omega) hu4.1 (by omega)
    obtain ⟨j, won, wb, wq, wl, wc⟩ := w
    obtain ⟨f1, f2, f3, f4⟩ : j ≤ nB (nsOf ((l.drop i).take n)) ∧ Grw (wl.take j) wl won j wc ∧ (wl.take j).map (·.l) = (blks (nsOf ((l.drop i).take n)) j).map lst ∧ ∀ r ∈ wl.take j, Rok r := hw
    have h7 : (j : Int) < vl.getD 4 0 := of_decide_eq_true h7
    rw [hg 4 (by omega), hB] at h7
    obtain ⟨k1, k2, k3, k4, k5⟩ := f2
    rw [by71]
    exact ⟨k3, by show 0 + wc ≤ wl.length; omega, Nat.le_refl 1, by show (j + 1) * 24 ≤ _; omega⟩
  · rename_i b0 h4 v hv h5 bp h6 w hw h7 bk bk2
    have h4 : (decide ((n : Int) < 28) || decide ((n : Int).tmod 4 ≠ 0) || decide (nm l (((n : Int) - 4).toNat + i) ≠ crc ((l.drop i).take ((n : Int) - 4).toNat))) = false := h4
    rw [Int.tmod_eq_emod_of_nonneg (show (0 : Int) ≤ (n : Int) by omega)] at h4
    simp only [Bool.or_eq_false_iff, decide_eq_false_iff_not] at h4
    have h28 : 28 ≤ n := by omega
    have hm4 : n % 4 = 0 := by omega
    have e4 : ((n : Int) - 4).toNat = n - 4 := by omega
    obtain ⟨k, on, vb, vq, vl, vc⟩ := v
    obtain ⟨e1, e2⟩ : k ≤ (nsOf ((l.drop i).take n)).length ∧ Grw ((nsOf ((l.drop i).take n)).take k) vl on k vc := hv
    rw [hRl] at e1
    have h5 : ¬ 4 * (k : Int) + 4 < (n : Int) := of_decide_eq_false h5
    have hk : k = (n - 4) / 4 := by omega
    have hk4 : 4 * k = n - 4 := by omega
    have hg : ∀ t, t < k → vl.getD t 0 = (nsOf ((l.drop i).take n)).getD t 0 := by
      intro t ht
      rw [← tk_at (l := vl) (n := k) ht, e2.2.1, tk_at ht]
    have hon : on = true := on_of e2.2.2.2.2 (by omega)
    have hvl : k ≤ vl.length := Nat.le_trans e2.2.2.1 e2.2.2.2.1
    have htd : ((k : Int) - 6).tdiv 2 = ((k : Int) - 6) / 2 := Int.tdiv_eq_ediv_of_nonneg (by omega)
    have h6 : ¬ ((k : Int) - 6).tdiv 2 < vl.getD 4 0 := of_decide_eq_false h6
    rw [htd, hg 4 (by omega)] at h6
    have hu4 := ns_u32 (bv := ((l.drop i).take n)) hb 4
    obtain ⟨hB, hB2⟩ := nB_of (R := (nsOf ((l.drop i).take n))) (by rw [hRl]; omega) hu4.1 (by omega)
    obtain ⟨j, won, wb, wq, wl, wc⟩ := w
    obtain ⟨f1, f2, f3, f4⟩ : j ≤ nB (nsOf ((l.drop i).take n)) ∧ Grw (wl.take j) wl won j wc ∧ (wl.take j).map (·.l) = (blks (nsOf ((l.drop i).take n)) j).map lst ∧ ∀ r ∈ wl.take j, Rok r := hw
    have h7 : (j : Int) < vl.getD 4 0 := of_decide_eq_true h7
    rw [hg 4 (by omega), hB] at h7
    exact f2.2.2.2.2
  · rename_i b0 h4 v hv h5 bp h6 w hw h7 bk bk2 b9 q9 sp cap m1 m2
    have h4 : (decide ((n : Int) < 28) || decide ((n : Int).tmod 4 ≠ 0) || decide (nm l (((n : Int) - 4).toNat + i) ≠ crc ((l.drop i).take ((n : Int) - 4).toNat))) = false := h4
    rw [Int.tmod_eq_emod_of_nonneg (show (0 : Int) ≤ (n : Int) by omega)] at h4
    simp only [Bool.or_eq_false_iff, decide_eq_false_iff_not] at h4
    have h28 : 28 ≤ n := by omega
    have hm4 : n % 4 = 0 := by omega
    have e4 : ((n : Int) - 4).toNat = n - 4 := by omega
    obtain ⟨k, on, vb, vq, vl, vc⟩ := v
    obtain ⟨e1, e2⟩ : k ≤ (nsOf ((l.drop i).take n)).length ∧ Grw ((nsOf ((l.drop i).take n)).take k) vl on k vc := hv
    rw [hRl] at e1
    have h5 : ¬ 4 * (k : Int) + 4 < (n : Int) := of_decide_eq_false h5
    have hk : k = (n - 4) / 4 := by omega
    have hk4 : 4 * k = n - 4 := by omega
    have hg : ∀ t, t < k → vl.getD t 0 = (nsOf ((l.drop i).take n)).getD t 0 := by
      intro t ht
      rw [← tk_at (l := vl) (n := k) ht, e2.2.1, tk_at ht]
    have hon : on = true := on_of e2.2.2.2.2 (by omega)
    have hvl : k ≤ vl.length := Nat.le_trans e2.2.2.1 e2.2.2.2.1
    have htd : ((k : Int) - 6).tdiv 2 = ((k : Int) - 6) / 2 := Int.tdiv_eq_ediv_of_nonneg (by omega)
    have h6 : ¬ ((k : Int) - 6).tdiv 2 < vl.getD 4 0 := of_decide_eq_false h6
    rw [htd, hg 4 (by omega)] at h6
    have hu4 := ns_u32 (bv := ((l.drop i).take n)) hb 4
    obtain ⟨hB, hB2⟩ := nB_of (R := (nsOf ((l.drop i).take n))) (by rw [hRl]; omega) hu4.1 (by omega)
    obtain ⟨j, won, wb, wq, wl, wc⟩ := w
    obtain ⟨f1, f2, f3, f4⟩ : j ≤ nB (nsOf ((l.drop i).take n)) ∧ Grw (wl.take j) wl won j wc ∧ (wl.take j).map (·.l) = (blks (nsOf ((l.drop i).take n)) j).map lst ∧ ∀ r ∈ wl.take j, Rok r := hw
    have h7 : (j : Int) < vl.getD 4 0 := of_decide_eq_true h7
    rw [hg 4 (by omega), hB] at h7
    exact inR64 (by show _ ≤ 5 + 2 * (j : Int) + 2; omega) (by show 5 + 2 * (j : Int) + 2 ≤ _; omega)
  · rename_i b0 h4 v hv h5 bp h6 w hw h7 bk bk2 b9 q9 sp cap m1 m2
    have h4 : (decide ((n : Int) < 28) || decide ((n : Int).tmod 4 ≠ 0) || decide (nm l (((n : Int) - 4).toNat + i) ≠ crc ((l.drop i).take ((n : Int) - 4).toNat))) = false := h4
    rw [Int.tmod_eq_emod_of_nonneg (show (0 : Int) ≤ (n : Int) by omega)] at h4
    simp only [Bool.or_eq_false_iff, decide_eq_false_iff_not] at h4
    have h28 : 28 ≤ n := by omega
    have hm4 : n % 4 = 0 := by omega
    have e4 : ((n : Int) - 4).toNat = n - 4 := by omega
    obtain ⟨k, on, vb, vq, vl, vc⟩ := v
    obtain ⟨e1, e2⟩ : k ≤ (nsOf ((l.drop i).take n)).length ∧ Grw ((nsOf ((l.drop i).take n)).take k) vl on k vc := hv
    rw [hRl] at e1
    have h5 : ¬ 4 * (k : Int) + 4 < (n : Int) := of_decide_eq_false h5
    have hk : k = (n - 4) / 4 := by omega
    have hk4 : 4 * k = n - 4 := by omega
    have hg : ∀ t, t < k → vl.getD t 0 = (nsOf ((l.drop i).take n)).getD t 0 := by
      intro t ht
      rw [← tk_at (l := vl) (n := k) ht, e2.2.1, tk_at ht]
    have hon : on = true := on_of e2.2.2.2.2 (by omega)
    have hvl : k ≤ vl.length := Nat.le_trans e2.2.2.1 e2.2.2.2.1
    have htd : ((k : Int) - 6).tdiv 2 = ((k : Int) - 6) / 2 := Int.tdiv_eq_ediv_of_nonneg (by omega)
    have h6 : ¬ ((k : Int) - 6).tdiv 2 < vl.getD 4 0 := of_decide_eq_false h6
    rw [htd, hg 4 (by omega)] at h6
    have hu4 := ns_u32 (bv := ((l.drop i).take n)) hb 4
    obtain ⟨hB, hB2⟩ := nB_of (R := (nsOf ((l.drop i).take n))) (by rw [hRl]; omega) hu4.1 (by omega)
    obtain ⟨j, won, wb, wq, wl, wc⟩ := w
    obtain ⟨f1, f2, f3, f4⟩ : j ≤ nB (nsOf ((l.drop i).take n)) ∧ Grw (wl.take j) wl won j wc ∧ (wl.take j).map (·.l) = (blks (nsOf ((l.drop i).take n)) j).map lst ∧ ∀ r ∈ wl.take j, Rok r := hw
    have h7 : (j : Int) < vl.getD 4 0 := of_decide_eq_true h7
    rw [hg 4 (by omega), hB] at h7
    exact inR64 (by show _ ≤ (j : Int) + 1; omega) (by show (j : Int) + 1 ≤ _; omega)
  · rename_i b0 h4 v hv h5 bp h6 w hw h7 bk bk2 b9 q9 sp cap m1 m2
    have h4 : (decide ((n : Int) < 28) || decide ((n : Int).tmod 4 ≠ 0) || decide (nm l (((n : Int) - 4).toNat + i) ≠ crc ((l.drop i).take ((n : Int) - 4).toNat))) = false := h4
    rw [Int.tmod_eq_emod_of_nonneg (show (0 : Int) ≤ (n : Int) by omega)] at h4
    simp only [Bool.or_eq_false_iff, decide_eq_false_iff_not] at h4
    have h28 : 28 ≤ n := by omega
    have hm4 : n % 4 = 0 := by omega
    have e4 : ((n : Int) - 4).toNat = n - 4 := by omega
    obtain ⟨k, on, vb, vq, vl, vc⟩ := v
    obtain ⟨e1, e2⟩ : k ≤ (nsOf ((l.drop i).take n)).length ∧ Grw ((nsOf ((l.drop i).take n)).take k) vl on k vc := hv
    rw [hRl] at e1
    have h5 : ¬ 4 * (k : Int) + 4 < (n : Int) := of_decide_eq_false h5
    have hk : k = (n - 4) / 4 := by omega
    have hk4 : 4 * k = n - 4 := by omega
    have hg : ∀ t, t < k → vl.getD t 0 = (nsOf ((l.drop i).take n)).getD t 0 := by
      intro t ht
      rw [← tk_at (l := vl) (n := k) ht, e2.2.1, tk_at ht]
    have hon : on = true := on_of e2.2.2.2.2 (by omega)
    have hvl : k ≤ vl.length := Nat.le_trans e2.2.2.1 e2.2.2.2.1
    have htd : ((k : Int) - 6).tdiv 2 = ((k : Int) - 6) / 2 := Int.tdiv_eq_ediv_of_nonneg (by omega)
    have h6 : ¬ ((k : Int) - 6).tdiv 2 < vl.getD 4 0 := of_decide_eq_false h6
    rw [htd, hg 4 (by omega)] at h6
    have hu4 := ns_u32 (bv := ((l.drop i).take n)) hb 4
    obtain ⟨hB, hB2⟩ := nB_of (R := (nsOf ((l.drop i).take n))) (by rw [hRl]; omega) hu4.1 (by omega)
    obtain ⟨j, won, wb, wq, wl, wc⟩ := w
    obtain ⟨f1, f2, f3, f4⟩ : j ≤ nB (nsOf ((l.drop i).take n)) ∧ Grw (wl.take j) wl won j wc ∧ (wl.take j).map (·.l) = (blks (nsOf ((l.drop i).take n)) j).map lst ∧ ∀ r ∈ wl.take j, Rok r := hw
    have h7 : (j : Int) < vl.getD 4 0 := of_decide_eq_true h7
    rw [hg 4 (by omega), hB] at h7
    have q1 : vl.getD ((5 + 2 * (j : Int)).toNat + 0) 0 = (nsOf ((l.drop i).take n)).getD (5 + 2 * j) 0 := by rw [show (5 + 2 * (j : Int)).toNat + 0 = 5 + 2 * j by omega]; exact hg _ (by omega)
    have q2 : vl.getD ((5 + 2 * (j : Int) + 1).toNat + 0) 0 = (nsOf ((l.drop i).take n)).getD (5 + 2 * j + 1) 0 := by rw [show (5 + 2 * (j : Int) + 1).toNat + 0 = 5 + 2 * j + 1 by omega]; exact hg _ (by omega)
    have e5 := f2.app (x := (⟨true, bk, 0, 2, lst (blkAt (nsOf ((l.drop i).take n)) j)⟩ : Rw Int)) (sp := sp) m1 m2
    have e6 := e5.2.1
    refine Stands.one (j + 1, true, b9, q9, wl.take j ++ [⟨true, bk, 0, 2, lst (blkAt (nsOf ((l.drop i).take n)) j)⟩] ++ sp, cap) ⟨⟨by omega, ?_, ?_, ?_⟩, ?_, ?_⟩
    · show Grw (List.take (j + 1) _) _ _ _ _
      rw [e6]
      exact e5
    · show (List.take (j + 1) _).map _ = (blks (nsOf ((l.drop i).take n)) (j + 1)).map lst
      rw [e6, blks_next, List.map_append, List.map_append, f3]
      rfl
    · show ∀ r ∈ List.take (j + 1) _, Rok r
      rw [e6]
      intro r hr
      rcases List.mem_append.1 hr with hr | hr
      · exact f4 r hr
      · rw [List.mem_singleton.1 hr]
        exact ⟨fun h => Bool.noConfusion h, Nat.le_refl 2, (by decide : 2 < 140737488355000)⟩
    · show nB (nsOf ((l.drop i).take n)) - (j + 1) < nB (nsOf ((l.drop i).take n)) - j
      omega
    ((conv => (arg 1; reduce)); with_reducible repeat' (first | exact Tr.yes_h | refine Tr.and_h ?_ ?_ | refine Tr.imp_h fun _ => ?_ | refine Tr.all_h fun _ => ?_ | refine Tr.lf_h ?_))
    all_goals first | (first | first | (show Region.lexB _ _ = true; kernel_rfl) | (show planned _ _ = true; kernel_rfl) | exact rfl | exact True.intro | ((try dsimp only [imp, C0, cG, cInt, cPl, cSlot, cPg, rwCodec, cRaw] at *); (try refine inR64 ?_ ?_) <;> (try simp only [List.length_set, List.length_append, List.length_take, List.length_drop]) <;> omega)) | (show _ = _; simp only [lst, blkAt]; rw [← q1, ← q2]; rfl)
  · rename_i b0 h4 v hv h5 bp h6 w hw h7
    have h4 : (decide ((n : Int) < 28) || decide ((n : Int).tmod 4 ≠ 0) || decide (nm l (((n : Int) - 4).toNat + i) ≠ crc ((l.drop i).take ((n : Int) - 4).toNat))) = false := h4
    rw [Int.tmod_eq_emod_of_nonneg (show (0 : Int) ≤ (n : Int) by omega)] at h4
    simp only [Bool.or_eq_false_iff, decide_eq_false_iff_not] at h4
    have h28 : 28 ≤ n := by omega
    have hm4 : n % 4 = 0 := by omega
    have e4 : ((n : Int) - 4).toNat = n - 4 := by omega
    obtain ⟨k, on, vb, vq, vl, vc⟩ := v
    obtain ⟨e1, e2⟩ : k ≤ (nsOf ((l.drop i).take n)).length ∧ Grw ((nsOf ((l.drop i).take n)).take k) vl on k vc := hv
    rw [hRl] at e1
    have h5 : ¬ 4 * (k : Int) + 4 < (n : Int) := of_decide_eq_false h5
    have hk : k = (n - 4) / 4 := by omega
    have hk4 : 4 * k = n - 4 := by omega
    have hg : ∀ t, t < k → vl.getD t 0 = (nsOf ((l.drop i).take n)).getD t 0 := by
      intro t ht
      rw [← tk_at (l := vl) (n := k) ht, e2.2.1, tk_at ht]
    have hon : on = true := on_of e2.2.2.2.2 (by omega)
    have hvl : k ≤ vl.length := Nat.le_trans e2.2.2.1 e2.2.2.2.1
    have htd : ((k : Int) - 6).tdiv 2 = ((k : Int) - 6) / 2 := Int.tdiv_eq_ediv_of_nonneg (by omega)
    have h6 : ¬ ((k : Int) - 6).tdiv 2 < vl.getD 4 0 := of_decide_eq_false h6
    rw [htd, hg 4 (by omega)] at h6
    have hu4 := ns_u32 (bv := ((l.drop i).take n)) hb 4
    obtain ⟨hB, hB2⟩ := nB_of (R := (nsOf ((l.drop i).take n))) (by rw [hRl]; omega) hu4.1 (by omega)
    obtain ⟨j, won, wb, wq, wl, wc⟩ := w
    obtain ⟨f1, f2, f3, f4⟩ : j ≤ nB (nsOf ((l.drop i).take n)) ∧ Grw (wl.take j) wl won j wc ∧ (wl.take j).map (·.l) = (blks (nsOf ((l.drop i).take n)) j).map lst ∧ ∀ r ∈ wl.take j, Rok r := hw
    have h7 : ¬ (j : Int) < vl.getD 4 0 := of_decide_eq_false h7
    rw [hg 4 (by omega), hB] at h7
    have hj : j = nB (nsOf ((l.drop i).take n)) := by omega
    exact hon
  · rename_i b0 h4 v hv h5 bp h6 w hw h7
    have h4 : (decide ((n : Int) < 28) || decide ((n : Int).tmod 4 ≠ 0) || decide (nm l (((n : Int) - 4).toNat + i) ≠ crc ((l.drop i).take ((n : Int) - 4).toNat))) = false := h4
    rw [Int.tmod_eq_emod_of_nonneg (show (0 : Int) ≤ (n : Int) by omega)] at h4
    simp only [Bool.or_eq_false_iff, decide_eq_false_iff_not] at h4
    have h28 : 28 ≤ n := by omega
    have hm4 : n % 4 = 0 := by omega
    have e4 : ((n : Int) - 4).toNat = n - 4 := by omega
    obtain ⟨k, on, vb, vq, vl, vc⟩ := v
    obtain ⟨e1, e2⟩ : k ≤ (nsOf ((l.drop i).take n)).length ∧ Grw ((nsOf ((l.drop i).take n)).take k) vl on k vc := hv
    rw [hRl] at e1
    have h5 : ¬ 4 * (k : Int) + 4 < (n : Int) := of_decide_eq_false h5
    have hk : k = (n - 4) / 4 := by omega
    have hk4 : 4 * k = n - 4 := by omega
    have hg : ∀ t, t < k → vl.getD t 0 = (nsOf ((l.drop i).take n)).getD t 0 := by
      intro t ht
      rw [← tk_at (l := vl) (n := k) ht, e2.2.1, tk_at ht]
    have hon : on = true := on_of e2.2.2.2.2 (by omega)
    have hvl : k ≤ vl.length := Nat.le_trans e2.2.2.1 e2.2.2.2.1
    have htd : ((k : Int) - 6).tdiv 2 = ((k : Int) - 6) / 2 := Int.tdiv_eq_ediv_of_nonneg (by omega)
    have h6 : ¬ ((k : Int) - 6).tdiv 2 < vl.getD 4 0 := of_decide_eq_false h6
    rw [htd, hg 4 (by omega)] at h6
    have hu4 := ns_u32 (bv := ((l.drop i).take n)) hb 4
    obtain ⟨hB, hB2⟩ := nB_of (R := (nsOf ((l.drop i).take n))) (by rw [hRl]; omega) hu4.1 (by omega)
    obtain ⟨j, won, wb, wq, wl, wc⟩ := w
    obtain ⟨f1, f2, f3, f4⟩ : j ≤ nB (nsOf ((l.drop i).take n)) ∧ Grw (wl.take j) wl won j wc ∧ (wl.take j).map (·.l) = (blks (nsOf ((l.drop i).take n)) j).map lst ∧ ∀ r ∈ wl.take j, Rok r := hw
    have h7 : ¬ (j : Int) < vl.getD 4 0 := of_decide_eq_false h7
    rw [hg 4 (by omega), hB] at h7
    have hj : j = nB (nsOf ((l.drop i).take n)) := by omega
    show 5 + 2 * (j : Int) < (k : Int)
    omega
  · rename_i b0 h4 v hv h5 bp h6 w hw h7
    have h4 : (decide ((n : Int) < 28) || decide ((n : Int).tmod 4 ≠ 0) || decide (nm l (((n : Int) - 4).toNat + i) ≠ crc ((l.drop i).take ((n : Int) - 4).toNat))) = false := h4
    rw [Int.tmod_eq_emod_of_nonneg (show (0 : Int) ≤ (n : Int) by omega)] at h4
    simp only [Bool.or_eq_false_iff, decide_eq_false_iff_not] at h4
    have h28 : 28 ≤ n := by omega
    have hm4 : n % 4 = 0 := by omega
    have e4 : ((n : Int) - 4).toNat = n - 4 := by omega
    obtain ⟨k, on, vb, vq, vl, vc⟩ := v
    obtain ⟨e1, e2⟩ : k ≤ (nsOf ((l.drop i).take n)).length ∧ Grw ((nsOf ((l.drop i).take n)).take k) vl on k vc := hv
    rw [hRl] at e1
    have h5 : ¬ 4 * (k : Int) + 4 < (n : Int) := of_decide_eq_false h5
    have hk : k = (n - 4) / 4 := by omega
    have hk4 : 4 * k = n - 4 := by omega
    have hg : ∀ t, t < k → vl.getD t 0 = (nsOf ((l.drop i).take n)).getD t 0 := by
      intro t ht
      rw [← tk_at (l := vl) (n := k) ht, e2.2.1, tk_at ht]
    have hon : on = true := on_of e2.2.2.2.2 (by omega)
    have hvl : k ≤ vl.length := Nat.le_trans e2.2.2.1 e2.2.2.2.1
    have htd : ((k : Int) - 6).tdiv 2 = ((k : Int) - 6) / 2 := Int.tdiv_eq_ediv_of_nonneg (by omega)
    have h6 : ¬ ((k : Int) - 6).tdiv 2 < vl.getD 4 0 := of_decide_eq_false h6
    rw [htd, hg 4 (by omega)] at h6
    have hu4 := ns_u32 (bv := ((l.drop i).take n)) hb 4
    obtain ⟨hB, hB2⟩ := nB_of (R := (nsOf ((l.drop i).take n))) (by rw [hRl]; omega) hu4.1 (by omega)
    obtain ⟨j, won, wb, wq, wl, wc⟩ := w
    obtain ⟨f1, f2, f3, f4⟩ : j ≤ nB (nsOf ((l.drop i).take n)) ∧ Grw (wl.take j) wl won j wc ∧ (wl.take j).map (·.l) = (blks (nsOf ((l.drop i).take n)) j).map lst ∧ ∀ r ∈ wl.take j, Rok r := hw
    have h7 : ¬ (j : Int) < vl.getD 4 0 := of_decide_eq_false h7
    rw [hg 4 (by omega), hB] at h7
    have hj : j = nB (nsOf ((l.drop i).take n)) := by omega
    exact hon
  · rename_i b0 h4 v hv h5 bp h6 w hw h7
    have h4 : (decide ((n : Int) < 28) || decide ((n : Int).tmod 4 ≠ 0) || decide (nm l (((n : Int) - 4).toNat + i) ≠ crc ((l.drop i).take ((n : Int) - 4).toNat))) = false := h4
    rw [Int.tmod_eq_emod_of_nonneg (show (0 : Int) ≤ (n : Int) by omega)] at h4
    simp only [Bool.or_eq_false_iff, decide_eq_false_iff_not] at h4
    have h28 : 28 ≤ n := by omega
    have hm4 : n % 4 = 0 := by omega
    have e4 : ((n : Int) - 4).toNat = n - 4 := by omega
    obtain ⟨k, on, vb, vq, vl, vc⟩ := v
    obtain ⟨e1, e2⟩ : k ≤ (nsOf ((l.drop i).take n)).length ∧ Grw ((nsOf ((l.drop i).take n)).take k) vl on k vc := hv
    rw [hRl] at e1
    have h5 : ¬ 4 * (k : Int) + 4 < (n : Int) := of_decide_eq_false h5
    have hk : k = (n - 4) / 4 := by omega
    have hk4 : 4 * k = n - 4 := by omega
    have hg : ∀ t, t < k → vl.getD t 0 = (nsOf ((l.drop i).take n)).getD t 0 := by
      intro t ht
      rw [← tk_at (l := vl) (n := k) ht, e2.2.1, tk_at ht]
    have hon : on = true := on_of e2.2.2.2.2 (by omega)
    have hvl : k ≤ vl.length := Nat.le_trans e2.2.2.1 e2.2.2.2.1
    have htd : ((k : Int) - 6).tdiv 2 = ((k : Int) - 6) / 2 := Int.tdiv_eq_ediv_of_nonneg (by omega)
    have h6 : ¬ ((k : Int) - 6).tdiv 2 < vl.getD 4 0 := of_decide_eq_false h6
    rw [htd, hg 4 (by omega)] at h6
    have hu4 := ns_u32 (bv := ((l.drop i).take n)) hb 4
    obtain ⟨hB, hB2⟩ := nB_of (R := (nsOf ((l.drop i).take n))) (by rw [hRl]; omega) hu4.1 (by omega)
    obtain ⟨j, won, wb, wq, wl, wc⟩ := w
    obtain ⟨f1, f2, f3, f4⟩ : j ≤ nB (nsOf ((l.drop i).take n)) ∧ Grw (wl.take j) wl won j wc ∧ (wl.take j).map (·.l) = (blks (nsOf ((l.drop i).take n)) j).map lst ∧ ∀ r ∈ wl.take j, Rok r := hw
    have h7 : ¬ (j : Int) < vl.getD 4 0 := of_decide_eq_false h7
    rw [hg 4 (by omega), hB] at h7
    have hj : j = nB (nsOf ((l.drop i).take n)) := by omega
    show (5 + 2 * (j : Int)).toNat + 0 < vl.length
    omega
  · rename_i b0 h4 v hv h5 bp h6 w hw h7
    have h4 : (decide ((n : Int) < 28) || decide ((n : Int).tmod 4 ≠ 0) || decide (nm l (((n : Int) - 4).toNat + i) ≠ crc ((l.drop i).take ((n : Int) - 4).toNat))) = false := h4
    rw [Int.tmod_eq_emod_of_nonneg (show (0 : Int) ≤ (n : Int) by omega)] at h4
    simp only [Bool.or_eq_false_iff, decide_eq_false_iff_not] at h4
    have h28 : 28 ≤ n := by omega
    have hm4 : n % 4 = 0 := by omega
    have e4 : ((n : Int) - 4).toNat = n - 4 := by omega
    obtain ⟨k, on, vb, vq, vl, vc⟩ := v
    obtain ⟨e1, e2⟩ : k ≤ (nsOf ((l.drop i).take n)).length ∧ Grw ((nsOf ((l.drop i).take n)).take k) vl on k vc := hv
    rw [hRl] at e1
    have h5 : ¬ 4 * (k : Int) + 4 < (n : Int) := of_decide_eq_false h5
    have hk : k = (n - 4) / 4 := by omega
    have hk4 : 4 * k = n - 4 := by omega
    have hg : ∀ t, t < k → vl.getD t 0 = (nsOf ((l.drop i).take n)).getD t 0 := by
      intro t ht
      rw [← tk_at (l := vl) (n := k) ht, e2.2.1, tk_at ht]
    have hon : on = true := on_of e2.2.2.2.2 (by omega)
    have hvl : k ≤ vl.length := Nat.le_trans e2.2.2.1 e2.2.2.2.1
    have htd : ((k : Int) - 6).tdiv 2 = ((k : Int) - 6) / 2 := Int.tdiv_eq_ediv_of_nonneg (by omega)
    have h6 : ¬ ((k : Int) - 6).tdiv 2 < vl.getD 4 0 := of_decide_eq_false h6
    rw [htd, hg 4 (by omega)] at h6
    have hu4 := ns_u32 (bv := ((l.drop i).take n)) hb 4
    obtain ⟨hB, hB2⟩ := nB_of (R := (nsOf ((l.drop i).take n))) (by rw [hRl]; omega) hu4.1 (by omega)
    obtain ⟨j, won, wb, wq, wl, wc⟩ := w
    obtain ⟨f1, f2, f3, f4⟩ : j ≤ nB (nsOf ((l.drop i).take n)) ∧ Grw (wl.take j) wl won j wc ∧ (wl.take j).map (·.l) = (blks (nsOf ((l.drop i).take n)) j).map lst ∧ ∀ r ∈ wl.take j, Rok r := hw
    have h7 : ¬ (j : Int) < vl.getD 4 0 := of_decide_eq_false h7
    rw [hg 4 (by omega), hB] at h7
    have hj : j = nB (nsOf ((l.drop i).take n)) := by omega
    exact inR64 (by show _ ≤ 5 + 2 * (j : Int) + 1; omega) (by show 5 + 2 * (j : Int) + 1 ≤ _; omega)
  · rename_i b0 h4 v hv h5 bp h6 w hw h7
    have h4 : (decide ((n : Int) < 28) || decide ((n : Int).tmod 4 ≠ 0) || decide (nm l (((n : Int) - 4).toNat + i) ≠ crc ((l.drop i).take ((n : Int) - 4).toNat))) = false := h4
    rw [Int.tmod_eq_emod_of_nonneg (show (0 : Int) ≤ (n : Int) by omega)] at h4
    simp only [Bool.or_eq_false_iff, decide_eq_false_iff_not] at h4
    have h28 : 28 ≤ n := by omega
    have hm4 : n % 4 = 0 := by omega
    have e4 : ((n : Int) - 4).toNat = n - 4 := by omega
    obtain ⟨k, on, vb, vq, vl, vc⟩ := v
    obtain ⟨e1, e2⟩ : k ≤ (nsOf ((l.drop i).take n)).length ∧ Grw ((nsOf ((l.drop i).take n)).take k) vl on k vc := hv
    rw [hRl] at e1
    have h5 : ¬ 4 * (k : Int) + 4 < (n : Int) := of_decide_eq_false h5
    have hk : k = (n - 4) / 4 := by omega
    have hk4 : 4 * k = n - 4 := by omega
    have hg : ∀ t, t < k → vl.getD t 0 = (nsOf ((l.drop i).take n)).getD t 0 := by
      intro t ht
      rw [← tk_at (l := vl) (n := k) ht, e2.2.1, tk_at ht]
    have hon : on = true := on_of e2.2.2.2.2 (by omega)
    have hvl : k ≤ vl.length := Nat.le_trans e2.2.2.1 e2.2.2.2.1
    have htd : ((k : Int) - 6).tdiv 2 = ((k : Int) - 6) / 2 := Int.tdiv_eq_ediv_of_nonneg (by omega)
    have h6 : ¬ ((k : Int) - 6).tdiv 2 < vl.getD 4 0 := of_decide_eq_false h6
    rw [htd, hg 4 (by omega)] at h6
    have hu4 := ns_u32 (bv := ((l.drop i).take n)) hb 4
    obtain ⟨hB, hB2⟩ := nB_of (R := (nsOf ((l.drop i).take n))) (by rw [hRl]; omega) hu4.1 (by omega)
    obtain ⟨j, won, wb, wq, wl, wc⟩ := w
    obtain ⟨f1, f2, f3, f4⟩ : j ≤ nB (nsOf ((l.drop i).take n)) ∧ Grw (wl.take j) wl won j wc ∧ (wl.take j).map (·.l) = (blks (nsOf ((l.drop i).take n)) j).map lst ∧ ∀ r ∈ wl.take j, Rok r := hw
    have h7 : ¬ (j : Int) < vl.getD 4 0 := of_decide_eq_false h7
    rw [hg 4 (by omega), hB] at h7
    have hj : j = nB (nsOf ((l.drop i).take n)) := by omega
    exact inR64 (by show _ ≤ (k : Int) - (5 + 2 * (j : Int) + 1); omega) (by show (k : Int) - (5 + 2 * (j : Int) + 1) ≤ _; omega)
  · rename_i b0 h4 v hv h5 bp h6 w hw h7
    have h4 : (decide ((n : Int) < 28) || decide ((n : Int).tmod 4 ≠ 0) || decide (nm l (((n : Int) - 4).toNat + i) ≠ crc ((l.drop i).take ((n : Int) - 4).toNat))) = false := h4
    rw [Int.tmod_eq_emod_of_nonneg (show (0 : Int) ≤ (n : Int) by omega)] at h4
    simp only [Bool.or_eq_false_iff, decide_eq_false_iff_not] at h4
    have h28 : 28 ≤ n := by omega
    have hm4 : n % 4 = 0 := by omega
    have e4 : ((n : Int) - 4).toNat = n - 4 := by omega
    obtain ⟨k, on, vb, vq, vl, vc⟩ := v
    obtain ⟨e1, e2⟩ : k ≤ (nsOf ((l.drop i).take n)).length ∧ Grw ((nsOf ((l.drop i).take n)).take k) vl on k vc := hv
    rw [hRl] at e1
    have h5 : ¬ 4 * (k : Int) + 4 < (n : Int) := of_decide_eq_false h5
    have hk : k = (n - 4) / 4 := by omega
    have hk4 : 4 * k = n - 4 := by omega
    have hg : ∀ t, t < k → vl.getD t 0 = (nsOf ((l.drop i).take n)).getD t 0 := by
      intro t ht
      rw [← tk_at (l := vl) (n := k) ht, e2.2.1, tk_at ht]
    have hon : on = true := on_of e2.2.2.2.2 (by omega)
    have hvl : k ≤ vl.length := Nat.le_trans e2.2.2.1 e2.2.2.2.1
    have htd : ((k : Int) - 6).tdiv 2 = ((k : Int) - 6) / 2 := Int.tdiv_eq_ediv_of_nonneg (by omega)
    have h6 : ¬ ((k : Int) - 6).tdiv 2 < vl.getD 4 0 := of_decide_eq_false h6
    rw [htd, hg 4 (by omega)] at h6
    have hu4 := ns_u32 (bv := ((l.drop i).take n)) hb 4
    obtain ⟨hB, hB2⟩ := nB_of (R := (nsOf ((l.drop i).take n))) (by rw [hRl]; omega) hu4.1 (by omega)
    obtain ⟨j, won, wb, wq, wl, wc⟩ := w
    obtain ⟨f1, f2, f3, f4⟩ : j ≤ nB (nsOf ((l.drop i).take n)) ∧ Grw (wl.take j) wl won j wc ∧ (wl.take j).map (·.l) = (blks (nsOf ((l.drop i).take n)) j).map lst ∧ ∀ r ∈ wl.take j, Rok r := hw
    have h7 : ¬ (j : Int) < vl.getD 4 0 := of_decide_eq_false h7
    rw [hg 4 (by omega), hB] at h7
    have hj : j = nB (nsOf ((l.drop i).take n)) := by omega
    have ht9 : ((k : Int) - (5 + 2 * (j : Int) + 1)).tdiv 9 = ((k : Int) - (5 + 2 * (j : Int) + 1)) / 9 := Int.tdiv_eq_ediv_of_nonneg (by omega)
    have q1 : vl.getD ((5 + 2 * (j : Int)).toNat + 0) 0 = (nsOf ((l.drop i).take n)).getD (5 + 2 * nB (nsOf ((l.drop i).take n))) 0 := by rw [show (5 + 2 * (j : Int)).toNat + 0 = 5 + 2 * nB (nsOf ((l.drop i).take n)) by omega]; exact hg _ (by omega)
    have hu5 := ns_u32 (bv := ((l.drop i).take n)) hb (5 + 2 * nB (nsOf ((l.drop i).take n)))
    show inR .i64 (((k : Int) - (5 + 2 * (j : Int) + 1)).tdiv 9)
    rw [ht9]
    exact inR64 (by omega) (by omega)
  · rename_i b0 h4 v hv h5 bp h6 w hw h7 h8
    have h4 : (decide ((n : Int) < 28) || decide ((n : Int).tmod 4 ≠ 0) || decide (nm l (((n : Int) - 4).toNat + i) ≠ crc ((l.drop i).take ((n : Int) - 4).toNat))) = false := h4
    rw [Int.tmod_eq_emod_of_nonneg (show (0 : Int) ≤ (n : Int) by omega)] at h4
    simp only [Bool.or_eq_false_iff, decide_eq_false_iff_not] at h4
    have h28 : 28 ≤ n := by omega
    have hm4 : n % 4 = 0 := by omega
    have e4 : ((n : Int) - 4).toNat = n - 4 := by omega
    obtain ⟨k, on, vb, vq, vl, vc⟩ := v
    obtain ⟨e1, e2⟩ : k ≤ (nsOf ((l.drop i).take n)).length ∧ Grw ((nsOf ((l.drop i).take n)).take k) vl on k vc := hv
    rw [hRl] at e1
    have h5 : ¬ 4 * (k : Int) + 4 < (n : Int) := of_decide_eq_false h5
    have hk : k = (n - 4) / 4 := by omega
    have hk4 : 4 * k = n - 4 := by omega
    have hg : ∀ t, t < k → vl.getD t 0 = (nsOf ((l.drop i).take n)).getD t 0 := by
      intro t ht
      rw [← tk_at (l := vl) (n := k) ht, e2.2.1, tk_at ht]
    have hon : on = true := on_of e2.2.2.2.2 (by omega)
    have hvl : k ≤ vl.length := Nat.le_trans e2.2.2.1 e2.2.2.2.1
    have htd : ((k : Int) - 6).tdiv 2 = ((k : Int) - 6) / 2 := Int.tdiv_eq_ediv_of_nonneg (by omega)
    have h6 : ¬ ((k : Int) - 6).tdiv 2 < vl.getD 4 0 := of_decide_eq_false h6
    rw [htd, hg 4 (by omega)] at h6
    have hu4 := ns_u32 (bv := ((l.drop i).take n)) hb 4
    obtain ⟨hB, hB2⟩ := nB_of (R := (nsOf ((l.drop i).take n))) (by rw [hRl]; omega) hu4.1 (by omega)
    obtain ⟨j, won, wb, wq, wl, wc⟩ := w
    obtain ⟨f1, f2, f3, f4⟩ : j ≤ nB (nsOf ((l.drop i).take n)) ∧ Grw (wl.take j) wl won j wc ∧ (wl.take j).map (·.l) = (blks (nsOf ((l.drop i).take n)) j).map lst ∧ ∀ r ∈ wl.take j, Rok r := hw
    have h7 : ¬ (j : Int) < vl.getD 4 0 := of_decide_eq_false h7
    rw [hg 4 (by omega), hB] at h7
    have hj : j = nB (nsOf ((l.drop i).take n)) := by omega
    have ht9 : ((k : Int) - (5 + 2 * (j : Int) + 1)).tdiv 9 = ((k : Int) - (5 + 2 * (j : Int) + 1)) / 9 := Int.tdiv_eq_ediv_of_nonneg (by omega)
    have q1 : vl.getD ((5 + 2 * (j : Int)).toNat + 0) 0 = (nsOf ((l.drop i).take n)).getD (5 + 2 * nB (nsOf ((l.drop i).take n))) 0 := by rw [show (5 + 2 * (j : Int)).toNat + 0 = 5 + 2 * nB (nsOf ((l.drop i).take n)) by omega]; exact hg _ (by omega)
    have hu5 := ns_u32 (bv := ((l.drop i).take n)) hb (5 + 2 * nB (nsOf ((l.drop i).take n)))
    have h8 : decide (((k : Int) - (5 + 2 * (j : Int) + 1)).tdiv 9 < vl.getD ((5 + 2 * (j : Int)).toNat + 0) 0) = false := h8
    rw [ht9, q1, decide_eq_false_iff_not] at h8
    show inR .i64 (9 * vl.getD ((5 + 2 * (j : Int)).toNat + 0) 0)
    rw [q1]
    have := hu5.1
    exact inR64 (by omega) (by omega)
  · rename_i b0 h4 v hv h5 bp h6 w hw h7 h8
    have h4 : (decide ((n : Int) < 28) || decide ((n : Int).tmod 4 ≠ 0) || decide (nm l (((n : Int) - 4).toNat + i) ≠ crc ((l.drop i).take ((n : Int) - 4).toNat))) = false := h4
    rw [Int.tmod_eq_emod_of_nonneg (show (0 : Int) ≤ (n : Int) by omega)] at h4
    simp only [Bool.or_eq_false_iff, decide_eq_false_iff_not] at h4
    have h28 : 28 ≤ n := by omega
    have hm4 : n % 4 = 0 := by omega
    have e4 : ((n : Int) - 4).toNat = n - 4 := by omega
    obtain ⟨k, on, vb, vq, vl, vc⟩ := v
    obtain ⟨e1, e2⟩ : k ≤ (nsOf ((l.drop i).take n)).length ∧ Grw ((nsOf ((l.drop i).take n)).take k) vl on k vc := hv
    rw [hRl] at e1
    have h5 : ¬ 4 * (k : Int) + 4 < (n : Int) := of_decide_eq_false h5
    have hk : k = (n - 4) / 4 := by omega
    have hk4 : 4 * k = n - 4 := by omega
    have hg : ∀ t, t < k → vl.getD t 0 = (nsOf ((l.drop i).take n)).getD t 0 := by
      intro t ht
      rw [← tk_at (l := vl) (n := k) ht, e2.2.1, tk_at ht]
    have hon : on = true := on_of e2.2.2.2.2 (by omega)
    have hvl : k ≤ vl.length := Nat.le_trans e2.2.2.1 e2.2.2.2.1
    have htd : ((k : Int) - 6).tdiv 2 = ((k : Int) - 6) / 2 := Int.tdiv_eq_ediv_of_nonneg (by omega)
    have h6 : ¬ ((k : Int) - 6).tdiv 2 < vl.getD 4 0 := of_decide_eq_false h6
    rw [htd, hg 4 (by omega)] at h6
    have hu4 := ns_u32 (bv := ((l.drop i).take n)) hb 4
    obtain ⟨hB, hB2⟩ := nB_of (R := (nsOf ((l.drop i).take n))) (by rw [hRl]; omega) hu4.1 (by omega)
    obtain ⟨j, won, wb, wq, wl, wc⟩ := w
    obtain ⟨f1, f2, f3, f4⟩ : j ≤ nB (nsOf ((l.drop i).take n)) ∧ Grw (wl.take j) wl won j wc ∧ (wl.take j).map (·.l) = (blks (nsOf ((l.drop i).take n)) j).map lst ∧ ∀ r ∈ wl.take j, Rok r := hw
    have h7 : ¬ (j : Int) < vl.getD 4 0 := of_decide_eq_false h7
    rw [hg 4 (by omega), hB] at h7
    have hj : j = nB (nsOf ((l.drop i).take n)) := by omega
    have ht9 : ((k : Int) - (5 + 2 * (j : Int) + 1)).tdiv 9 = ((k : Int) - (5 + 2 * (j : Int) + 1)) / 9 := Int.tdiv_eq_ediv_of_nonneg (by omega)
    have q1 : vl.getD ((5 + 2 * (j : Int)).toNat + 0) 0 = (nsOf ((l.drop i).take n)).getD (5 + 2 * nB (nsOf ((l.drop i).take n))) 0 := by rw [show (5 + 2 * (j : Int)).toNat + 0 = 5 + 2 * nB (nsOf ((l.drop i).take n)) by omega]; exact hg _ (by omega)
    have hu5 := ns_u32 (bv := ((l.drop i).take n)) hb (5 + 2 * nB (nsOf ((l.drop i).take n)))
    have h8 : decide (((k : Int) - (5 + 2 * (j : Int) + 1)).tdiv 9 < vl.getD ((5 + 2 * (j : Int)).toNat + 0) 0) = false := h8
    rw [ht9, q1, decide_eq_false_iff_not] at h8
    show inR .i64 (5 + 2 * (j : Int) + 1 + 9 * vl.getD ((5 + 2 * (j : Int)).toNat + 0) 0)
    rw [q1]
    have := hu5.1
    exact inR64 (by omega) (by omega)
  · rename_i b0 h4 v hv h5 bp h6 w hw h7 h8
    have h4 : (decide ((n : Int) < 28) || decide ((n : Int).tmod 4 ≠ 0) || decide (nm l (((n : Int) - 4).toNat + i) ≠ crc ((l.drop i).take ((n : Int) - 4).toNat))) = false := h4
    rw [Int.tmod_eq_emod_of_nonneg (show (0 : Int) ≤ (n : Int) by omega)] at h4
    simp only [Bool.or_eq_false_iff, decide_eq_false_iff_not] at h4
    have h28 : 28 ≤ n := by omega
    have hm4 : n % 4 = 0 := by omega
    have e4 : ((n : Int) - 4).toNat = n - 4 := by omega
    obtain ⟨k, on, vb, vq, vl, vc⟩ := v
    obtain ⟨e1, e2⟩ : k ≤ (nsOf ((l.drop i).take n)).length ∧ Grw ((nsOf ((l.drop i).take n)).take k) vl on k vc := hv
    rw [hRl] at e1
    have h5 : ¬ 4 * (k : Int) + 4 < (n : Int) := of_decide_eq_false h5
    have hk : k = (n - 4) / 4 := by omega
    have hk4 : 4 * k = n - 4 := by omega
    have hg : ∀ t, t < k → vl.getD t 0 = (nsOf ((l.drop i).take n)).getD t 0 := by
      intro t ht
      rw [← tk_at (l := vl) (n := k) ht, e2.2.1, tk_at ht]
    have hon : on = true := on_of e2.2.2.2.2 (by omega)
    have hvl : k ≤ vl.length := Nat.le_trans e2.2.2.1 e2.2.2.2.1
    have htd : ((k : Int) - 6).tdiv 2 = ((k : Int) - 6) / 2 := Int.tdiv_eq_ediv_of_nonneg (by omega)
    have h6 : ¬ ((k : Int) - 6).tdiv 2 < vl.getD 4 0 := of_decide_eq_false h6
    rw [htd, hg 4 (by omega)] at h6
    have hu4 := ns_u32 (bv := ((l.drop i).take n)) hb 4
    obtain ⟨hB, hB2⟩ := nB_of (R := (nsOf ((l.drop i).take n))) (by rw [hRl]; omega) hu4.1 (by omega)
    obtain ⟨j, won, wb, wq, wl, wc⟩ := w
    obtain ⟨f1, f2, f3, f4⟩ : j ≤ nB (nsOf ((l.drop i).take n)) ∧ Grw (wl.take j) wl won j wc ∧ (wl.take j).map (·.l) = (blks (nsOf ((l.drop i).take n)) j).map lst ∧ ∀ r ∈ wl.take j, Rok r := hw
    have h7 : ¬ (j : Int) < vl.getD 4 0 := of_decide_eq_false h7
    rw [hg 4 (by omega), hB] at h7
    have hj : j = nB (nsOf ((l.drop i).take n)) := by omega
    have ht9 : ((k : Int) - (5 + 2 * (j : Int) + 1)).tdiv 9 = ((k : Int) - (5 + 2 * (j : Int) + 1)) / 9 := Int.tdiv_eq_ediv_of_nonneg (by omega)
    have q1 : vl.getD ((5 + 2 * (j : Int)).toNat + 0) 0 = (nsOf ((l.drop i).take n)).getD (5 + 2 * nB (nsOf ((l.drop i).take n))) 0 := by rw [show (5 + 2 * (j : Int)).toNat + 0 = 5 + 2 * nB (nsOf ((l.drop i).take n)) by omega]; exact hg _ (by omega)
    have hu5 := ns_u32 (bv := ((l.drop i).take n)) hb (5 + 2 * nB (nsOf ((l.drop i).take n)))
    have h8 : (decide (((k : Int) - (5 + 2 * (j : Int) + 1)).tdiv 9 < vl.getD ((5 + 2 * (j : Int)).toNat + 0) 0) || decide (5 + 2 * (j : Int) + 1 + 9 * vl.getD ((5 + 2 * (j : Int)).toNat + 0) 0 ≠ (k : Int))) = true := h8
    rw [ht9, q1] at h8
    refine Ends.one () (fun h A B hp => ?_) ?_
    · obtain ⟨z1, z2, z3, z4, z5, z6⟩ := isPt_facts hp (by rw [hbl]; omega)
      have hc := (isPt_cnt hp (by rw [hbl]; omega)).2
      simp only [Bool.or_eq_true, decide_eq_true_iff] at h8
      omega
    ((conv => (arg 1; reduce)); with_reducible repeat' (first | exact Tr.yes_h | refine Tr.and_h ?_ ?_ | refine Tr.imp_h fun _ => ?_ | refine Tr.all_h fun _ => ?_ | refine Tr.lf_h ?_))
    all_goals (first | first | (show Region.lexB _ _ = true; kernel_rfl) | (show planned _ _ = true; kernel_rfl) | exact rfl | exact True.intro | ((try dsimp only [imp, C0, cG, cInt, cPl, cSlot, cPg, rwCodec, cRaw] at *); (try refine inR64 ?_ ?_) <;> (try simp only [List.length_set, List.length_append, List.length_take, List.length_drop]) <;> omega))
  · rename_i b0 h4 v hv h5 bp h6 w hw h7 h8
    have h4 : (decide ((n : Int) < 28) || decide ((n : Int).tmod 4 ≠ 0) || decide (nm l (((n : Int) - 4).toNat + i) ≠ crc ((l.drop i).take ((n : Int) - 4).toNat))) = false := h4
    rw [Int.tmod_eq_emod_of_nonneg (show (0 : Int) ≤ (n : Int) by omega)] at h4
    simp only [Bool.or_eq_false_iff, decide_eq_false_iff_not] at h4
    have h28 : 28 ≤ n := by omega
    have hm4 : n % 4 = 0 := by omega
    have e4 : ((n : Int) - 4).toNat = n - 4 := by omega
    obtain ⟨k, on, vb, vq, vl, vc⟩ := v
    obtain ⟨e1, e2⟩ : k ≤ (nsOf ((l.drop i).take n)).length ∧ Grw ((nsOf ((l.drop i).take n)).take k) vl on k vc := hv
    rw [hRl] at e1
    have h5 : ¬ 4 * (k : Int) + 4 < (n : Int) := of_decide_eq_false h5
    have hk : k = (n - 4) / 4 := by omega
    have hk4 : 4 * k = n - 4 := by omega
    have hg : ∀ t, t < k → vl.getD t 0 = (nsOf ((l.drop i).take n)).getD t 0 := by
      intro t ht
      rw [← tk_at (l := vl) (n := k) ht, e2.2.1, tk_at ht]
    have hon : on = true := on_of e2.2.2.2.2 (by omega)
    have hvl : k ≤ vl.length := Nat.le_trans e2.2.2.1 e2.2.2.2.1
    have htd : ((k : Int) - 6).tdiv 2 = ((k : Int) - 6) / 2 := Int.tdiv_eq_ediv_of_nonneg (by omega)
    have h6 : ¬ ((k : Int) - 6).tdiv 2 < vl.getD 4 0 := of_decide_eq_false h6
    rw [htd, hg 4 (by omega)] at h6
    have hu4 := ns_u32 (bv := ((l.drop i).take n)) hb 4
    obtain ⟨hB, hB2⟩ := nB_of (R := (nsOf ((l.drop i).take n))) (by rw [hRl]; omega) hu4.1 (by omega)
    obtain ⟨j, won, wb, wq, wl, wc⟩ := w
    obtain ⟨f1, f2, f3, f4⟩ : j ≤ nB (nsOf ((l.drop i).take n)) ∧ Grw (wl.take j) wl won j wc ∧ (wl.take j).map (·.l) = (blks (nsOf ((l.drop i).take n)) j).map lst ∧ ∀ r ∈ wl.take j, Rok r := hw
    have h7 : ¬ (j : Int) < vl.getD 4 0 := of_decide_eq_false h7
    rw [hg 4 (by omega), hB] at h7
    have hj : j = nB (nsOf ((l.drop i).take n)) := by omega
    have ht9 : ((k : Int) - (5 + 2 * (j : Int) + 1)).tdiv 9 = ((k : Int) - (5 + 2 * (j : Int) + 1)) / 9 := Int.tdiv_eq_ediv_of_nonneg (by omega)
    have q1 : vl.getD ((5 + 2 * (j : Int)).toNat + 0) 0 = (nsOf ((l.drop i).take n)).getD (5 + 2 * nB (nsOf ((l.drop i).take n))) 0 := by rw [show (5 + 2 * (j : Int)).toNat + 0 = 5 + 2 * nB (nsOf ((l.drop i).take n)) by omega]; exact hg _ (by omega)
    have hu5 := ns_u32 (bv := ((l.drop i).take n)) hb (5 + 2 * nB (nsOf ((l.drop i).take n)))
    have h8 : (decide (((k : Int) - (5 + 2 * (j : Int) + 1)).tdiv 9 < vl.getD ((5 + 2 * (j : Int)).toNat + 0) 0) || decide (5 + 2 * (j : Int) + 1 + 9 * vl.getD ((5 + 2 * (j : Int)).toNat + 0) 0 ≠ (k : Int))) = false := h8
    rw [ht9, q1] at h8
    simp only [Bool.or_eq_false_iff, decide_eq_false_iff_not] at h8
    obtain ⟨hS, hS2⟩ := nS_of (R := (nsOf ((l.drop i).take n))) (by omega) hu5.1 (by omega)
    refine Stands.one (0, false, 0, 0, [], 0) ⟨⟨Nat.zero_le _, by rw [slts_zero]; exact ⟨rfl, rfl, Nat.le_refl _, Nat.le_refl _, fun _ => ⟨rfl, rfl⟩⟩⟩, ?_⟩
    ((conv => (arg 1; reduce)); with_reducible repeat' (first | exact Tr.yes_h | refine Tr.and_h ?_ ?_ | refine Tr.imp_h fun _ => ?_ | refine Tr.all_h fun _ => ?_ | refine Tr.lf_h ?_))
    all_goals first | (first | first | (show Region.lexB _ _ = true; kernel_rfl) | (show planned _ _ = true; kernel_rfl) | exact rfl | exact True.intro | ((try dsimp only [imp, C0, cG, cInt, cPl, cSlot, cPg, rwCodec, cRaw] at *); (try refine inR64 ?_ ?_) <;> (try simp only [List.length_set, List.length_append, List.length_take, List.length_drop]) <;> omega))
  · rename_i b0 h4 v hv h5 bp h6 w hw h7 h8 u hu h9
    have h4 : (decide ((n : Int) < 28) || decide ((n : Int).tmod 4 ≠ 0) || decide (nm l (((n : Int) - 4).toNat + i) ≠ crc ((l.drop i).take ((n : Int) - 4).toNat))) = false := h4
    rw [Int.tmod_eq_emod_of_nonneg (show (0 : Int) ≤ (n : Int) by omega)] at h4
    simp only [Bool.or_eq_false_iff, decide_eq_false_iff_not] at h4
    have h28 : 28 ≤ n := by omega
    have hm4 : n % 4 = 0 := by omega
    have e4 : ((n : Int) - 4).toNat = n - 4 := by omega
    obtain ⟨k, on, vb, vq, vl, vc⟩ := v
    obtain ⟨e1, e2⟩ : k ≤ (nsOf ((l.drop i).take n)).length ∧ Grw ((nsOf ((l.drop i).take n)).take k) vl on k vc := hv
    rw [hRl] at e1
    have h5 : ¬ 4 * (k : Int) + 4 < (n : Int) := of_decide_eq_false h5
    have hk : k = (n - 4) / 4 := by omega
    have hk4 : 4 * k = n - 4 := by omega
    have hg : ∀ t, t < k → vl.getD t 0 = (nsOf ((l.drop i).take n)).getD t 0 := by
      intro t ht
      rw [← tk_at (l := vl) (n := k) ht, e2.2.1, tk_at ht]
    have hon : on = true := on_of e2.2.2.2.2 (by omega)
    have hvl : k ≤ vl.length := Nat.le_trans e2.2.2.1 e2.2.2.2.1
    have htd : ((k : Int) - 6).tdiv 2 = ((k : Int) - 6) / 2 := Int.tdiv_eq_ediv_of_nonneg (by omega)
    have h6 : ¬ ((k : Int) - 6).tdiv 2 < vl.getD 4 0 := of_decide_eq_false h6
    rw [htd, hg 4 (by omega)] at h6
    have hu4 := ns_u32 (bv := ((l.drop i).take n)) hb 4
    obtain ⟨hB, hB2⟩ := nB_of (R := (nsOf ((l.drop i).take n))) (by rw [hRl]; omega) hu4.1 (by omega)
    obtain ⟨j, won, wb, wq, wl, wc⟩ := w
    obtain ⟨f1, f2, f3, f4⟩ : j ≤ nB (nsOf ((l.drop i).take n)) ∧ Grw (wl.take j) wl won j wc ∧ (wl.take j).map (·.l) = (blks (nsOf ((l.drop i).take n)) j).map lst ∧ ∀ r ∈ wl.take j, Rok r := hw
    have h7 : ¬ (j : Int) < vl.getD 4 0 := of_decide_eq_false h7
    rw [hg 4 (by omega), hB] at h7
    have hj : j = nB (nsOf ((l.drop i).take n)) := by omega
    have ht9 : ((k : Int) - (5 + 2 * (j : Int) + 1)).tdiv 9 = ((k : Int) - (5 + 2 * (j : Int) + 1)) / 9 := Int.tdiv_eq_ediv_of_nonneg (by omega)
    have q1 : vl.getD ((5 + 2 * (j : Int)).toNat + 0) 0 = (nsOf ((l.drop i).take n)).getD (5 + 2 * nB (nsOf ((l.drop i).take n))) 0 := by rw [show (5 + 2 * (j : Int)).toNat + 0 = 5 + 2 * nB (nsOf ((l.drop i).take n)) by omega]; exact hg _ (by omega)
    have hu5 := ns_u32 (bv := ((l.drop i).take n)) hb (5 + 2 * nB (nsOf ((l.drop i).take n)))
    have h8 : (decide (((k : Int) - (5 + 2 * (j : Int) + 1)).tdiv 9 < vl.getD ((5 + 2 * (j : Int)).toNat + 0) 0) || decide (5 + 2 * (j : Int) + 1 + 9 * vl.getD ((5 + 2 * (j : Int)).toNat + 0) 0 ≠ (k : Int))) = false := h8
    rw [ht9, q1] at h8
    simp only [Bool.or_eq_false_iff, decide_eq_false_iff_not] at h8
    obtain ⟨hS, hS2⟩ := nS_of (R := (nsOf ((l.drop i).take n))) (by omega) hu5.1 (by omega)
    obtain ⟨s, uon, ub, uq, ul, uc⟩ := u
    obtain ⟨d1, d2⟩ : s ≤ nS (nsOf ((l.drop i).take n)) ∧ Grw (slts (nsOf ((l.drop i).take n)) s) ul uon s uc := hu
    have h9 : (s : Int) < vl.getD ((5 + 2 * (j : Int)).toNat + 0) 0 := of_decide_eq_true h9
    rw [q1, hS] at h9
    exact hon
  · rename_i b0 h4 v hv h5 bp h6 w hw h7 h8 u hu h9
    have h4 : (decide ((n : Int) < 28) || decide ((n : Int).tmod 4 ≠ 0) || decide (nm l (((n : Int) - 4).toNat + i) ≠ crc ((l.drop i).take ((n : Int) - 4).toNat))) = false := h4
    rw [Int.tmod_eq_emod_of_nonneg (show (0 : Int) ≤ (n : Int) by omega)] at h4
    simp only [Bool.or_eq_false_iff, decide_eq_false_iff_not] at h4
    have h28 : 28 ≤ n := by omega
    have hm4 : n % 4 = 0 := by omega
    have e4 : ((n : Int) - 4).toNat = n - 4 := by omega
    obtain ⟨k, on, vb, vq, vl, vc⟩ := v
    obtain ⟨e1, e2⟩ : k ≤ (nsOf ((l.drop i).take n)).length ∧ Grw ((nsOf ((l.drop i).take n)).take k) vl on k vc := hv
    rw [hRl] at e1
    have h5 : ¬ 4 * (k : Int) + 4 < (n : Int) := of_decide_eq_false h5
    have hk : k = (n - 4) / 4 := by omega
    have hk4 : 4 * k = n - 4 := by omega
    have hg : ∀ t, t < k → vl.getD t 0 = (nsOf ((l.drop i).take n)).getD t 0 := by
      intro t ht
      rw [← tk_at (l := vl) (n := k) ht, e2.2.1, tk_at ht]
    have hon : on = true := on_of e2.2.2.2.2 (by omega)
    have hvl : k ≤ vl.length := Nat.le_trans e2.2.2.1 e2.2.2.2.1
    have htd : ((k : Int) - 6).tdiv 2 = ((k : Int) - 6) / 2 := Int.tdiv_eq_ediv_of_nonneg (by omega)
    have h6 : ¬ ((k : Int) - 6).tdiv 2 < vl.getD 4 0 := of_decide_eq_false h6
    rw [htd, hg 4 (by omega)] at h6
    have hu4 := ns_u32 (bv := ((l.drop i).take n)) hb 4
    obtain ⟨hB, hB2⟩ := nB_of (R := (nsOf ((l.drop i).take n))) (by rw [hRl]; omega) hu4.1 (by omega)
    obtain ⟨j, won, wb, wq, wl, wc⟩ := w
    obtain ⟨f1, f2, f3, f4⟩ : j ≤ nB (nsOf ((l.drop i).take n)) ∧ Grw (wl.take j) wl won j wc ∧ (wl.take j).map (·.l) = (blks (nsOf ((l.drop i).take n)) j).map lst ∧ ∀ r ∈ wl.take j, Rok r := hw
    have h7 : ¬ (j : Int) < vl.getD 4 0 := of_decide_eq_false h7
    rw [hg 4 (by omega), hB] at h7
    have hj : j = nB (nsOf ((l.drop i).take n)) := by omega
    have ht9 : ((k : Int) - (5 + 2 * (j : Int) + 1)).tdiv 9 = ((k : Int) - (5 + 2 * (j : Int) + 1)) / 9 := Int.tdiv_eq_ediv_of_nonneg (by omega)
    have q1 : vl.getD ((5 + 2 * (j : Int)).toNat + 0) 0 = (nsOf ((l.drop i).take n)).getD (5 + 2 * nB (nsOf ((l.drop i).take n))) 0 := by rw [show (5 + 2 * (j : Int)).toNat + 0 = 5 + 2 * nB (nsOf ((l.drop i).take n)) by omega]; exact hg _ (by omega)
    have hu5 := ns_u32 (bv := ((l.drop i).take n)) hb (5 + 2 * nB (nsOf ((l.drop i).take n)))
    have h8 : (decide (((k : Int) - (5 + 2 * (j : Int) + 1)).tdiv 9 < vl.getD ((5 + 2 * (j : Int)).toNat + 0) 0) || decide (5 + 2 * (j : Int) + 1 + 9 * vl.getD ((5 + 2 * (j : Int)).toNat + 0) 0 ≠ (k : Int))) = false := h8
    rw [ht9, q1] at h8
    simp only [Bool.or_eq_false_iff, decide_eq_false_iff_not] at h8
    obtain ⟨hS, hS2⟩ := nS_of (R := (nsOf ((l.drop i).take n))) (by omega) hu5.1 (by omega)
    obtain ⟨s, uon, ub, uq, ul, uc⟩ := u
    obtain ⟨d1, d2⟩ : s ≤ nS (nsOf ((l.drop i).take n)) ∧ Grw (slts (nsOf ((l.drop i).take n)) s) ul uon s uc := hu
    have h9 : (s : Int) < vl.getD ((5 + 2 * (j : Int)).toNat + 0) 0 := of_decide_eq_true h9
    rw [q1, hS] at h9
    show 6 + 2 * (nB (nsOf ((l.drop i).take n)) : Int) + 9 * (s : Int) < (k : Int)
    omega
  · rename_i b0 h4 v hv h5 bp h6 w hw h7 h8 u hu h9
    have h4 : (decide ((n : Int) < 28) || decide ((n : Int).tmod 4 ≠ 0) || decide (nm l (((n : Int) - 4).toNat + i) ≠ crc ((l.drop i).take ((n : Int) - 4).toNat))) = false := h4
    rw [Int.tmod_eq_emod_of_nonneg (show (0 : Int) ≤ (n : Int) by omega)] at h4
    simp only [Bool.or_eq_false_iff, decide_eq_false_iff_not] at h4
    have h28 : 28 ≤ n := by omega
    have hm4 : n % 4 = 0 := by omega
    have e4 : ((n : Int) - 4).toNat = n - 4 := by omega
    obtain ⟨k, on, vb, vq, vl, vc⟩ := v
    obtain ⟨e1, e2⟩ : k ≤ (nsOf ((l.drop i).take n)).length ∧ Grw ((nsOf ((l.drop i).take n)).take k) vl on k vc := hv
    rw [hRl] at e1
    have h5 : ¬ 4 * (k : Int) + 4 < (n : Int) := of_decide_eq_false h5
    have hk : k = (n - 4) / 4 := by omega
    have hk4 : 4 * k = n - 4 := by omega
    have hg : ∀ t, t < k → vl.getD t 0 = (nsOf ((l.drop i).take n)).getD t 0 := by
      intro t ht
      rw [← tk_at (l := vl) (n := k) ht, e2.2.1, tk_at ht]
    have hon : on = true := on_of e2.2.2.2.2 (by omega)
    have hvl : k ≤ vl.length := Nat.le_trans e2.2.2.1 e2.2.2.2.1
    have htd : ((k : Int) - 6).tdiv 2 = ((k : Int) - 6) / 2 := Int.tdiv_eq_ediv_of_nonneg (by omega)
    have h6 : ¬ ((k : Int) - 6).tdiv 2 < vl.getD 4 0 := of_decide_eq_false h6
    rw [htd, hg 4 (by omega)] at h6
    have hu4 := ns_u32 (bv := ((l.drop i).take n)) hb 4
    obtain ⟨hB, hB2⟩ := nB_of (R := (nsOf ((l.drop i).take n))) (by rw [hRl]; omega) hu4.1 (by omega)
    obtain ⟨j, won, wb, wq, wl, wc⟩ := w
    obtain ⟨f1, f2, f3, f4⟩ : j ≤ nB (nsOf ((l.drop i).take n)) ∧ Grw (wl.take j) wl won j wc ∧ (wl.take j).map (·.l) = (blks (nsOf ((l.drop i).take n)) j).map lst ∧ ∀ r ∈ wl.take j, Rok r := hw
    have h7 : ¬ (j : Int) < vl.getD 4 0 := of_decide_eq_false h7
    rw [hg 4 (by omega), hB] at h7
    have hj : j = nB (nsOf ((l.drop i).take n)) := by omega
    have ht9 : ((k : Int) - (5 + 2 * (j : Int) + 1)).tdiv 9 = ((k : Int) - (5 + 2 * (j : Int) + 1)) / 9 := Int.tdiv_eq_ediv_of_nonneg (by omega)
    have q1 : vl.getD ((5 + 2 * (j : Int)).toNat + 0) 0 = (nsOf ((l.drop i).take n)).getD (5 + 2 * nB (nsOf ((l.drop i).take n))) 0 := by rw [show (5 + 2 * (j : Int)).toNat + 0 = 5 + 2 * nB (nsOf ((l.drop i).take n)) by omega]; exact hg _ (by omega)
    have hu5 := ns_u32 (bv := ((l.drop i).take n)) hb (5 + 2 * nB (nsOf ((l.drop i).take n)))
    have h8 : (decide (((k : Int) - (5 + 2 * (j : Int) + 1)).tdiv 9 < vl.getD ((5 + 2 * (j : Int)).toNat + 0) 0) || decide (5 + 2 * (j : Int) + 1 + 9 * vl.getD ((5 + 2 * (j : Int)).toNat + 0) 0 ≠ (k : Int))) = false := h8
    rw [ht9, q1] at h8
    simp only [Bool.or_eq_false_iff, decide_eq_false_iff_not] at h8
    obtain ⟨hS, hS2⟩ := nS_of (R := (nsOf ((l.drop i).take n))) (by omega) hu5.1 (by omega)
    obtain ⟨s, uon, ub, uq, ul, uc⟩ := u
    obtain ⟨d1, d2⟩ : s ≤ nS (nsOf ((l.drop i).take n)) ∧ Grw (slts (nsOf ((l.drop i).take n)) s) ul uon s uc := hu
    have h9 : (s : Int) < vl.getD ((5 + 2 * (j : Int)).toNat + 0) 0 := of_decide_eq_true h9
    rw [q1, hS] at h9
    exact hon
  · rename_i b0 h4 v hv h5 bp h6 w hw h7 h8 u hu h9
    have h4 : (decide ((n : Int) < 28) || decide ((n : Int).tmod 4 ≠ 0) || decide (nm l (((n : Int) - 4).toNat + i) ≠ crc ((l.drop i).take ((n : Int) - 4).toNat))) = false := h4
    rw [Int.tmod_eq_emod_of_nonneg (show (0 : Int) ≤ (n : Int) by omega)] at h4
    simp only [Bool.or_eq_false_iff, decide_eq_false_iff_not] at h4
    have h28 : 28 ≤ n := by omega
    have hm4 : n % 4 = 0 := by omega
    have e4 : ((n : Int) - 4).toNat = n - 4 := by omega
    obtain ⟨k, on, vb, vq, vl, vc⟩ := v
    obtain ⟨e1, e2⟩ : k ≤ (nsOf ((l.drop i).take n)).length ∧ Grw ((nsOf ((l.drop i).take n)).take k) vl on k vc := hv
    rw [hRl] at e1
    have h5 : ¬ 4 * (k : Int) + 4 < (n : Int) := of_decide_eq_false h5
    have hk : k = (n - 4) / 4 := by omega
    have hk4 : 4 * k = n - 4 := by omega
    have hg : ∀ t, t < k → vl.getD t 0 = (nsOf ((l.drop i).take n)).getD t 0 := by
      intro t ht
      rw [← tk_at (l := vl) (n := k) ht, e2.2.1, tk_at ht]
    have hon : on = true := on_of e2.2.2.2.2 (by omega)
    have hvl : k ≤ vl.length := Nat.le_trans e2.2.2.1 e2.2.2.2.1
    have htd : ((k : Int) - 6).tdiv 2 = ((k : Int) - 6) / 2 := Int.tdiv_eq_ediv_of_nonneg (by omega)
    have h6 : ¬ ((k : Int) - 6).tdiv 2 < vl.getD 4 0 := of_decide_eq_false h6
    rw [htd, hg 4 (by omega)] at h6
    have hu4 := ns_u32 (bv := ((l.drop i).take n)) hb 4
    obtain ⟨hB, hB2⟩ := nB_of (R := (nsOf ((l.drop i).take n))) (by rw [hRl]; omega) hu4.1 (by omega)
    obtain ⟨j, won, wb, wq, wl, wc⟩ := w
    obtain ⟨f1, f2, f3, f4⟩ : j ≤ nB (nsOf ((l.drop i).take n)) ∧ Grw (wl.take j) wl won j wc ∧ (wl.take j).map (·.l) = (blks (nsOf ((l.drop i).take n)) j).map lst ∧ ∀ r ∈ wl.take j, Rok r := hw
    have h7 : ¬ (j : Int) < vl.getD 4 0 := of_decide_eq_false h7
    rw [hg 4 (by omega), hB] at h7
    have hj : j = nB (nsOf ((l.drop i).take n)) := by omega
    have ht9 : ((k : Int) - (5 + 2 * (j : Int) + 1)).tdiv 9 = ((k : Int) - (5 + 2 * (j : Int) + 1)) / 9 := Int.tdiv_eq_ediv_of_nonneg (by omega)
    have q1 : vl.getD ((5 + 2 * (j : Int)).toNat + 0) 0 = (nsOf ((l.drop i).take n)).getD (5 + 2 * nB (nsOf ((l.drop i).take n))) 0 := by rw [show (5 + 2 * (j : Int)).toNat + 0 = 5 + 2 * nB (nsOf ((l.drop i).take n)) by omega]; exact hg _ (by omega)
    have hu5 := ns_u32 (bv := ((l.drop i).take n)) hb (5 + 2 * nB (nsOf ((l.drop i).take n)))
    have h8 : (decide (((k : Int) - (5 + 2 * (j : Int) + 1)).tdiv 9 < vl.getD ((5 + 2 * (j : Int)).toNat + 0) 0) || decide (5 + 2 * (j : Int) + 1 + 9 * vl.getD ((5 + 2 * (j : Int)).toNat + 0) 0 ≠ (k : Int))) = false := h8
    rw [ht9, q1] at h8
    simp only [Bool.or_eq_false_iff, decide_eq_false_iff_not] at h8
    obtain ⟨hS, hS2⟩ := nS_of (R := (nsOf ((l.drop i).take n))) (by omega) hu5.1 (by omega)
    obtain ⟨s, uon, ub, uq, ul, uc⟩ := u
    obtain ⟨d1, d2⟩ : s ≤ nS (nsOf ((l.drop i).take n)) ∧ Grw (slts (nsOf ((l.drop i).take n)) s) ul uon s uc := hu
    have h9 : (s : Int) < vl.getD ((5 + 2 * (j : Int)).toNat + 0) 0 := of_decide_eq_true h9
    rw [q1, hS] at h9
    show (6 + 2 * (nB (nsOf ((l.drop i).take n)) : Int) + 9 * (s : Int)).toNat + 0 < vl.length
    omega
  · rename_i b0 h4 v hv h5 bp h6 w hw h7 h8 u hu h9
    have h4 : (decide ((n : Int) < 28) || decide ((n : Int).tmod 4 ≠ 0) || decide (nm l (((n : Int) - 4).toNat + i) ≠ crc ((l.drop i).take ((n : Int) - 4).toNat))) = false := h4
    rw [Int.tmod_eq_emod_of_nonneg (show (0 : Int) ≤ (n : Int) by omega)] at h4
    simp only [Bool.or_eq_false_iff, decide_eq_false_iff_not] at h4
    have h28 : 28 ≤ n := by omega
    have hm4 : n % 4 = 0 := by omega
    have e4 : ((n : Int) - 4).toNat = n - 4 := by omega
    obtain ⟨k, on, vb, vq, vl, vc⟩ := v
    obtain ⟨e1, e2⟩ : k ≤ (nsOf ((l.drop i).take n)).length ∧ Grw ((nsOf ((l.drop i).take n)).take k) vl on k vc := hv
    rw [hRl] at e1
    have h5 : ¬ 4 * (k : Int) + 4 < (n : Int) := of_decide_eq_false h5
    have hk : k = (n - 4) / 4 := by omega
    have hk4 : 4 * k = n - 4 := by omega
    have hg : ∀ t, t < k → vl.getD t 0 = (nsOf ((l.drop i).take n)).getD t 0 := by
      intro t ht
      rw [← tk_at (l := vl) (n := k) ht, e2.2.1, tk_at ht]
    have hon : on = true := on_of e2.2.2.2.2 (by omega)
    have hvl : k ≤ vl.length := Nat.le_trans e2.2.2.1 e2.2.2.2.1
    have htd : ((k : Int) - 6).tdiv 2 = ((k : Int) - 6) / 2 := Int.tdiv_eq_ediv_of_nonneg (by omega)
    have h6 : ¬ ((k : Int) - 6).tdiv 2 < vl.getD 4 0 := of_decide_eq_false h6
    rw [htd, hg 4 (by omega)] at h6
    have hu4 := ns_u32 (bv := ((l.drop i).take n)) hb 4
    obtain ⟨hB, hB2⟩ := nB_of (R := (nsOf ((l.drop i).take n))) (by rw [hRl]; omega) hu4.1 (by omega)
    obtain ⟨j, won, wb, wq, wl, wc⟩ := w
    obtain ⟨f1, f2, f3, f4⟩ : j ≤ nB (nsOf ((l.drop i).take n)) ∧ Grw (wl.take j) wl won j wc ∧ (wl.take j).map (·.l) = (blks (nsOf ((l.drop i).take n)) j).map lst ∧ ∀ r ∈ wl.take j, Rok r := hw
    have h7 : ¬ (j : Int) < vl.getD 4 0 := of_decide_eq_false h7
    rw [hg 4 (by omega), hB] at h7
    have hj : j = nB (nsOf ((l.drop i).take n)) := by omega
    have ht9 : ((k : Int) - (5 + 2 * (j : Int) + 1)).tdiv 9 = ((k : Int) - (5 + 2 * (j : Int) + 1)) / 9 := Int.tdiv_eq_ediv_of_nonneg (by omega)
    have q1 : vl.getD ((5 + 2 * (j : Int)).toNat + 0) 0 = (nsOf ((l.drop i).take n)).getD (5 + 2 * nB (nsOf ((l.drop i).take n))) 0 := by rw [show (5 + 2 * (j : Int)).toNat + 0 = 5 + 2 * nB (nsOf ((l.drop i).take n)) by omega]; exact hg _ (by omega)
    have hu5 := ns_u32 (bv := ((l.drop i).take n)) hb (5 + 2 * nB (nsOf ((l.drop i).take n)))
    have h8 : (decide (((k : Int) - (5 + 2 * (j : Int) + 1)).tdiv 9 < vl.getD ((5 + 2 * (j : Int)).toNat + 0) 0) || decide (5 + 2 * (j : Int) + 1 + 9 * vl.getD ((5 + 2 * (j : Int)).toNat + 0) 0 ≠ (k : Int))) = false := h8
    rw [ht9, q1] at h8
    simp only [Bool.or_eq_false_iff, decide_eq_false_iff_not] at h8
    obtain ⟨hS, hS2⟩ := nS_of (R := (nsOf ((l.drop i).take n))) (by omega) hu5.1 (by omega)
    obtain ⟨s, uon, ub, uq, ul, uc⟩ := u
    obtain ⟨d1, d2⟩ : s ≤ nS (nsOf ((l.drop i).take n)) ∧ Grw (slts (nsOf ((l.drop i).take n)) s) ul uon s uc := hu
    have h9 : (s : Int) < vl.getD ((5 + 2 * (j : Int)).toNat + 0) 0 := of_decide_eq_true h9
    rw [q1, hS] at h9
    exact inR64 (by show _ ≤ 6 + 2 * (nB (nsOf ((l.drop i).take n)) : Int) + 9 * (s : Int) + 1; omega) (by show 6 + 2 * (nB (nsOf ((l.drop i).take n)) : Int) + 9 * (s : Int) + 1 ≤ _; omega)
  · rename_i b0 h4 v hv h5 bp h6 w hw h7 h8 u hu h9
    have h4 : (decide ((n : Int) < 28) || decide ((n : Int).tmod 4 ≠ 0) || decide (nm l (((n : Int) - 4).toNat + i) ≠ crc ((l.drop i).take ((n : Int) - 4).toNat))) = false := h4
    rw [Int.tmod_eq_emod_of_nonneg (show (0 : Int) ≤ (n : Int) by omega)] at h4
    simp only [Bool.or_eq_false_iff, decide_eq_false_iff_not] at h4
    have h28 : 28 ≤ n := by omega
    have hm4 : n % 4 = 0 := by omega
    have e4 : ((n : Int) - 4).toNat = n - 4 := by omega
    obtain ⟨k, on, vb, vq, vl, vc⟩ := v
    obtain ⟨e1, e2⟩ : k ≤ (nsOf ((l.drop i).take n)).length ∧ Grw ((nsOf ((l.drop i).take n)).take k) vl on k vc := hv
    rw [hRl] at e1
    have h5 : ¬ 4 * (k : Int) + 4 < (n : Int) := of_decide_eq_false h5
    have hk : k = (n - 4) / 4 := by omega
    have hk4 : 4 * k = n - 4 := by omega
    have hg : ∀ t, t < k → vl.getD t 0 = (nsOf ((l.drop i).take n)).getD t 0 := by
      intro t ht
      rw [← tk_at (l := vl) (n := k) ht, e2.2.1, tk_at ht]
    have hon : on = true := on_of e2.2.2.2.2 (by omega)
    have hvl : k ≤ vl.length := Nat.le_trans e2.2.2.1 e2.2.2.2.1
    have htd : ((k : Int) - 6).tdiv 2 = ((k : Int) - 6) / 2 := Int.tdiv_eq_ediv_of_nonneg (by omega)
    have h6 : ¬ ((k : Int) - 6).tdiv 2 < vl.getD 4 0 := of_decide_eq_false h6
    rw [htd, hg 4 (by omega)] at h6
    have hu4 := ns_u32 (bv := ((l.drop i).take n)) hb 4
    obtain ⟨hB, hB2⟩ := nB_of (R := (nsOf ((l.drop i).take n))) (by rw [hRl]; omega) hu4.1 (by omega)
    obtain ⟨j, won, wb, wq, wl, wc⟩ := w
    obtain ⟨f1, f2, f3, f4⟩ : j ≤ nB (nsOf ((l.drop i).take n)) ∧ Grw (wl.take j) wl won j wc ∧ (wl.take j).map (·.l) = (blks (nsOf ((l.drop i).take n)) j).map lst ∧ ∀ r ∈ wl.take j, Rok r := hw
    have h7 : ¬ (j : Int) < vl.getD 4 0 := of_decide_eq_false h7
    rw [hg 4 (by omega), hB] at h7
    have hj : j = nB (nsOf ((l.drop i).take n)) := by omega
    have ht9 : ((k : Int) - (5 + 2 * (j : Int) + 1)).tdiv 9 = ((k : Int) - (5 + 2 * (j : Int) + 1)) / 9 := Int.tdiv_eq_ediv_of_nonneg (by omega)
    have q1 : vl.getD ((5 + 2 * (j : Int)).toNat + 0) 0 = (nsOf ((l.drop i).take n)).getD (5 + 2 * nB (nsOf ((l.drop i).take n))) 0 := by rw [show (5 + 2 * (j : Int)).toNat + 0 = 5 + 2 * nB (nsOf ((l.drop i).take n)) by omega]; exact hg _ (by omega)
    have hu5 := ns_u32 (bv := ((l.drop i).take n)) hb (5 + 2 * nB (nsOf ((l.drop i).take n)))
    have h8 : (decide (((k : Int) - (5 + 2 * (j : Int) + 1)).tdiv 9 < vl.getD ((5 + 2 * (j : Int)).toNat + 0) 0) || decide (5 + 2 * (j : Int) + 1 + 9 * vl.getD ((5 + 2 * (j : Int)).toNat + 0) 0 ≠ (k : Int))) = false := h8
    rw [ht9, q1] at h8
    simp only [Bool.or_eq_false_iff, decide_eq_false_iff_not] at h8
    obtain ⟨hS, hS2⟩ := nS_of (R := (nsOf ((l.drop i).take n))) (by omega) hu5.1 (by omega)
    obtain ⟨s, uon, ub, uq, ul, uc⟩ := u
    obtain ⟨d1, d2⟩ : s ≤ nS (nsOf ((l.drop i).take n)) ∧ Grw (slts (nsOf ((l.drop i).take n)) s) ul uon s uc := hu
    have h9 : (s : Int) < vl.getD ((5 + 2 * (j : Int)).toNat + 0) 0 := of_decide_eq_true h9
    rw [q1, hS] at h9
    exact hon
  · rename_i b0 h4 v hv h5 bp h6 w hw h7 h8 u hu h9
    have h4 : (decide ((n : Int) < 28) || decide ((n : Int).tmod 4 ≠ 0) || decide (nm l (((n : Int) - 4).toNat + i) ≠ crc ((l.drop i).take ((n : Int) - 4).toNat))) = false := h4
    rw [Int.tmod_eq_emod_of_nonneg (show (0 : Int) ≤ (n : Int) by omega)] at h4
    simp only [Bool.or_eq_false_iff, decide_eq_false_iff_not] at h4
    have h28 : 28 ≤ n := by omega
    have hm4 : n % 4 = 0 := by omega
    have e4 : ((n : Int) - 4).toNat = n - 4 := by omega
    obtain ⟨k, on, vb, vq, vl, vc⟩ := v
    obtain ⟨e1, e2⟩ : k ≤ (nsOf ((l.drop i).take n)).length ∧ Grw ((nsOf ((l.drop i).take n)).take k) vl on k vc := hv
    rw [hRl] at e1
    have h5 : ¬ 4 * (k : Int) + 4 < (n : Int) := of_decide_eq_false h5
    have hk : k = (n - 4) / 4 := by omega
    have hk4 : 4 * k = n - 4 := by omega
    have hg : ∀ t, t < k → vl.getD t 0 = (nsOf ((l.drop i).take n)).getD t 0 := by
      intro t ht
      rw [← tk_at (l := vl) (n := k) ht, e2.2.1, tk_at ht]
    have hon : on = true := on_of e2.2.2.2.2 (by omega)
    have hvl : k ≤ vl.length := Nat.le_trans e2.2.2.1 e2.2.2.2.1
    have htd : ((k : Int) - 6).tdiv 2 = ((k : Int) - 6) / 2 := Int.tdiv_eq_ediv_of_nonneg (by omega)
    have h6 : ¬ ((k : Int) - 6).tdiv 2 < vl.getD 4 0 := of_decide_eq_false h6
    rw [htd, hg 4 (by omega)] at h6
    have hu4 := ns_u32 (bv := ((l.drop i).take n)) hb 4
    obtain ⟨hB, hB2⟩ := nB_of (R := (nsOf ((l.drop i).take n))) (by rw [hRl]; omega) hu4.1 (by omega)
    obtain ⟨j, won, wb, wq, wl, wc⟩ := w
    obtain ⟨f1, f2, f3, f4⟩ : j ≤ nB (nsOf ((l.drop i).take n)) ∧ Grw (wl.take j) wl won j wc ∧ (wl.take j).map (·.l) = (blks (nsOf ((l.drop i).take n)) j).map lst ∧ ∀ r ∈ wl.take j, Rok r := hw
    have h7 : ¬ (j : Int) < vl.getD 4 0 := of_decide_eq_false h7
    rw [hg 4 (by omega), hB] at h7
    have hj : j = nB (nsOf ((l.drop i).take n)) := by omega
    have ht9 : ((k : Int) - (5 + 2 * (j : Int) + 1)).tdiv 9 = ((k : Int) - (5 + 2 * (j : Int) + 1)) / 9 := Int.tdiv_eq_ediv_of_nonneg (by omega)
    have q1 : vl.getD ((5 + 2 * (j : Int)).toNat + 0) 0 = (nsOf ((l.drop i).take n)).getD (5 + 2 * nB (nsOf ((l.drop i).take n))) 0 := by rw [show (5 + 2 * (j : Int)).toNat + 0 = 5 + 2 * nB (nsOf ((l.drop i).take n)) by omega]; exact hg _ (by omega)
    have hu5 := ns_u32 (bv := ((l.drop i).take n)) hb (5 + 2 * nB (nsOf ((l.drop i).take n)))
    have h8 : (decide (((k : Int) - (5 + 2 * (j : Int) + 1)).tdiv 9 < vl.getD ((5 + 2 * (j : Int)).toNat + 0) 0) || decide (5 + 2 * (j : Int) + 1 + 9 * vl.getD ((5 + 2 * (j : Int)).toNat + 0) 0 ≠ (k : Int))) = false := h8
    rw [ht9, q1] at h8
    simp only [Bool.or_eq_false_iff, decide_eq_false_iff_not] at h8
    obtain ⟨hS, hS2⟩ := nS_of (R := (nsOf ((l.drop i).take n))) (by omega) hu5.1 (by omega)
    obtain ⟨s, uon, ub, uq, ul, uc⟩ := u
    obtain ⟨d1, d2⟩ : s ≤ nS (nsOf ((l.drop i).take n)) ∧ Grw (slts (nsOf ((l.drop i).take n)) s) ul uon s uc := hu
    have h9 : (s : Int) < vl.getD ((5 + 2 * (j : Int)).toNat + 0) 0 := of_decide_eq_true h9
    rw [q1, hS] at h9
    show 6 + 2 * (nB (nsOf ((l.drop i).take n)) : Int) + 9 * (s : Int) + 1 < (k : Int)
    omega
  · rename_i b0 h4 v hv h5 bp h6 w hw h7 h8 u hu h9
    have h4 : (decide ((n : Int) < 28) || decide ((n : Int).tmod 4 ≠ 0) || decide (nm l (((n : Int) - 4).toNat + i) ≠ crc ((l.drop i).take ((n : Int) - 4).toNat))) = false := h4
    rw [Int.tmod_eq_emod_of_nonneg (show (0 : Int) ≤ (n : Int) by omega)] at h4
    simp only [Bool.or_eq_false_iff, decide_eq_false_iff_not] at h4
    have h28 : 28 ≤ n := by omega
    have hm4 : n % 4 = 0 := by omega
    have e4 : ((n : Int) - 4).toNat = n - 4 := by omega
    obtain ⟨k, on, vb, vq, vl, vc⟩ := v
    obtain ⟨e1, e2⟩ : k ≤ (nsOf ((l.drop i).take n)).length ∧ Grw ((nsOf ((l.drop i).take n)).take k) vl on k vc := hv
    rw [hRl] at e1
    have h5 : ¬ 4 * (k : Int) + 4 < (n : Int) := of_decide_eq_false h5
    have hk : k = (n - 4) / 4 := by omega
    have hk4 : 4 * k = n - 4 := by omega
    have hg : ∀ t, t < k → vl.getD t 0 = (nsOf ((l.drop i).take n)).getD t 0 := by
      intro t ht
      rw [← tk_at (l := vl) (n := k) ht, e2.2.1, tk_at ht]
    have hon : on = true := on_of e2.2.2.2.2 (by omega)
    have hvl : k ≤ vl.length := Nat.le_trans e2.2.2.1 e2.2.2.2.1
    have htd : ((k : Int) - 6).tdiv 2 = ((k : Int) - 6) / 2 := Int.tdiv_eq_ediv_of_nonneg (by omega)
    have h6 : ¬ ((k : Int) - 6).tdiv 2 < vl.getD 4 0 := of_decide_eq_false h6
    rw [htd, hg 4 (by omega)] at h6
    have hu4 := ns_u32 (bv := ((l.drop i).take n)) hb 4
    obtain ⟨hB, hB2⟩ := nB_of (R := (nsOf ((l.drop i).take n))) (by rw [hRl]; omega) hu4.1 (by omega)
    obtain ⟨j, won, wb, wq, wl, wc⟩ := w
    obtain ⟨f1, f2, f3, f4⟩ : j ≤ nB (nsOf ((l.drop i).take n)) ∧ Grw (wl.take j) wl won j wc ∧ (wl.take j).map (·.l) = (blks (nsOf ((l.drop i).take n)) j).map lst ∧ ∀ r ∈ wl.take j, Rok r := hw
    have h7 : ¬ (j : Int) < vl.getD 4 0 := of_decide_eq_false h7
    rw [hg 4 (by omega), hB] at h7
    have hj : j = nB (nsOf ((l.drop i).take n)) := by omega
    have ht9 : ((k : Int) - (5 + 2 * (j : Int) + 1)).tdiv 9 = ((k : Int) - (5 + 2 * (j : Int) + 1)) / 9 := Int.tdiv_eq_ediv_of_nonneg (by omega)
    have q1 : vl.getD ((5 + 2 * (j : Int)).toNat + 0) 0 = (nsOf ((l.drop i).take n)).getD (5 + 2 * nB (nsOf ((l.drop i).take n))) 0 := by rw [show (5 + 2 * (j : Int)).toNat + 0 = 5 + 2 * nB (nsOf ((l.drop i).take n)) by omega]; exact hg _ (by omega)
    have hu5 := ns_u32 (bv := ((l.drop i).take n)) hb (5 + 2 * nB (nsOf ((l.drop i).take n)))
    have h8 : (decide (((k : Int) - (5 + 2 * (j : Int) + 1)).tdiv 9 < vl.getD ((5 + 2 * (j : Int)).toNat + 0) 0) || decide (5 + 2 * (j : Int) + 1 + 9 * vl.getD ((5 + 2 * (j : Int)).toNat + 0) 0 ≠ (k : Int))) = false := h8
    rw [ht9, q1] at h8
    simp only [Bool.or_eq_false_iff, decide_eq_false_iff_not] at h8
    obtain ⟨hS, hS2⟩ := nS_of (R := (nsOf ((l.drop i).take n))) (by omega) hu5.1 (by omega)
    obtain ⟨s, uon, ub, uq, ul, uc⟩ := u
    obtain ⟨d1, d2⟩ : s ≤ nS (nsOf ((l.drop i).take n)) ∧ Grw (slts (nsOf ((l.drop i).take n)) s) ul uon s uc := hu
    have h9 : (s : Int) < vl.getD ((5 + 2 * (j : Int)).toNat + 0) 0 := of_decide_eq_true h9
    rw [q1, hS] at h9
    exact hon
  · rename_i b0 h4 v hv h5 bp h6 w hw h7 h8 u hu h9
    have h4 : (decide ((n : Int) < 28) || decide ((n : Int).tmod 4 ≠ 0) || decide (nm l (((n : Int) - 4).toNat + i) ≠ crc ((l.drop i).take ((n : Int) - 4).toNat))) = false := h4
    rw [Int.tmod_eq_emod_of_nonneg (show (0 : Int) ≤ (n : Int) by omega)] at h4
    simp only [Bool.or_eq_false_iff, decide_eq_false_iff_not] at h4
    have h28 : 28 ≤ n := by omega
    have hm4 : n % 4 = 0 := by omega
    have e4 : ((n : Int) - 4).toNat = n - 4 := by omega
    obtain ⟨k, on, vb, vq, vl, vc⟩ := v
    obtain ⟨e1, e2⟩ : k ≤ (nsOf ((l.drop i).take n)).length ∧ Grw ((nsOf ((l.drop i).take n)).take k) vl on k vc := hv
    rw [hRl] at e1
    have h5 : ¬ 4 * (k : Int) + 4 < (n : Int) := of_decide_eq_false h5
    have hk : k = (n - 4) / 4 := by omega
    have hk4 : 4 * k = n - 4 := by omega
    have hg : ∀ t, t < k → vl.getD t 0 = (nsOf ((l.drop i).take n)).getD t 0 := by
      intro t ht
      rw [← tk_at (l := vl) (n := k) ht, e2.2.1, tk_at ht]
    have hon : on = true := on_of e2.2.2.2.2 (by omega)
    have hvl : k ≤ vl.length := Nat.le_trans e2.2.2.1 e2.2.2.2.1
    have htd : ((k : Int) - 6).tdiv 2 = ((k : Int) - 6) / 2 := Int.tdiv_eq_ediv_of_nonneg (by omega)
    have h6 : ¬ ((k : Int) - 6).tdiv 2 < vl.getD 4 0 := of_decide_eq_false h6
    rw [htd, hg 4 (by omega)] at h6
    have hu4 := ns_u32 (bv := ((l.drop i).take n)) hb 4
    obtain ⟨hB, hB2⟩ := nB_of (R := (nsOf ((l.drop i).take n))) (by rw [hRl]; omega) hu4.1 (by omega)
    obtain ⟨j, won, wb, wq, wl, wc⟩ := w
    obtain ⟨f1, f2, f3, f4⟩ : j ≤ nB (nsOf ((l.drop i).take n)) ∧ Grw (wl.take j) wl won j wc ∧ (wl.take j).map (·.l) = (blks (nsOf ((l.drop i).take n)) j).map lst ∧ ∀ r ∈ wl.take j, Rok r := hw
    have h7 : ¬ (j : Int) < vl.getD 4 0 := of_decide_eq_false h7
    rw [hg 4 (by omega), hB] at h7
    have hj : j = nB (nsOf ((l.drop i).take n)) := by omega
    have ht9 : ((k : Int) - (5 + 2 * (j : Int) + 1)).tdiv 9 = ((k : Int) - (5 + 2 * (j : Int) + 1)) / 9 := Int.tdiv_eq_ediv_of_nonneg (by omega)
    have q1 : vl.getD ((5 + 2 * (j : Int)).toNat + 0) 0 = (nsOf ((l.drop i).take n)).getD (5 + 2 * nB (nsOf ((l.drop i).take n))) 0 := by rw [show (5 + 2 * (j : Int)).toNat + 0 = 5 + 2 * nB (nsOf ((l.drop i).take n)) by omega]; exact hg _ (by omega)
    have hu5 := ns_u32 (bv := ((l.drop i).take n)) hb (5 + 2 * nB (nsOf ((l.drop i).take n)))
    have h8 : (decide (((k : Int) - (5 + 2 * (j : Int) + 1)).tdiv 9 < vl.getD ((5 + 2 * (j : Int)).toNat + 0) 0) || decide (5 + 2 * (j : Int) + 1 + 9 * vl.getD ((5 + 2 * (j : Int)).toNat + 0) 0 ≠ (k : Int))) = false := h8
    rw [ht9, q1] at h8
    simp only [Bool.or_eq_false_iff, decide_eq_false_iff_not] at h8
    obtain ⟨hS, hS2⟩ := nS_of (R := (nsOf ((l.drop i).take n))) (by omega) hu5.1 (by omega)
    obtain ⟨s, uon, ub, uq, ul, uc⟩ := u
    obtain ⟨d1, d2⟩ : s ≤ nS (nsOf ((l.drop i).take n)) ∧ Grw (slts (nsOf ((l.drop i).take n)) s) ul uon s uc := hu
    have h9 : (s : Int) < vl.getD ((5 + 2 * (j : Int)).toNat + 0) 0 := of_decide_eq_true h9
    rw [q1, hS] at h9
    show (6 + 2 * (nB (nsOf ((l.drop i).take n)) : Int) + 9 * (s : Int) + 1).toNat + 0 < vl.length
    omega
  · rename_i b0 h4 v hv h5 bp h6 w hw h7 h8 u hu h9
    have h4 : (decide ((n : Int) < 28) || decide ((n : Int).tmod 4 ≠ 0) || decide (nm l (((n : Int) - 4).toNat + i) ≠ crc ((l.drop i).take ((n : Int) - 4).toNat))) = false := h4
    rw [Int.tmod_eq_emod_of_nonneg (show (0 : Int) ≤ (n : Int) by omega)] at h4
    simp only [Bool.or_eq_false_iff, decide_eq_false_iff_not] at h4
    have h28 : 28 ≤ n := by omega
    have hm4 : n % 4 = 0 := by omega
    have e4 : ((n : Int) - 4).toNat = n - 4 := by omega
    obtain ⟨k, on, vb, vq, vl, vc⟩ := v
    obtain ⟨e1, e2⟩ : k ≤ (nsOf ((l.drop i).take n)).length ∧ Grw ((nsOf ((l.drop i).take n)).take k) vl on k vc := hv
    rw [hRl] at e1
    have h5 : ¬ 4 * (k : Int) + 4 < (n : Int) := of_decide_eq_false h5
    have hk : k = (n - 4) / 4 := by omega
    have hk4 : 4 * k = n - 4 := by omega
    have hg : ∀ t, t < k → vl.getD t 0 = (nsOf ((l.drop i).take n)).getD t 0 := by
      intro t ht
      rw [← tk_at (l := vl) (n := k) ht, e2.2.1, tk_at ht]
    have hon : on = true := on_of e2.2.2.2.2 (by omega)
    have hvl : k ≤ vl.length := Nat.le_trans e2.2.2.1 e2.2.2.2.1
    have htd : ((k : Int) - 6).tdiv 2 = ((k : Int) - 6) / 2 := Int.tdiv_eq_ediv_of_nonneg (by omega)
    have h6 : ¬ ((k : Int) - 6).tdiv 2 < vl.getD 4 0 := of_decide_eq_false h6
    rw [htd, hg 4 (by omega)] at h6
    have hu4 := ns_u32 (bv := ((l.drop i).take n)) hb 4
    obtain ⟨hB, hB2⟩ := nB_of (R := (nsOf ((l.drop i).take n))) (by rw [hRl]; omega) hu4.1 (by omega)
    obtain ⟨j, won, wb, wq, wl, wc⟩ := w
    obtain ⟨f1, f2, f3, f4⟩ : j ≤ nB (nsOf ((l.drop i).take n)) ∧ Grw (wl.take j) wl won j wc ∧ (wl.take j).map (·.l) = (blks (nsOf ((l.drop i).take n)) j).map lst ∧ ∀ r ∈ wl.take j, Rok r := hw
    have h7 : ¬ (j : Int) < vl.getD 4 0 := of_decide_eq_false h7
    rw [hg 4 (by omega), hB] at h7
    have hj : j = nB (nsOf ((l.drop i).take n)) := by omega
    have ht9 : ((k : Int) - (5 + 2 * (j : Int) + 1)).tdiv 9 = ((k : Int) - (5 + 2 * (j : Int) + 1)) / 9 := Int.tdiv_eq_ediv_of_nonneg (by omega)
    have q1 : vl.getD ((5 + 2 * (j : Int)).toNat + 0) 0 = (nsOf ((l.drop i).take n)).getD (5 + 2 * nB (nsOf ((l.drop i).take n))) 0 := by rw [show (5 + 2 * (j : Int)).toNat + 0 = 5 + 2 * nB (nsOf ((l.drop i).take n)) by omega]; exact hg _ (by omega)
    have hu5 := ns_u32 (bv := ((l.drop i).take n)) hb (5 + 2 * nB (nsOf ((l.drop i).take n)))
    have h8 : (decide (((k : Int) - (5 + 2 * (j : Int) + 1)).tdiv 9 < vl.getD ((5 + 2 * (j : Int)).toNat + 0) 0) || decide (5 + 2 * (j : Int) + 1 + 9 * vl.getD ((5 + 2 * (j : Int)).toNat + 0) 0 ≠ (k : Int))) = false := h8
    rw [ht9, q1] at h8
    simp only [Bool.or_eq_false_iff, decide_eq_false_iff_not] at h8
    obtain ⟨hS, hS2⟩ := nS_of (R := (nsOf ((l.drop i).take n))) (by omega) hu5.1 (by omega)
    obtain ⟨s, uon, ub, uq, ul, uc⟩ := u
    obtain ⟨d1, d2⟩ : s ≤ nS (nsOf ((l.drop i).take n)) ∧ Grw (slts (nsOf ((l.drop i).take n)) s) ul uon s uc := hu
    have h9 : (s : Int) < vl.getD ((5 + 2 * (j : Int)).toNat + 0) 0 := of_decide_eq_true h9
    rw [q1, hS] at h9
    exact inR64 (by show _ ≤ 6 + 2 * (nB (nsOf ((l.drop i).take n)) : Int) + 9 * (s : Int) + 2; omega) (by show 6 + 2 * (nB (nsOf ((l.drop i).take n)) : Int) + 9 * (s : Int) + 2 ≤ _; omega)
  · rename_i b0 h4 v hv h5 bp h6 w hw h7 h8 u hu h9
    have h4 : (decide ((n : Int) < 28) || decide ((n : Int).tmod 4 ≠ 0) || decide (nm l (((n : Int) - 4).toNat + i) ≠ crc ((l.drop i).take ((n : Int) - 4).toNat))) = false := h4
    rw [Int.tmod_eq_emod_of_nonneg (show (0 : Int) ≤ (n : Int) by omega)] at h4
    simp only [Bool.or_eq_false_iff, decide_eq_false_iff_not] at h4
    have h28 : 28 ≤ n := by omega
    have hm4 : n % 4 = 0 := by omega
    have e4 : ((n : Int) - 4).toNat = n - 4 := by omega
    obtain ⟨k, on, vb, vq, vl, vc⟩ := v
    obtain ⟨e1, e2⟩ : k ≤ (nsOf ((l.drop i).take n)).length ∧ Grw ((nsOf ((l.drop i).take n)).take k) vl on k vc := hv
    rw [hRl] at e1
    have h5 : ¬ 4 * (k : Int) + 4 < (n : Int) := of_decide_eq_false h5
    have hk : k = (n - 4) / 4 := by omega
    have hk4 : 4 * k = n - 4 := by omega
    have hg : ∀ t, t < k → vl.getD t 0 = (nsOf ((l.drop i).take n)).getD t 0 := by
      intro t ht
      rw [← tk_at (l := vl) (n := k) ht, e2.2.1, tk_at ht]
    have hon : on = true := on_of e2.2.2.2.2 (by omega)
    have hvl : k ≤ vl.length := Nat.le_trans e2.2.2.1 e2.2.2.2.1
    have htd : ((k : Int) - 6).tdiv 2 = ((k : Int) - 6) / 2 := Int.tdiv_eq_ediv_of_nonneg (by omega)
    have h6 : ¬ ((k : Int) - 6).tdiv 2 < vl.getD 4 0 := of_decide_eq_false h6
    rw [htd, hg 4 (by omega)] at h6
    have hu4 := ns_u32 (bv := ((l.drop i).take n)) hb 4
    obtain ⟨hB, hB2⟩ := nB_of (R := (nsOf ((l.drop i).take n))) (by rw [hRl]; omega) hu4.1 (by omega)
    obtain ⟨j, won, wb, wq, wl, wc⟩ := w
    obtain ⟨f1, f2, f3, f4⟩ : j ≤ nB (nsOf ((l.drop i).take n)) ∧ Grw (wl.take j) wl won j wc ∧ (wl.take j).map (·.l) = (blks (nsOf ((l.drop i).take n)) j).map lst ∧ ∀ r ∈ wl.take j, Rok r := hw
    have h7 : ¬ (j : Int) < vl.getD 4 0 := of_decide_eq_false h7
    rw [hg 4 (by omega), hB] at h7
    have hj : j = nB (nsOf ((l.drop i).take n)) := by omega
    have ht9 : ((k : Int) - (5 + 2 * (j : Int) + 1)).tdiv 9 = ((k : Int) - (5 + 2 * (j : Int) + 1)) / 9 := Int.tdiv_eq_ediv_of_nonneg (by omega)
    have q1 : vl.getD ((5 + 2 * (j : Int)).toNat + 0) 0 = (nsOf ((l.drop i).take n)).getD (5 + 2 * nB (nsOf ((l.drop i).take n))) 0 := by rw [show (5 + 2 * (j : Int)).toNat + 0 = 5 + 2 * nB (nsOf ((l.drop i).take n)) by omega]; exact hg _ (by omega)
    have hu5 := ns_u32 (bv := ((l.drop i).take n)) hb (5 + 2 * nB (nsOf ((l.drop i).take n)))
    have h8 : (decide (((k : Int) - (5 + 2 * (j : Int) + 1)).tdiv 9 < vl.getD ((5 + 2 * (j : Int)).toNat + 0) 0) || decide (5 + 2 * (j : Int) + 1 + 9 * vl.getD ((5 + 2 * (j : Int)).toNat + 0) 0 ≠ (k : Int))) = false := h8
    rw [ht9, q1] at h8
    simp only [Bool.or_eq_false_iff, decide_eq_false_iff_not] at h8
    obtain ⟨hS, hS2⟩ := nS_of (R := (nsOf ((l.drop i).take n))) (by omega) hu5.1 (by omega)
    obtain ⟨s, uon, ub, uq, ul, uc⟩ := u
    obtain ⟨d1, d2⟩ : s ≤ nS (nsOf ((l.drop i).take n)) ∧ Grw (slts (nsOf ((l.drop i).take n)) s) ul uon s uc := hu
    have h9 : (s : Int) < vl.getD ((5 + 2 * (j : Int)).toNat + 0) 0 := of_decide_eq_true h9
    rw [q1, hS] at h9
    exact hon
  · rename_i b0 h4 v hv h5 bp h6 w hw h7 h8 u hu h9
    have h4 : (decide ((n : Int) < 28) || decide ((n : Int).tmod 4 ≠ 0) || decide (nm l (((n : Int) - 4).toNat + i) ≠ crc ((l.drop i).take ((n : Int) - 4).toNat))) = false := h4
    rw [Int.tmod_eq_emod_of_nonneg (show (0 : Int) ≤ (n : Int) by omega)] at h4
    simp only [Bool.or_eq_false_iff, decide_eq_false_iff_not] at h4
    have h28 : 28 ≤ n := by omega
    have hm4 : n % 4 = 0 := by omega
    have e4 : ((n : Int) - 4).toNat = n - 4 := by omega
    obtain ⟨k, on, vb, vq, vl, vc⟩ := v
    obtain ⟨e1, e2⟩ : k ≤ (nsOf ((l.drop i).take n)).length ∧ Grw ((nsOf ((l.drop i).take n)).take k) vl on k vc := hv
    rw [hRl] at e1
    have h5 : ¬ 4 * (k : Int) + 4 < (n : Int) := of_decide_eq_false h5
    have hk : k = (n - 4) / 4 := by omega
    have hk4 : 4 * k = n - 4 := by omega
    have hg : ∀ t, t < k → vl.getD t 0 = (nsOf ((l.drop i).take n)).getD t 0 := by
      intro t ht
      rw [← tk_at (l := vl) (n := k) ht, e2.2.1, tk_at ht]
    have hon : on = true := on_of e2.2.2.2.2 (by omega)
    have hvl : k ≤ vl.length := Nat.le_trans e2.2.2.1 e2.2.2.2.1
    have htd : ((k : Int) - 6).tdiv 2 = ((k : Int) - 6) / 2 := Int.tdiv_eq_ediv_of_nonneg (by omega)
    have h6 : ¬ ((k : Int) - 6).tdiv 2 < vl.getD 4 0 := of_decide_eq_false h6
    rw [htd, hg 4 (by omega)] at h6
    have hu4 := ns_u32 (bv := ((l.drop i).take n)) hb 4
    obtain ⟨hB, hB2⟩ := nB_of (R := (nsOf ((l.drop i).take n))) (by rw [hRl]; omega) hu4.1 (by omega)
    obtain ⟨j, won, wb, wq, wl, wc⟩ := w
    obtain ⟨f1, f2, f3, f4⟩ : j ≤ nB (nsOf ((l.drop i).take n)) ∧ Grw (wl.take j) wl won j wc ∧ (wl.take j).map (·.l) = (blks (nsOf ((l.drop i).take n)) j).map lst ∧ ∀ r ∈ wl.take j, Rok r := hw
    have h7 : ¬ (j : Int) < vl.getD 4 0 := of_decide_eq_false h7
    rw [hg 4 (by omega), hB] at h7
    have hj : j = nB (nsOf ((l.drop i).take n)) := by omega
    have ht9 : ((k : Int) - (5 + 2 * (j : Int) + 1)).tdiv 9 = ((k : Int) - (5 + 2 * (j : Int) + 1)) / 9 := Int.tdiv_eq_ediv_of_nonneg (by omega)
    have q1 : vl.getD ((5 + 2 * (j : Int)).toNat + 0) 0 = (nsOf ((l.drop i).take n)).getD (5 + 2 * nB (nsOf ((l.drop i).take n))) 0 := by rw [show (5 + 2 * (j : Int)).toNat + 0 = 5 + 2 * nB (nsOf ((l.drop i).take n)) by omega]; exact hg _ (by omega)
    have hu5 := ns_u32 (bv := ((l.drop i).take n)) hb (5 + 2 * nB (nsOf ((l.drop i).take n)))
    have h8 : (decide (((k : Int) - (5 + 2 * (j : Int) + 1)).tdiv 9 < vl.getD ((5 + 2 * (j : Int)).toNat + 0) 0) || decide (5 + 2 * (j : Int) + 1 + 9 * vl.getD ((5 + 2 * (j : Int)).toNat + 0) 0 ≠ (k : Int))) = false := h8
    rw [ht9, q1] at h8
    simp only [Bool.or_eq_false_iff, decide_eq_false_iff_not] at h8
    obtain ⟨hS, hS2⟩ := nS_of (R := (nsOf ((l.drop i).take n))) (by omega) hu5.1 (by omega)
    obtain ⟨s, uon, ub, uq, ul, uc⟩ := u
    obtain ⟨d1, d2⟩ : s ≤ nS (nsOf ((l.drop i).take n)) ∧ Grw (slts (nsOf ((l.drop i).take n)) s) ul uon s uc := hu
    have h9 : (s : Int) < vl.getD ((5 + 2 * (j : Int)).toNat + 0) 0 := of_decide_eq_true h9
    rw [q1, hS] at h9
    show 6 + 2 * (nB (nsOf ((l.drop i).take n)) : Int) + 9 * (s : Int) + 2 < (k : Int)
    omega
  · rename_i b0 h4 v hv h5 bp h6 w hw h7 h8 u hu h9
    have h4 : (decide ((n : Int) < 28) || decide ((n : Int).tmod 4 ≠ 0) || decide (nm l (((n : Int) - 4).toNat + i) ≠ crc ((l.drop i).take ((n : Int) - 4).toNat))) = false := h4
    rw [Int.tmod_eq_emod_of_nonneg (show (0 : Int) ≤ (n : Int) by omega)] at h4
    simp only [Bool.or_eq_false_iff, decide_eq_false_iff_not] at h4
    have h28 : 28 ≤ n := by omega
    have hm4 : n % 4 = 0 := by omega
    have e4 : ((n : Int) - 4).toNat = n - 4 := by omega
    obtain ⟨k, on, vb, vq, vl, vc⟩ := v
    obtain ⟨e1, e2⟩ : k ≤ (nsOf ((l.drop i).take n)).length ∧ Grw ((nsOf ((l.drop i).take n)).take k) vl on k vc := hv
    rw [hRl] at e1
    have h5 : ¬ 4 * (k : Int) + 4 < (n : Int) := of_decide_eq_false h5
    have hk : k = (n - 4) / 4 := by omega
    have hk4 : 4 * k = n - 4 := by omega
    have hg : ∀ t, t < k → vl.getD t 0 = (nsOf ((l.drop i).take n)).getD t 0 := by
      intro t ht
      rw [← tk_at (l := vl) (n := k) ht, e2.2.1, tk_at ht]
    have hon : on = true := on_of e2.2.2.2.2 (by omega)
    have hvl : k ≤ vl.length := Nat.le_trans e2.2.2.1 e2.2.2.2.1
    have htd : ((k : Int) - 6).tdiv 2 = ((k : Int) - 6) / 2 := Int.tdiv_eq_ediv_of_nonneg (by omega)
    have h6 : ¬ ((k : Int) - 6).tdiv 2 < vl.getD 4 0 := of_decide_eq_false h6
    rw [htd, hg 4 (by omega)] at h6
    have hu4 := ns_u32 (bv := ((l.drop i).take n)) hb 4
    obtain ⟨hB, hB2⟩ := nB_of (R := (nsOf ((l.drop i).take n))) (by rw [hRl]; omega) hu4.1 (by omega)
    obtain ⟨j, won, wb, wq, wl, wc⟩ := w
    obtain ⟨f1, f2, f3, f4⟩ : j ≤ nB (nsOf ((l.drop i).take n)) ∧ Grw (wl.take j) wl won j wc ∧ (wl.take j).map (·.l) = (blks (nsOf ((l.drop i).take n)) j).map lst ∧ ∀ r ∈ wl.take j, Rok r := hw
    have h7 : ¬ (j : Int) < vl.getD 4 0 := of_decide_eq_false h7
    rw [hg 4 (by omega), hB] at h7
    have hj : j = nB (nsOf ((l.drop i).take n)) := by omega
    have ht9 : ((k : Int) - (5 + 2 * (j : Int) + 1)).tdiv 9 = ((k : Int) - (5 + 2 * (j : Int) + 1)) / 9 := Int.tdiv_eq_ediv_of_nonneg (by omega)
    have q1 : vl.getD ((5 + 2 * (j : Int)).toNat + 0) 0 = (nsOf ((l.drop i).take n)).getD (5 + 2 * nB (nsOf ((l.drop i).take n))) 0 := by rw [show (5 + 2 * (j : Int)).toNat + 0 = 5 + 2 * nB (nsOf ((l.drop i).take n)) by omega]; exact hg _ (by omega)
    have hu5 := ns_u32 (bv := ((l.drop i).take n)) hb (5 + 2 * nB (nsOf ((l.drop i).take n)))
    have h8 : (decide (((k : Int) - (5 + 2 * (j : Int) + 1)).tdiv 9 < vl.getD ((5 + 2 * (j : Int)).toNat + 0) 0) || decide (5 + 2 * (j : Int) + 1 + 9 * vl.getD ((5 + 2 * (j : Int)).toNat + 0) 0 ≠ (k : Int))) = false := h8
    rw [ht9, q1] at h8
    simp only [Bool.or_eq_false_iff, decide_eq_false_iff_not] at h8
    obtain ⟨hS, hS2⟩ := nS_of (R := (nsOf ((l.drop i).take n))) (by omega) hu5.1 (by omega)
    obtain ⟨s, uon, ub, uq, ul, uc⟩ := u
    obtain ⟨d1, d2⟩ : s ≤ nS (nsOf ((l.drop i).take n)) ∧ Grw (slts (nsOf ((l.drop i).take n)) s) ul uon s uc := hu
    have h9 : (s : Int) < vl.getD ((5 + 2 * (j : Int)).toNat + 0) 0 := of_decide_eq_true h9
    rw [q1, hS] at h9
    exact hon
  · rename_i b0 h4 v hv h5 bp h6 w hw h7 h8 u hu h9
    have h4 : (decide ((n : Int) < 28) || decide ((n : Int).tmod 4 ≠ 0) || decide (nm l (((n : Int) - 4).toNat + i) ≠ crc ((l.drop i).take ((n : Int) - 4).toNat))) = false := h4
    rw [Int.tmod_eq_emod_of_nonneg (show (0 : Int) ≤ (n : Int) by omega)] at h4
    simp only [Bool.or_eq_false_iff, decide_eq_false_iff_not] at h4
    have h28 : 28 ≤ n := by omega
    have hm4 : n % 4 = 0 := by omega
    have e4 : ((n : Int) - 4).toNat = n - 4 := by omega
    obtain ⟨k, on, vb, vq, vl, vc⟩ := v
    obtain ⟨e1, e2⟩ : k ≤ (nsOf ((l.drop i).take n)).length ∧ Grw ((nsOf ((l.drop i).take n)).take k) vl on k vc := hv
    rw [hRl] at e1
    have h5 : ¬ 4 * (k : Int) + 4 < (n : Int) := of_decide_eq_false h5
    have hk : k = (n - 4) / 4 := by omega
    have hk4 : 4 * k = n - 4 := by omega
    have hg : ∀ t, t < k → vl.getD t 0 = (nsOf ((l.drop i).take n)).getD t 0 := by
      intro t ht
      rw [← tk_at (l := vl) (n := k) ht, e2.2.1, tk_at ht]
    have hon : on = true := on_of e2.2.2.2.2 (by omega)
    have hvl : k ≤ vl.length := Nat.le_trans e2.2.2.1 e2.2.2.2.1
    have htd : ((k : Int) - 6).tdiv 2 = ((k : Int) - 6) / 2 := Int.tdiv_eq_ediv_of_nonneg (by omega)
    have h6 : ¬ ((k : Int) - 6).tdiv 2 < vl.getD 4 0 := of_decide_eq_false h6
    rw [htd, hg 4 (by omega)] at h6
    have hu4 := ns_u32 (bv := ((l.drop i).take n)) hb 4
    obtain ⟨hB, hB2⟩ := nB_of (R := (nsOf ((l.drop i).take n))) (by rw [hRl]; omega) hu4.1 (by omega)
    obtain ⟨j, won, wb, wq, wl, wc⟩ := w
    obtain ⟨f1, f2, f3, f4⟩ : j ≤ nB (nsOf ((l.drop i).take n)) ∧ Grw (wl.take j) wl won j wc ∧ (wl.take j).map (·.l) = (blks (nsOf ((l.drop i).take n)) j).map lst ∧ ∀ r ∈ wl.take j, Rok r := hw
    have h7 : ¬ (j : Int) < vl.getD 4 0 := of_decide_eq_false h7
    rw [hg 4 (by omega), hB] at h7
    have hj : j = nB (nsOf ((l.drop i).take n)) := by omega
    have ht9 : ((k : Int) - (5 + 2 * (j : Int) + 1)).tdiv 9 = ((k : Int) - (5 + 2 * (j : Int) + 1)) / 9 := Int.tdiv_eq_ediv_of_nonneg (by omega)
    have q1 : vl.getD ((5 + 2 * (j : Int)).toNat + 0) 0 = (nsOf ((l.drop i).take n)).getD (5 + 2 * nB (nsOf ((l.drop i).take n))) 0 := by rw [show (5 + 2 * (j : Int)).toNat + 0 = 5 + 2 * nB (nsOf ((l.drop i).take n)) by omega]; exact hg _ (by omega)
    have hu5 := ns_u32 (bv := ((l.drop i).take n)) hb (5 + 2 * nB (nsOf ((l.drop i).take n)))
    have h8 : (decide (((k : Int) - (5 + 2 * (j : Int) + 1)).tdiv 9 < vl.getD ((5 + 2 * (j : Int)).toNat + 0) 0) || decide (5 + 2 * (j : Int) + 1 + 9 * vl.getD ((5 + 2 * (j : Int)).toNat + 0) 0 ≠ (k : Int))) = false := h8
    rw [ht9, q1] at h8
    simp only [Bool.or_eq_false_iff, decide_eq_false_iff_not] at h8
    obtain ⟨hS, hS2⟩ := nS_of (R := (nsOf ((l.drop i).take n))) (by omega) hu5.1 (by omega)
    obtain ⟨s, uon, ub, uq, ul, uc⟩ := u
    obtain ⟨d1, d2⟩ : s ≤ nS (nsOf ((l.drop i).take n)) ∧ Grw (slts (nsOf ((l.drop i).take n)) s) ul uon s uc := hu
    have h9 : (s : Int) < vl.getD ((5 + 2 * (j : Int)).toNat + 0) 0 := of_decide_eq_true h9
    rw [q1, hS] at h9
    show (6 + 2 * (nB (nsOf ((l.drop i).take n)) : Int) + 9 * (s : Int) + 2).toNat + 0 < vl.length
    omega
  · rename_i b0 h4 v hv h5 bp h6 w hw h7 h8 u hu h9 bs
    have h4 : (decide ((n : Int) < 28) || decide ((n : Int).tmod 4 ≠ 0) || decide (nm l (((n : Int) - 4).toNat + i) ≠ crc ((l.drop i).take ((n : Int) - 4).toNat))) = false := h4
    rw [Int.tmod_eq_emod_of_nonneg (show (0 : Int) ≤ (n : Int) by omega)] at h4
    simp only [Bool.or_eq_false_iff, decide_eq_false_iff_not] at h4
    have h28 : 28 ≤ n := by omega
    have hm4 : n % 4 = 0 := by omega
    have e4 : ((n : Int) - 4).toNat = n - 4 := by omega
    obtain ⟨k, on, vb, vq, vl, vc⟩ := v
    obtain ⟨e1, e2⟩ : k ≤ (nsOf ((l.drop i).take n)).length ∧ Grw ((nsOf ((l.drop i).take n)).take k) vl on k vc := hv
    rw [hRl] at e1
    have h5 : ¬ 4 * (k : Int) + 4 < (n : Int) := of_decide_eq_false h5
    have hk : k = (n - 4) / 4 := by omega
    have hk4 : 4 * k = n - 4 := by omega
    have hg : ∀ t, t < k → vl.getD t 0 = (nsOf ((l.drop i).take n)).getD t 0 := by
      intro t ht
      rw [← tk_at (l := vl) (n := k) ht, e2.2.1, tk_at ht]
    have hon : on = true := on_of e2.2.2.2.2 (by omega)
    have hvl : k ≤ vl.length := Nat.le_trans e2.2.2.1 e2.2.2.2.1
    have htd : ((k : Int) - 6).tdiv 2 = ((k : Int) - 6) / 2 := Int.tdiv_eq_ediv_of_nonneg (by omega)
    have h6 : ¬ ((k : Int) - 6).tdiv 2 < vl.getD 4 0 := of_decide_eq_false h6
    rw [htd, hg 4 (by omega)] at h6
    have hu4 := ns_u32 (bv := ((l.drop i).take n)) hb 4
    obtain ⟨hB, hB2⟩ := nB_of (R := (nsOf ((l.drop i).take n))) (by rw [hRl]; omega) hu4.1 (by omega)
    obtain ⟨j, won, wb, wq, wl, wc⟩ := w
    obtain ⟨f1, f2, f3, f4⟩ : j ≤ nB (nsOf ((l.drop i).take n)) ∧ Grw (wl.take j) wl won j wc ∧ (wl.take j).map (·.l) = (blks (nsOf ((l.drop i).take n)) j).map lst ∧ ∀ r ∈ wl.take j, Rok r := hw
    have h7 : ¬ (j : Int) < vl.getD 4 0 := of_decide_eq_false h7
    rw [hg 4 (by omega), hB] at h7
    have hj : j = nB (nsOf ((l.drop i).take n)) := by omega
    have ht9 : ((k : Int) - (5 + 2 * (j : Int) + 1)).tdiv 9 = ((k : Int) - (5 + 2 * (j : Int) + 1)) / 9 := Int.tdiv_eq_ediv_of_nonneg (by omega)
    have q1 : vl.getD ((5 + 2 * (j : Int)).toNat + 0) 0 = (nsOf ((l.drop i).take n)).getD (5 + 2 * nB (nsOf ((l.drop i).take n))) 0 := by rw [show (5 + 2 * (j : Int)).toNat + 0 = 5 + 2 * nB (nsOf ((l.drop i).take n)) by omega]; exact hg _ (by omega)
    have hu5 := ns_u32 (bv := ((l.drop i).take n)) hb (5 + 2 * nB (nsOf ((l.drop i).take n)))
    have h8 : (decide (((k : Int) - (5 + 2 * (j : Int) + 1)).tdiv 9 < vl.getD ((5 + 2 * (j : Int)).toNat + 0) 0) || decide (5 + 2 * (j : Int) + 1 + 9 * vl.getD ((5 + 2 * (j : Int)).toNat + 0) 0 ≠ (k : Int))) = false := h8
    rw [ht9, q1] at h8
    simp only [Bool.or_eq_false_iff, decide_eq_false_iff_not] at h8
    obtain ⟨hS, hS2⟩ := nS_of (R := (nsOf ((l.drop i).take n))) (by omega) hu5.1 (by omega)
    obtain ⟨s, uon, ub, uq, ul, uc⟩ := u
    obtain ⟨d1, d2⟩ : s ≤ nS (nsOf ((l.drop i).take n)) ∧ Grw (slts (nsOf ((l.drop i).take n)) s) ul uon s uc := hu
    have h9 : (s : Int) < vl.getD ((5 + 2 * (j : Int)).toNat + 0) 0 := of_decide_eq_true h9
    rw [q1, hS] at h9
    exact inR64 (by show _ ≤ 6 + 2 * (nB (nsOf ((l.drop i).take n)) : Int) + 9 * (s : Int) + 3; omega) (by show 6 + 2 * (nB (nsOf ((l.drop i).take n)) : Int) + 9 * (s : Int) + 3 ≤ _; omega)
  · rename_i b0 h4 v hv h5 bp h6 w hw h7 h8 u hu h9 bs
    have h4 : (decide ((n : Int) < 28) || decide ((n : Int).tmod 4 ≠ 0) || decide (nm l (((n : Int) - 4).toNat + i) ≠ crc ((l.drop i).take ((n : Int) - 4).toNat))) = false := h4
    rw [Int.tmod_eq_emod_of_nonneg (show (0 : Int) ≤ (n : Int) by omega)] at h4
    simp only [Bool.or_eq_false_iff, decide_eq_false_iff_not] at h4
    have h28 : 28 ≤ n := by omega
    have hm4 : n % 4 = 0 := by omega
    have e4 : ((n : Int) - 4).toNat = n - 4 := by omega
    obtain ⟨k, on, vb, vq, vl, vc⟩ := v
    obtain ⟨e1, e2⟩ : k ≤ (nsOf ((l.drop i).take n)).length ∧ Grw ((nsOf ((l.drop i).take n)).take k) vl on k vc := hv
    rw [hRl] at e1
    have h5 : ¬ 4 * (k : Int) + 4 < (n : Int) := of_decide_eq_false h5
    have hk : k = (n - 4) / 4 := by omega
    have hk4 : 4 * k = n - 4 := by omega
    have hg : ∀ t, t < k → vl.getD t 0 = (nsOf ((l.drop i).take n)).getD t 0 := by
      intro t ht
      rw [← tk_at (l := vl) (n := k) ht, e2.2.1, tk_at ht]
    have hon : on = true := on_of e2.2.2.2.2 (by omega)
    have hvl : k ≤ vl.length := Nat.le_trans e2.2.2.1 e2.2.2.2.1
    have htd : ((k : Int) - 6).tdiv 2 = ((k : Int) - 6) / 2 := Int.tdiv_eq_ediv_of_nonneg (by omega)
    have h6 : ¬ ((k : Int) - 6).tdiv 2 < vl.getD 4 0 := of_decide_eq_false h6
    rw [htd, hg 4 (by omega)] at h6
    have hu4 := ns_u32 (bv := ((l.drop i).take n)) hb 4
    obtain ⟨hB, hB2⟩ := nB_of (R := (nsOf ((l.drop i).take n))) (by rw [hRl]; omega) hu4.1 (by omega)
    obtain ⟨j, won, wb, wq, wl, wc⟩ := w
    obtain ⟨f1, f2, f3, f4⟩ : j ≤ nB (nsOf ((l.drop i).take n)) ∧ Grw (wl.take j) wl won j wc ∧ (wl.take j).map (·.l) = (blks (nsOf ((l.drop i).take n)) j).map lst ∧ ∀ r ∈ wl.take j, Rok r := hw
    have h7 : ¬ (j : Int) < vl.getD 4 0 := of_decide_eq_false h7
    rw [hg 4 (by omega), hB] at h7
    have hj : j = nB (nsOf ((l.drop i).take n)) := by omega
    have ht9 : ((k : Int) - (5 + 2 * (j : Int) + 1)).tdiv 9 = ((k : Int) - (5 + 2 * (j : Int) + 1)) / 9 := Int.tdiv_eq_ediv_of_nonneg (by omega)
    have q1 : vl.getD ((5 + 2 * (j : Int)).toNat + 0) 0 = (nsOf ((l.drop i).take n)).getD (5 + 2 * nB (nsOf ((l.drop i).take n))) 0 := by rw [show (5 + 2 * (j : Int)).toNat + 0 = 5 + 2 * nB (nsOf ((l.drop i).take n)) by omega]; exact hg _ (by omega)
    have hu5 := ns_u32 (bv := ((l.drop i).take n)) hb (5 + 2 * nB (nsOf ((l.drop i).take n)))
    have h8 : (decide (((k : Int) - (5 + 2 * (j : Int) + 1)).tdiv 9 < vl.getD ((5 + 2 * (j : Int)).toNat + 0) 0) || decide (5 + 2 * (j : Int) + 1 + 9 * vl.getD ((5 + 2 * (j : Int)).toNat + 0) 0 ≠ (k : Int))) = false := h8
    rw [ht9, q1] at h8
    simp only [Bool.or_eq_false_iff, decide_eq_false_iff_not] at h8
    obtain ⟨hS, hS2⟩ := nS_of (R := (nsOf ((l.drop i).take n))) (by omega) hu5.1 (by omega)
    obtain ⟨s, uon, ub, uq, ul, uc⟩ := u
    obtain ⟨d1, d2⟩ : s ≤ nS (nsOf ((l.drop i).take n)) ∧ Grw (slts (nsOf ((l.drop i).take n)) s) ul uon s uc := hu
    have h9 : (s : Int) < vl.getD ((5 + 2 * (j : Int)).toNat + 0) 0 := of_decide_eq_true h9
    rw [q1, hS] at h9
    exact hon
  · rename_i b0 h4 v hv h5 bp h6 w hw h7 h8 u hu h9 bs
    have h4 : (decide ((n : Int) < 28) || decide ((n : Int).tmod 4 ≠ 0) || decide (nm l (((n : Int) - 4).toNat + i) ≠ crc ((l.drop i).take ((n : Int) - 4).toNat))) = false := h4
    rw [Int.tmod_eq_emod_of_nonneg (show (0 : Int) ≤ (n : Int) by omega)] at h4
    simp only [Bool.or_eq_false_iff, decide_eq_false_iff_not] at h4
    have h28 : 28 ≤ n := by omega
    have hm4 : n % 4 = 0 := by omega
    have e4 : ((n : Int) - 4).toNat = n - 4 := by omega
    obtain ⟨k, on, vb, vq, vl, vc⟩ := v
    obtain ⟨e1, e2⟩ : k ≤ (nsOf ((l.drop i).take n)).length ∧ Grw ((nsOf ((l.drop i).take n)).take k) vl on k vc := hv
    rw [hRl] at e1
    have h5 : ¬ 4 * (k : Int) + 4 < (n : Int) := of_decide_eq_false h5
    have hk : k = (n - 4) / 4 := by omega
    have hk4 : 4 * k = n - 4 := by omega
    have hg : ∀ t, t < k → vl.getD t 0 = (nsOf ((l.drop i).take n)).getD t 0 := by
      intro t ht
      rw [← tk_at (l := vl) (n := k) ht, e2.2.1, tk_at ht]
    have hon : on = true := on_of e2.2.2.2.2 (by omega)
    have hvl : k ≤ vl.length := Nat.le_trans e2.2.2.1 e2.2.2.2.1
    have htd : ((k : Int) - 6).tdiv 2 = ((k : Int) - 6) / 2 := Int.tdiv_eq_ediv_of_nonneg (by omega)
    have h6 : ¬ ((k : Int) - 6).tdiv 2 < vl.getD 4 0 := of_decide_eq_false h6
    rw [htd, hg 4 (by omega)] at h6
    have hu4 := ns_u32 (bv := ((l.drop i).take n)) hb 4
    obtain ⟨hB, hB2⟩ := nB_of (R := (nsOf ((l.drop i).take n))) (by rw [hRl]; omega) hu4.1 (by omega)
    obtain ⟨j, won, wb, wq, wl, wc⟩ := w
    obtain ⟨f1, f2, f3, f4⟩ : j ≤ nB (nsOf ((l.drop i).take n)) ∧ Grw (wl.take j) wl won j wc ∧ (wl.take j).map (·.l) = (blks (nsOf ((l.drop i).take n)) j).map lst ∧ ∀ r ∈ wl.take j, Rok r := hw
    have h7 : ¬ (j : Int) < vl.getD 4 0 := of_decide_eq_false h7
    rw [hg 4 (by omega), hB] at h7
    have hj : j = nB (nsOf ((l.drop i).take n)) := by omega
    have ht9 : ((k : Int) - (5 + 2 * (j : Int) + 1)).tdiv 9 = ((k : Int) - (5 + 2 * (j : Int) + 1)) / 9 := Int.tdiv_eq_ediv_of_nonneg (by omega)
    have q1 : vl.getD ((5 + 2 * (j : Int)).toNat + 0) 0 = (nsOf ((l.drop i).take n)).getD (5 + 2 * nB (nsOf ((l.drop i).take n))) 0 := by rw [show (5 + 2 * (j : Int)).toNat + 0 = 5 + 2 * nB (nsOf ((l.drop i).take n)) by omega]; exact hg _ (by omega)
    have hu5 := ns_u32 (bv := ((l.drop i).take n)) hb (5 + 2 * nB (nsOf ((l.drop i).take n)))
    have h8 : (decide (((k : Int) - (5 + 2 * (j : Int) + 1)).tdiv 9 < vl.getD ((5 + 2 * (j : Int)).toNat + 0) 0) || decide (5 + 2 * (j : Int) + 1 + 9 * vl.getD ((5 + 2 * (j : Int)).toNat + 0) 0 ≠ (k : Int))) = false := h8
    rw [ht9, q1] at h8
    simp only [Bool.or_eq_false_iff, decide_eq_false_iff_not] at h8
    obtain ⟨hS, hS2⟩ := nS_of (R := (nsOf ((l.drop i).take n))) (by omega) hu5.1 (by omega)
    obtain ⟨s, uon, ub, uq, ul, uc⟩ := u
    obtain ⟨d1, d2⟩ : s ≤ nS (nsOf ((l.drop i).take n)) ∧ Grw (slts (nsOf ((l.drop i).take n)) s) ul uon s uc := hu
    have h9 : (s : Int) < vl.getD ((5 + 2 * (j : Int)).toNat + 0) 0 := of_decide_eq_true h9
    rw [q1, hS] at h9
    show 6 + 2 * (nB (nsOf ((l.drop i).take n)) : Int) + 9 * (s : Int) + 3 < (k : Int)
    omega
  · rename_i b0 h4 v hv h5 bp h6 w hw h7 h8 u hu h9 bs
    have h4 : (decide ((n : Int) < 28) || decide ((n : Int).tmod 4 ≠ 0) || decide (nm l (((n : Int) - 4).toNat + i) ≠ crc ((l.drop i).take ((n : Int) - 4).toNat))) = false := h4
    rw [Int.tmod_eq_emod_of_nonneg (show (0 : Int) ≤ (n : Int) by omega)] at h4
    simp only [Bool.or_eq_false_iff, decide_eq_false_iff_not] at h4
    have h28 : 28 ≤ n := by omega
    have hm4 : n % 4 = 0 := by omega
    have e4 : ((n : Int) - 4).toNat = n - 4 := by omega
    obtain ⟨k, on, vb, vq, vl, vc⟩ := v
    obtain ⟨e1, e2⟩ : k ≤ (nsOf ((l.drop i).take n)).length ∧ Grw ((nsOf ((l.drop i).take n)).take k) vl on k vc := hv
    rw [hRl] at e1
    have h5 : ¬ 4 * (k : Int) + 4 < (n : Int) := of_decide_eq_false h5
    have hk : k = (n - 4) / 4 := by omega
    have hk4 : 4 * k = n - 4 := by omega
    have hg : ∀ t, t < k → vl.getD t 0 = (nsOf ((l.drop i).take n)).getD t 0 := by
      intro t ht
      rw [← tk_at (l := vl) (n := k) ht, e2.2.1, tk_at ht]
    have hon : on = true := on_of e2.2.2.2.2 (by omega)
    have hvl : k ≤ vl.length := Nat.le_trans e2.2.2.1 e2.2.2.2.1
    have htd : ((k : Int) - 6).tdiv 2 = ((k : Int) - 6) / 2 := Int.tdiv_eq_ediv_of_nonneg (by omega)
    have h6 : ¬ ((k : Int) - 6).tdiv 2 < vl.getD 4 0 := of_decide_eq_false h6
    rw [htd, hg 4 (by omega)] at h6
    have hu4 := ns_u32 (bv := ((l.drop i).take n)) hb 4
    obtain ⟨hB, hB2⟩ := nB_of (R := (nsOf ((l.drop i).take n))) (by rw [hRl]; omega) hu4.1 (by omega)
    obtain ⟨j, won, wb, wq, wl, wc⟩ := w
    obtain ⟨f1, f2, f3, f4⟩ : j ≤ nB (nsOf ((l.drop i).take n)) ∧ Grw (wl.take j) wl won j wc ∧ (wl.take j).map (·.l) = (blks (nsOf ((l.drop i).take n)) j).map lst ∧ ∀ r ∈ wl.take j, Rok r := hw
    have h7 : ¬ (j : Int) < vl.getD 4 0 := of_decide_eq_false h7
    rw [hg 4 (by omega), hB] at h7
    have hj : j = nB (nsOf ((l.drop i).take n)) := by omega
    have ht9 : ((k : Int) - (5 + 2 * (j : Int) + 1)).tdiv 9 = ((k : Int) - (5 + 2 * (j : Int) + 1)) / 9 := Int.tdiv_eq_ediv_of_nonneg (by omega)
    have q1 : vl.getD ((5 + 2 * (j : Int)).toNat + 0) 0 = (nsOf ((l.drop i).take n)).getD (5 + 2 * nB (nsOf ((l.drop i).take n))) 0 := by rw [show (5 + 2 * (j : Int)).toNat + 0 = 5 + 2 * nB (nsOf ((l.drop i).take n)) by omega]; exact hg _ (by omega)
    have hu5 := ns_u32 (bv := ((l.drop i).take n)) hb (5 + 2 * nB (nsOf ((l.drop i).take n)))
    have h8 : (decide (((k : Int) - (5 + 2 * (j : Int) + 1)).tdiv 9 < vl.getD ((5 + 2 * (j : Int)).toNat + 0) 0) || decide (5 + 2 * (j : Int) + 1 + 9 * vl.getD ((5 + 2 * (j : Int)).toNat + 0) 0 ≠ (k : Int))) = false := h8
    rw [ht9, q1] at h8
    simp only [Bool.or_eq_false_iff, decide_eq_false_iff_not] at h8
    obtain ⟨hS, hS2⟩ := nS_of (R := (nsOf ((l.drop i).take n))) (by omega) hu5.1 (by omega)
    obtain ⟨s, uon, ub, uq, ul, uc⟩ := u
    obtain ⟨d1, d2⟩ : s ≤ nS (nsOf ((l.drop i).take n)) ∧ Grw (slts (nsOf ((l.drop i).take n)) s) ul uon s uc := hu
    have h9 : (s : Int) < vl.getD ((5 + 2 * (j : Int)).toNat + 0) 0 := of_decide_eq_true h9
    rw [q1, hS] at h9
    exact hon
  · rename_i b0 h4 v hv h5 bp h6 w hw h7 h8 u hu h9 bs
    have h4 : (decide ((n : Int) < 28) || decide ((n : Int).tmod 4 ≠ 0) || decide (nm l (((n : Int) - 4).toNat + i) ≠ crc ((l.drop i).take ((n : Int) - 4).toNat))) = false := h4
    rw [Int.tmod_eq_emod_of_nonneg (show (0 : Int) ≤ (n : Int) by omega)] at h4
    simp only [Bool.or_eq_false_iff, decide_eq_false_iff_not] at h4
    have h28 : 28 ≤ n := by omega
    have hm4 : n % 4 = 0 := by omega
    have e4 : ((n : Int) - 4).toNat = n - 4 := by omega
    obtain ⟨k, on, vb, vq, vl, vc⟩ := v
    obtain ⟨e1, e2⟩ : k ≤ (nsOf ((l.drop i).take n)).length ∧ Grw ((nsOf ((l.drop i).take n)).take k) vl on k vc := hv
    rw [hRl] at e1
    have h5 : ¬ 4 * (k : Int) + 4 < (n : Int) := of_decide_eq_false h5
    have hk : k = (n - 4) / 4 := by omega
    have hk4 : 4 * k = n - 4 := by omega
    have hg : ∀ t, t < k → vl.getD t 0 = (nsOf ((l.drop i).take n)).getD t 0 := by
      intro t ht
      rw [← tk_at (l := vl) (n := k) ht, e2.2.1, tk_at ht]
    have hon : on = true := on_of e2.2.2.2.2 (by omega)
    have hvl : k ≤ vl.length := Nat.le_trans e2.2.2.1 e2.2.2.2.1
    have htd : ((k : Int) - 6).tdiv 2 = ((k : Int) - 6) / 2 := Int.tdiv_eq_ediv_of_nonneg (by omega)
    have h6 : ¬ ((k : Int) - 6).tdiv 2 < vl.getD 4 0 := of_decide_eq_false h6
    rw [htd, hg 4 (by omega)] at h6
    have hu4 := ns_u32 (bv := ((l.drop i).take n)) hb 4
    obtain ⟨hB, hB2⟩ := nB_of (R := (nsOf ((l.drop i).take n))) (by rw [hRl]; omega) hu4.1 (by omega)
    obtain ⟨j, won, wb, wq, wl, wc⟩ := w
    obtain ⟨f1, f2, f3, f4⟩ : j ≤ nB (nsOf ((l.drop i).take n)) ∧ Grw (wl.take j) wl won j wc ∧ (wl.take j).map (·.l) = (blks (nsOf ((l.drop i).take n)) j).map lst ∧ ∀ r ∈ wl.take j, Rok r := hw
    have h7 : ¬ (j : Int) < vl.getD 4 0 := of_decide_eq_false h7
    rw [hg 4 (by omega), hB] at h7
    have hj : j = nB (nsOf ((l.drop i).take n)) := by omega
    have ht9 : ((k : Int) - (5 + 2 * (j : Int) + 1)).tdiv 9 = ((k : Int) - (5 + 2 * (j : Int) + 1)) / 9 := Int.tdiv_eq_ediv_of_nonneg (by omega)
    have q1 : vl.getD ((5 + 2 * (j : Int)).toNat + 0) 0 = (nsOf ((l.drop i).take n)).getD (5 + 2 * nB (nsOf ((l.drop i).take n))) 0 := by rw [show (5 + 2 * (j : Int)).toNat + 0 = 5 + 2 * nB (nsOf ((l.drop i).take n)) by omega]; exact hg _ (by omega)
    have hu5 := ns_u32 (bv := ((l.drop i).take n)) hb (5 + 2 * nB (nsOf ((l.drop i).take n)))
    have h8 : (decide (((k : Int) - (5 + 2 * (j : Int) + 1)).tdiv 9 < vl.getD ((5 + 2 * (j : Int)).toNat + 0) 0) || decide (5 + 2 * (j : Int) + 1 + 9 * vl.getD ((5 + 2 * (j : Int)).toNat + 0) 0 ≠ (k : Int))) = false := h8
    rw [ht9, q1] at h8
    simp only [Bool.or_eq_false_iff, decide_eq_false_iff_not] at h8
    obtain ⟨hS, hS2⟩ := nS_of (R := (nsOf ((l.drop i).take n))) (by omega) hu5.1 (by omega)
    obtain ⟨s, uon, ub, uq, ul, uc⟩ := u
    obtain ⟨d1, d2⟩ : s ≤ nS (nsOf ((l.drop i).take n)) ∧ Grw (slts (nsOf ((l.drop i).take n)) s) ul uon s uc := hu
    have h9 : (s : Int) < vl.getD ((5 + 2 * (j : Int)).toNat + 0) 0 := of_decide_eq_true h9
    rw [q1, hS] at h9
    show (6 + 2 * (nB (nsOf ((l.drop i).take n)) : Int) + 9 * (s : Int) + 3).toNat + 0 < vl.length
    omega
  · rename_i b0 h4 v hv h5 bp h6 w hw h7 h8 u hu h9 bs
    have h4 : (decide ((n : Int) < 28) || decide ((n : Int).tmod 4 ≠ 0) || decide (nm l (((n : Int) - 4).toNat + i) ≠ crc ((l.drop i).take ((n : Int) - 4).toNat))) = false := h4
    rw [Int.tmod_eq_emod_of_nonneg (show (0 : Int) ≤ (n : Int) by omega)] at h4
    simp only [Bool.or_eq_false_iff, decide_eq_false_iff_not] at h4
    have h28 : 28 ≤ n := by omega
    have hm4 : n % 4 = 0 := by omega
    have e4 : ((n : Int) - 4).toNat = n - 4 := by omega
    obtain ⟨k, on, vb, vq, vl, vc⟩ := v
    obtain ⟨e1, e2⟩ : k ≤ (nsOf ((l.drop i).take n)).length ∧ Grw ((nsOf ((l.drop i).take n)).take k) vl on k vc := hv
    rw [hRl] at e1
    have h5 : ¬ 4 * (k : Int) + 4 < (n : Int) := of_decide_eq_false h5
    have hk : k = (n - 4) / 4 := by omega
    have hk4 : 4 * k = n - 4 := by omega
    have hg : ∀ t, t < k → vl.getD t 0 = (nsOf ((l.drop i).take n)).getD t 0 := by
      intro t ht
      rw [← tk_at (l := vl) (n := k) ht, e2.2.1, tk_at ht]
    have hon : on = true := on_of e2.2.2.2.2 (by omega)
    have hvl : k ≤ vl.length := Nat.le_trans e2.2.2.1 e2.2.2.2.1
    have htd : ((k : Int) - 6).tdiv 2 = ((k : Int) - 6) / 2 := Int.tdiv_eq_ediv_of_nonneg (by omega)
    have h6 : ¬ ((k : Int) - 6).tdiv 2 < vl.getD 4 0 := of_decide_eq_false h6
    rw [htd, hg 4 (by omega)] at h6
    have hu4 := ns_u32 (bv := ((l.drop i).take n)) hb 4
    obtain ⟨hB, hB2⟩ := nB_of (R := (nsOf ((l.drop i).take n))) (by rw [hRl]; omega) hu4.1 (by omega)
    obtain ⟨j, won, wb, wq, wl, wc⟩ := w
    obtain ⟨f1, f2, f3, f4⟩ : j ≤ nB (nsOf ((l.drop i).take n)) ∧ Grw (wl.take j) wl won j wc ∧ (wl.take j).map (·.l) = (blks (nsOf ((l.drop i).take n)) j).map lst ∧ ∀ r ∈ wl.take j, Rok r := hw
    have h7 : ¬ (j : Int) < vl.getD 4 0 := of_decide_eq_false h7
    rw [hg 4 (by omega), hB] at h7
    have hj : j = nB (nsOf ((l.drop i).take n)) := by omega
    have ht9 : ((k : Int) - (5 + 2 * (j : Int) + 1)).tdiv 9 = ((k : Int) - (5 + 2 * (j : Int) + 1)) / 9 := Int.tdiv_eq_ediv_of_nonneg (by omega)
    have q1 : vl.getD ((5 + 2 * (j : Int)).toNat + 0) 0 = (nsOf ((l.drop i).take n)).getD (5 + 2 * nB (nsOf ((l.drop i).take n))) 0 := by rw [show (5 + 2 * (j : Int)).toNat + 0 = 5 + 2 * nB (nsOf ((l.drop i).take n)) by omega]; exact hg _ (by omega)
    have hu5 := ns_u32 (bv := ((l.drop i).take n)) hb (5 + 2 * nB (nsOf ((l.drop i).take n)))
    have h8 : (decide (((k : Int) - (5 + 2 * (j : Int) + 1)).tdiv 9 < vl.getD ((5 + 2 * (j : Int)).toNat + 0) 0) || decide (5 + 2 * (j : Int) + 1 + 9 * vl.getD ((5 + 2 * (j : Int)).toNat + 0) 0 ≠ (k : Int))) = false := h8
    rw [ht9, q1] at h8
    simp only [Bool.or_eq_false_iff, decide_eq_false_iff_not] at h8
    obtain ⟨hS, hS2⟩ := nS_of (R := (nsOf ((l.drop i).take n))) (by omega) hu5.1 (by omega)
    obtain ⟨s, uon, ub, uq, ul, uc⟩ := u
    obtain ⟨d1, d2⟩ : s ≤ nS (nsOf ((l.drop i).take n)) ∧ Grw (slts (nsOf ((l.drop i).take n)) s) ul uon s uc := hu
    have h9 : (s : Int) < vl.getD ((5 + 2 * (j : Int)).toNat + 0) 0 := of_decide_eq_true h9
    rw [q1, hS] at h9
    exact inR64 (by show _ ≤ 6 + 2 * (nB (nsOf ((l.drop i).take n)) : Int) + 9 * (s : Int) + 4; omega) (by show 6 + 2 * (nB (nsOf ((l.drop i).take n)) : Int) + 9 * (s : Int) + 4 ≤ _; omega)
  · rename_i b0 h4 v hv h5 bp h6 w hw h7 h8 u hu h9 bs
    have h4 : (decide ((n : Int) < 28) || decide ((n : Int).tmod 4 ≠ 0) || decide (nm l (((n : Int) - 4).toNat + i) ≠ crc ((l.drop i).take ((n : Int) - 4).toNat))) = false := h4
    rw [Int.tmod_eq_emod_of_nonneg (show (0 : Int) ≤ (n : Int) by omega)] at h4
    simp only [Bool.or_eq_false_iff, decide_eq_false_iff_not] at h4
    have h28 : 28 ≤ n := by omega
    have hm4 : n % 4 = 0 := by omega
    have e4 : ((n : Int) - 4).toNat = n - 4 := by omega
    obtain ⟨k, on, vb, vq, vl, vc⟩ := v
    obtain ⟨e1, e2⟩ : k ≤ (nsOf ((l.drop i).take n)).length ∧ Grw ((nsOf ((l.drop i).take n)).take k) vl on k vc := hv
    rw [hRl] at e1
    have h5 : ¬ 4 * (k : Int) + 4 < (n : Int) := of_decide_eq_false h5
    have hk : k = (n - 4) / 4 := by omega
    have hk4 : 4 * k = n - 4 := by omega
    have hg : ∀ t, t < k → vl.getD t 0 = (nsOf ((l.drop i).take n)).getD t 0 := by
      intro t ht
      rw [← tk_at (l := vl) (n := k) ht, e2.2.1, tk_at ht]
    have hon : on = true := on_of e2.2.2.2.2 (by omega)
    have hvl : k ≤ vl.length := Nat.le_trans e2.2.2.1 e2.2.2.2.1
    have htd : ((k : Int) - 6).tdiv 2 = ((k : Int) - 6) / 2 := Int.tdiv_eq_ediv_of_nonneg (by omega)
    have h6 : ¬ ((k : Int) - 6).tdiv 2 < vl.getD 4 0 := of_decide_eq_false h6
    rw [htd, hg 4 (by omega)] at h6
    have hu4 := ns_u32 (bv := ((l.drop i).take n)) hb 4
    obtain ⟨hB, hB2⟩ := nB_of (R := (nsOf ((l.drop i).take n))) (by rw [hRl]; omega) hu4.1 (by omega)
    obtain ⟨j, won, wb, wq, wl, wc⟩ := w
    obtain ⟨f1, f2, f3, f4⟩ : j ≤ nB (nsOf ((l.drop i).take n)) ∧ Grw (wl.take j) wl won j wc ∧ (wl.take j).map (·.l) = (blks (nsOf ((l.drop i).take n)) j).map lst ∧ ∀ r ∈ wl.take j, Rok r := hw
    have h7 : ¬ (j : Int) < vl.getD 4 0 := of_decide_eq_false h7
    rw [hg 4 (by omega), hB] at h7
    have hj : j = nB (nsOf ((l.drop i).take n)) := by omega
    have ht9 : ((k : Int) - (5 + 2 * (j : Int) + 1)).tdiv 9 = ((k : Int) - (5 + 2 * (j : Int) + 1)) / 9 := Int.tdiv_eq_ediv_of_nonneg (by omega)
    have q1 : vl.getD ((5 + 2 * (j : Int)).toNat + 0) 0 = (nsOf ((l.drop i).take n)).getD (5 + 2 * nB (nsOf ((l.drop i).take n))) 0 := by rw [show (5 + 2 * (j : Int)).toNat + 0 = 5 + 2 * nB (nsOf ((l.drop i).take n)) by omega]; exact hg _ (by omega)
    have hu5 := ns_u32 (bv := ((l.drop i).take n)) hb (5 + 2 * nB (nsOf ((l.drop i).take n)))
    have h8 : (decide (((k : Int) - (5 + 2 * (j : Int) + 1)).tdiv 9 < vl.getD ((5 + 2 * (j : Int)).toNat + 0) 0) || decide (5 + 2 * (j : Int) + 1 + 9 * vl.getD ((5 + 2 * (j : Int)).toNat + 0) 0 ≠ (k : Int))) = false := h8
    rw [ht9, q1] at h8
    simp only [Bool.or_eq_false_iff, decide_eq_false_iff_not] at h8
    obtain ⟨hS, hS2⟩ := nS_of (R := (nsOf ((l.drop i).take n))) (by omega) hu5.1 (by omega)
    obtain ⟨s, uon, ub, uq, ul, uc⟩ := u
    obtain ⟨d1, d2⟩ : s ≤ nS (nsOf ((l.drop i).take n)) ∧ Grw (slts (nsOf ((l.drop i).take n)) s) ul uon s uc := hu
    have h9 : (s : Int) < vl.getD ((5 + 2 * (j : Int)).toNat + 0) 0 := of_decide_eq_true h9
    rw [q1, hS] at h9
    exact hon
  · rename_i b0 h4 v hv h5 bp h6 w hw h7 h8 u hu h9 bs
    have h4 : (decide ((n : Int) < 28) || decide ((n : Int).tmod 4 ≠ 0) || decide (nm l (((n : Int) - 4).toNat + i) ≠ crc ((l.drop i).take ((n : Int) - 4).toNat))) = false := h4
    rw [Int.tmod_eq_emod_of_nonneg (show (0 : Int) ≤ (n : Int) by omega)] at h4
    simp only [Bool.or_eq_false_iff, decide_eq_false_iff_not] at h4
    have h28 : 28 ≤ n := by omega
    have hm4 : n % 4 = 0 := by omega
    have e4 : ((n : Int) - 4).toNat = n - 4 := by omega
    obtain ⟨k, on, vb, vq, vl, vc⟩ := v
    obtain ⟨e1, e2⟩ : k ≤ (nsOf ((l.drop i).take n)).length ∧ Grw ((nsOf ((l.drop i).take n)).take k) vl on k vc := hv
    rw [hRl] at e1
    have h5 : ¬ 4 * (k : Int) + 4 < (n : Int) := of_decide_eq_false h5
    have hk : k = (n - 4) / 4 := by omega
    have hk4 : 4 * k = n - 4 := by omega
    have hg : ∀ t, t < k → vl.getD t 0 = (nsOf ((l.drop i).take n)).getD t 0 := by
      intro t ht
      rw [← tk_at (l := vl) (n := k) ht, e2.2.1, tk_at ht]
    have hon : on = true := on_of e2.2.2.2.2 (by omega)
    have hvl : k ≤ vl.length := Nat.le_trans e2.2.2.1 e2.2.2.2.1
    have htd : ((k : Int) - 6).tdiv 2 = ((k : Int) - 6) / 2 := Int.tdiv_eq_ediv_of_nonneg (by omega)
    have h6 : ¬ ((k : Int) - 6).tdiv 2 < vl.getD 4 0 := of_decide_eq_false h6
    rw [htd, hg 4 (by omega)] at h6
    have hu4 := ns_u32 (bv := ((l.drop i).take n)) hb 4
    obtain ⟨hB, hB2⟩ := nB_of (R := (nsOf ((l.drop i).take n))) (by rw [hRl]; omega) hu4.1 (by omega)
    obtain ⟨j, won, wb, wq, wl, wc⟩ := w
    obtain ⟨f1, f2, f3, f4⟩ : j ≤ nB (nsOf ((l.drop i).take n)) ∧ Grw (wl.take j) wl won j wc ∧ (wl.take j).map (·.l) = (blks (nsOf ((l.drop i).take n)) j).map lst ∧ ∀ r ∈ wl.take j, Rok r := hw
    have h7 : ¬ (j : Int) < vl.getD 4 0 := of_decide_eq_false h7
    rw [hg 4 (by omega), hB] at h7
    have hj : j = nB (nsOf ((l.drop i).take n)) := by omega
    have ht9 : ((k : Int) - (5 + 2 * (j : Int) + 1)).tdiv 9 = ((k : Int) - (5 + 2 * (j : Int) + 1)) / 9 := Int.tdiv_eq_ediv_of_nonneg (by omega)
    have q1 : vl.getD ((5 + 2 * (j : Int)).toNat + 0) 0 = (nsOf ((l.drop i).take n)).getD (5 + 2 * nB (nsOf ((l.drop i).take n))) 0 := by rw [show (5 + 2 * (j : Int)).toNat + 0 = 5 + 2 * nB (nsOf ((l.drop i).take n)) by omega]; exact hg _ (by omega)
    have hu5 := ns_u32 (bv := ((l.drop i).take n)) hb (5 + 2 * nB (nsOf ((l.drop i).take n)))
    have h8 : (decide (((k : Int) - (5 + 2 * (j : Int) + 1)).tdiv 9 < vl.getD ((5 + 2 * (j : Int)).toNat + 0) 0) || decide (5 + 2 * (j : Int) + 1 + 9 * vl.getD ((5 + 2 * (j : Int)).toNat + 0) 0 ≠ (k : Int))) = false := h8
    rw [ht9, q1] at h8
    simp only [Bool.or_eq_false_iff, decide_eq_false_iff_not] at h8
    obtain ⟨hS, hS2⟩ := nS_of (R := (nsOf ((l.drop i).take n))) (by omega) hu5.1 (by omega)
    obtain ⟨s, uon, ub, uq, ul, uc⟩ := u
    obtain ⟨d1, d2⟩ : s ≤ nS (nsOf ((l.drop i).take n)) ∧ Grw (slts (nsOf ((l.drop i).take n)) s) ul uon s uc := hu
    have h9 : (s : Int) < vl.getD ((5 + 2 * (j : Int)).toNat + 0) 0 := of_decide_eq_true h9
    rw [q1, hS] at h9
    show 6 + 2 * (nB (nsOf ((l.drop i).take n)) : Int) + 9 * (s : Int) + 4 < (k : Int)
    omega
  · rename_i b0 h4 v hv h5 bp h6 w hw h7 h8 u hu h9 bs
    have h4 : (decide ((n : Int) < 28) || decide ((n : Int).tmod 4 ≠ 0) || decide (nm l (((n : Int) - 4).toNat + i) ≠ crc ((l.drop i).take ((n : Int) - 4).toNat))) = false := h4
    rw [Int.tmod_eq_emod_of_nonneg (show (0 : Int) ≤ (n : Int) by omega)] at h4
    simp only [Bool.or_eq_false_iff, decide_eq_false_iff_not] at h4
    have h28 : 28 ≤ n := by omega
    have hm4 : n % 4 = 0 := by omega
    have e4 : ((n : Int) - 4).toNat = n - 4 := by omega
    obtain ⟨k, on, vb, vq, vl, vc⟩ := v
    obtain ⟨e1, e2⟩ : k ≤ (nsOf ((l.drop i).take n)).length ∧ Grw ((nsOf ((l.drop i).take n)).take k) vl on k vc := hv
    rw [hRl] at e1
    have h5 : ¬ 4 * (k : Int) + 4 < (n : Int) := of_decide_eq_false h5
    have hk : k = (n - 4) / 4 := by omega
    have hk4 : 4 * k = n - 4 := by omega
    have hg : ∀ t, t < k → vl.getD t 0 = (nsOf ((l.drop i).take n)).getD t 0 := by
      intro t ht
      rw [← tk_at (l := vl) (n := k) ht, e2.2.1, tk_at ht]
    have hon : on = true := on_of e2.2.2.2.2 (by omega)
    have hvl : k ≤ vl.length := Nat.le_trans e2.2.2.1 e2.2.2.2.1
    have htd : ((k : Int) - 6).tdiv 2 = ((k : Int) - 6) / 2 := Int.tdiv_eq_ediv_of_nonneg (by omega)
    have h6 : ¬ ((k : Int) - 6).tdiv 2 < vl.getD 4 0 := of_decide_eq_false h6
    rw [htd, hg 4 (by omega)] at h6
    have hu4 := ns_u32 (bv := ((l.drop i).take n)) hb 4
    obtain ⟨hB, hB2⟩ := nB_of (R := (nsOf ((l.drop i).take n))) (by rw [hRl]; omega) hu4.1 (by omega)
    obtain ⟨j, won, wb, wq, wl, wc⟩ := w
    obtain ⟨f1, f2, f3, f4⟩ : j ≤ nB (nsOf ((l.drop i).take n)) ∧ Grw (wl.take j) wl won j wc ∧ (wl.take j).map (·.l) = (blks (nsOf ((l.drop i).take n)) j).map lst ∧ ∀ r ∈ wl.take j, Rok r := hw
    have h7 : ¬ (j : Int) < vl.getD 4 0 := of_decide_eq_false h7
    rw [hg 4 (by omega), hB] at h7
    have hj : j = nB (nsOf ((l.drop i).take n)) := by omega
    have ht9 : ((k : Int) - (5 + 2 * (j : Int) + 1)).tdiv 9 = ((k : Int) - (5 + 2 * (j : Int) + 1)) / 9 := Int.tdiv_eq_ediv_of_nonneg (by omega)
    have q1 : vl.getD ((5 + 2 * (j : Int)).toNat + 0) 0 = (nsOf ((l.drop i).take n)).getD (5 + 2 * nB (nsOf ((l.drop i).take n))) 0 := by rw [show (5 + 2 * (j : Int)).toNat + 0 = 5 + 2 * nB (nsOf ((l.drop i).take n)) by omega]; exact hg _ (by omega)
    have hu5 := ns_u32 (bv := ((l.drop i).take n)) hb (5 + 2 * nB (nsOf ((l.drop i).take n)))
    have h8 : (decide (((k : Int) - (5 + 2 * (j : Int) + 1)).tdiv 9 < vl.getD ((5 + 2 * (j : Int)).toNat + 0) 0) || decide (5 + 2 * (j : Int) + 1 + 9 * vl.getD ((5 + 2 * (j : Int)).toNat + 0) 0 ≠ (k : Int))) = false := h8
    rw [ht9, q1] at h8
    simp only [Bool.or_eq_false_iff, decide_eq_false_iff_not] at h8
    obtain ⟨hS, hS2⟩ := nS_of (R := (nsOf ((l.drop i).take n))) (by omega) hu5.1 (by omega)
    obtain ⟨s, uon, ub, uq, ul, uc⟩ := u
    obtain ⟨d1, d2⟩ : s ≤ nS (nsOf ((l.drop i).take n)) ∧ Grw (slts (nsOf ((l.drop i).take n)) s) ul uon s uc := hu
    have h9 : (s : Int) < vl.getD ((5 + 2 * (j : Int)).toNat + 0) 0 := of_decide_eq_true h9
    rw [q1, hS] at h9
    exact hon
  · rename_i b0 h4 v hv h5 bp h6 w hw h7 h8 u hu h9 bs
    have h4 : (decide ((n : Int) < 28) || decide ((n : Int).tmod 4 ≠ 0) || decide (nm l (((n : Int) - 4).toNat + i) ≠ crc ((l.drop i).take ((n : Int) - 4).toNat))) = false := h4
    rw [Int.tmod_eq_emod_of_nonneg (show (0 : Int) ≤ (n : Int) by omega)] at h4
    simp only [Bool.or_eq_false_iff, decide_eq_false_iff_not] at h4
    have h28 : 28 ≤ n := by omega
    have hm4 : n % 4 = 0 := by omega
    have e4 : ((n : Int) - 4).toNat = n - 4 := by omega
    obtain ⟨k, on, vb, vq, vl, vc⟩ := v
    obtain ⟨e1, e2⟩ : k ≤ (nsOf ((l.drop i).take n)).length ∧ Grw ((nsOf ((l.drop i).take n)).take k) vl on k vc := hv
    rw [hRl] at e1
    have h5 : ¬ 4 * (k : Int) + 4 < (n : Int) := of_decide_eq_false h5
    have hk : k = (n - 4) / 4 := by omega
    have hk4 : 4 * k = n - 4 := by omega
    have hg : ∀ t, t < k → vl.getD t 0 = (nsOf ((l.drop i).take n)).getD t 0 := by
      intro t ht
      rw [← tk_at (l := vl) (n := k) ht, e2.2.1, tk_at ht]
    have hon : on = true := on_of e2.2.2.2.2 (by omega)
    have hvl : k ≤ vl.length := Nat.le_trans e2.2.2.1 e2.2.2.2.1
    have htd : ((k : Int) - 6).tdiv 2 = ((k : Int) - 6) / 2 := Int.tdiv_eq_ediv_of_nonneg (by omega)
    have h6 : ¬ ((k : Int) - 6).tdiv 2 < vl.getD 4 0 := of_decide_eq_false h6
    rw [htd, hg 4 (by omega)] at h6
    have hu4 := ns_u32 (bv := ((l.drop i).take n)) hb 4
    obtain ⟨hB, hB2⟩ := nB_of (R := (nsOf ((l.drop i).take n))) (by rw [hRl]; omega) hu4.1 (by omega)
    obtain ⟨j, won, wb, wq, wl, wc⟩ := w
    obtain ⟨f1, f2, f3, f4⟩ : j ≤ nB (nsOf ((l.drop i).take n)) ∧ Grw (wl.take j) wl won j wc ∧ (wl.take j).map (·.l) = (blks (nsOf ((l.drop i).take n)) j).map lst ∧ ∀ r ∈ wl.take j, Rok r := hw
    have h7 : ¬ (j : Int) < vl.getD 4 0 := of_decide_eq_false h7
    rw [hg 4 (by omega), hB] at h7
    have hj : j = nB (nsOf ((l.drop i).take n)) := by omega
    have ht9 : ((k : Int) - (5 + 2 * (j : Int) + 1)).tdiv 9 = ((k : Int) - (5 + 2 * (j : Int) + 1)) / 9 := Int.tdiv_eq_ediv_of_nonneg (by omega)
    have q1 : vl.getD ((5 + 2 * (j : Int)).toNat + 0) 0 = (nsOf ((l.drop i).take n)).getD (5 + 2 * nB (nsOf ((l.drop i).take n))) 0 := by rw [show (5 + 2 * (j : Int)).toNat + 0 = 5 + 2 * nB (nsOf ((l.drop i).take n)) by omega]; exact hg _ (by omega)
    have hu5 := ns_u32 (bv := ((l.drop i).take n)) hb (5 + 2 * nB (nsOf ((l.drop i).take n)))
    have h8 : (decide (((k : Int) - (5 + 2 * (j : Int) + 1)).tdiv 9 < vl.getD ((5 + 2 * (j : Int)).toNat + 0) 0) || decide (5 + 2 * (j : Int) + 1 + 9 * vl.getD ((5 + 2 * (j : Int)).toNat + 0) 0 ≠ (k : Int))) = false := h8
    rw [ht9, q1] at h8
    simp only [Bool.or_eq_false_iff, decide_eq_false_iff_not] at h8
    obtain ⟨hS, hS2⟩ := nS_of (R := (nsOf ((l.drop i).take n))) (by omega) hu5.1 (by omega)
    obtain ⟨s, uon, ub, uq, ul, uc⟩ := u
    obtain ⟨d1, d2⟩ : s ≤ nS (nsOf ((l.drop i).take n)) ∧ Grw (slts (nsOf ((l.drop i).take n)) s) ul uon s uc := hu
    have h9 : (s : Int) < vl.getD ((5 + 2 * (j : Int)).toNat + 0) 0 := of_decide_eq_true h9
    rw [q1, hS] at h9
    show (6 + 2 * (nB (nsOf ((l.drop i).take n)) : Int) + 9 * (s : Int) + 4).toNat + 0 < vl.length
    omega
  · rename_i b0 h4 v hv h5 bp h6 w hw h7 h8 u hu h9 bs
    have h4 : (decide ((n : Int) < 28) || decide ((n : Int).tmod 4 ≠ 0) || decide (nm l (((n : Int) - 4).toNat + i) ≠ crc ((l.drop i).take ((n : Int) - 4).toNat))) = false := h4
    rw [Int.tmod_eq_emod_of_nonneg (show (0 : Int) ≤ (n : Int) by omega)] at h4
    simp only [Bool.or_eq_false_iff, decide_eq_false_iff_not] at h4
    have h28 : 28 ≤ n := by omega
    have hm4 : n % 4 = 0 := by omega
    have e4 : ((n : Int) - 4).toNat = n - 4 := by omega
    obtain ⟨k, on, vb, vq, vl, vc⟩ := v
    obtain ⟨e1, e2⟩ : k ≤ (nsOf ((l.drop i).take n)).length ∧ Grw ((nsOf ((l.drop i).take n)).take k) vl on k vc := hv
    rw [hRl] at e1
    have h5 : ¬ 4 * (k : Int) + 4 < (n : Int) := of_decide_eq_false h5
    have hk : k = (n - 4) / 4 := by omega
    have hk4 : 4 * k = n - 4 := by omega
    have hg : ∀ t, t < k → vl.getD t 0 = (nsOf ((l.drop i).take n)).getD t 0 := by
      intro t ht
      rw [← tk_at (l := vl) (n := k) ht, e2.2.1, tk_at ht]
    have hon : on = true := on_of e2.2.2.2.2 (by omega)
    have hvl : k ≤ vl.length := Nat.le_trans e2.2.2.1 e2.2.2.2.1
    have htd : ((k : Int) - 6).tdiv 2 = ((k : Int) - 6) / 2 := Int.tdiv_eq_ediv_of_nonneg (by omega)
    have h6 : ¬ ((k : Int) - 6).tdiv 2 < vl.getD 4 0 := of_decide_eq_false h6
    rw [htd, hg 4 (by omega)] at h6
    have hu4 := ns_u32 (bv := ((l.drop i).take n)) hb 4
    obtain ⟨hB, hB2⟩ := nB_of (R := (nsOf ((l.drop i).take n))) (by rw [hRl]; omega) hu4.1 (by omega)
    obtain ⟨j, won, wb, wq, wl, wc⟩ := w
    obtain ⟨f1, f2, f3, f4⟩ : j ≤ nB (nsOf ((l.drop i).take n)) ∧ Grw (wl.take j) wl won j wc ∧ (wl.take j).map (·.l) = (blks (nsOf ((l.drop i).take n)) j).map lst ∧ ∀ r ∈ wl.take j, Rok r := hw
    have h7 : ¬ (j : Int) < vl.getD 4 0 := of_decide_eq_false h7
    rw [hg 4 (by omega), hB] at h7
    have hj : j = nB (nsOf ((l.drop i).take n)) := by omega
    have ht9 : ((k : Int) - (5 + 2 * (j : Int) + 1)).tdiv 9 = ((k : Int) - (5 + 2 * (j : Int) + 1)) / 9 := Int.tdiv_eq_ediv_of_nonneg (by omega)
    have q1 : vl.getD ((5 + 2 * (j : Int)).toNat + 0) 0 = (nsOf ((l.drop i).take n)).getD (5 + 2 * nB (nsOf ((l.drop i).take n))) 0 := by rw [show (5 + 2 * (j : Int)).toNat + 0 = 5 + 2 * nB (nsOf ((l.drop i).take n)) by omega]; exact hg _ (by omega)
    have hu5 := ns_u32 (bv := ((l.drop i).take n)) hb (5 + 2 * nB (nsOf ((l.drop i).take n)))
    have h8 : (decide (((k : Int) - (5 + 2 * (j : Int) + 1)).tdiv 9 < vl.getD ((5 + 2 * (j : Int)).toNat + 0) 0) || decide (5 + 2 * (j : Int) + 1 + 9 * vl.getD ((5 + 2 * (j : Int)).toNat + 0) 0 ≠ (k : Int))) = false := h8
    rw [ht9, q1] at h8
    simp only [Bool.or_eq_false_iff, decide_eq_false_iff_not] at h8
    obtain ⟨hS, hS2⟩ := nS_of (R := (nsOf ((l.drop i).take n))) (by omega) hu5.1 (by omega)
    obtain ⟨s, uon, ub, uq, ul, uc⟩ := u
    obtain ⟨d1, d2⟩ : s ≤ nS (nsOf ((l.drop i).take n)) ∧ Grw (slts (nsOf ((l.drop i).take n)) s) ul uon s uc := hu
    have h9 : (s : Int) < vl.getD ((5 + 2 * (j : Int)).toNat + 0) 0 := of_decide_eq_true h9
    rw [q1, hS] at h9
    exact inR64 (by show _ ≤ 6 + 2 * (nB (nsOf ((l.drop i).take n)) : Int) + 9 * (s : Int) + 5; omega) (by show 6 + 2 * (nB (nsOf ((l.drop i).take n)) : Int) + 9 * (s : Int) + 5 ≤ _; omega)
  · rename_i b0 h4 v hv h5 bp h6 w hw h7 h8 u hu h9 bs
    have h4 : (decide ((n : Int) < 28) || decide ((n : Int).tmod 4 ≠ 0) || decide (nm l (((n : Int) - 4).toNat + i) ≠ crc ((l.drop i).take ((n : Int) - 4).toNat))) = false := h4
    rw [Int.tmod_eq_emod_of_nonneg (show (0 : Int) ≤ (n : Int) by omega)] at h4
    simp only [Bool.or_eq_false_iff, decide_eq_false_iff_not] at h4
    have h28 : 28 ≤ n := by omega
    have hm4 : n % 4 = 0 := by omega
    have e4 : ((n : Int) - 4).toNat = n - 4 := by omega
    obtain ⟨k, on, vb, vq, vl, vc⟩ := v
    obtain ⟨e1, e2⟩ : k ≤ (nsOf ((l.drop i).take n)).length ∧ Grw ((nsOf ((l.drop i).take n)).take k) vl on k vc := hv
    rw [hRl] at e1
    have h5 : ¬ 4 * (k : Int) + 4 < (n : Int) := of_decide_eq_false h5
    have hk : k = (n - 4) / 4 := by omega
    have hk4 : 4 * k = n - 4 := by omega
    have hg : ∀ t, t < k → vl.getD t 0 = (nsOf ((l.drop i).take n)).getD t 0 := by
      intro t ht
      rw [← tk_at (l := vl) (n := k) ht, e2.2.1, tk_at ht]
    have hon : on = true := on_of e2.2.2.2.2 (by omega)
    have hvl : k ≤ vl.length := Nat.le_trans e2.2.2.1 e2.2.2.2.1
    have htd : ((k : Int) - 6).tdiv 2 = ((k : Int) - 6) / 2 := Int.tdiv_eq_ediv_of_nonneg (by omega)
    have h6 : ¬ ((k : Int) - 6).tdiv 2 < vl.getD 4 0 := of_decide_eq_false h6
    rw [htd, hg 4 (by omega)] at h6
    have hu4 := ns_u32 (bv := ((l.drop i).take n)) hb 4
    obtain ⟨hB, hB2⟩ := nB_of (R := (nsOf ((l.drop i).take n))) (by rw [hRl]; omega) hu4.1 (by omega)
    obtain ⟨j, won, wb, wq, wl, wc⟩ := w
    obtain ⟨f1, f2, f3, f4⟩ : j ≤ nB (nsOf ((l.drop i).take n)) ∧ Grw (wl.take j) wl won j wc ∧ (wl.take j).map (·.l) = (blks (nsOf ((l.drop i).take n)) j).map lst ∧ ∀ r ∈ wl.take j, Rok r := hw
    have h7 : ¬ (j : Int) < vl.getD 4 0 := of_decide_eq_false h7
    rw [hg 4 (by omega), hB] at h7
    have hj : j = nB (nsOf ((l.drop i).take n)) := by omega
    have ht9 : ((k : Int) - (5 + 2 * (j : Int) + 1)).tdiv 9 = ((k : Int) - (5 + 2 * (j : Int) + 1)) / 9 := Int.tdiv_eq_ediv_of_nonneg (by omega)
    have q1 : vl.getD ((5 + 2 * (j : Int)).toNat + 0) 0 = (nsOf ((l.drop i).take n)).getD (5 + 2 * nB (nsOf ((l.drop i).take n))) 0 := by rw [show (5 + 2 * (j : Int)).toNat + 0 = 5 + 2 * nB (nsOf ((l.drop i).take n)) by omega]; exact hg _ (by omega)
    have hu5 := ns_u32 (bv := ((l.drop i).take n)) hb (5 + 2 * nB (nsOf ((l.drop i).take n)))
    have h8 : (decide (((k : Int) - (5 + 2 * (j : Int) + 1)).tdiv 9 < vl.getD ((5 + 2 * (j : Int)).toNat + 0) 0) || decide (5 + 2 * (j : Int) + 1 + 9 * vl.getD ((5 + 2 * (j : Int)).toNat + 0) 0 ≠ (k : Int))) = false := h8
    rw [ht9, q1] at h8
    simp only [Bool.or_eq_false_iff, decide_eq_false_iff_not] at h8
    obtain ⟨hS, hS2⟩ := nS_of (R := (nsOf ((l.drop i).take n))) (by omega) hu5.1 (by omega)
    obtain ⟨s, uon, ub, uq, ul, uc⟩ := u
    obtain ⟨d1, d2⟩ : s ≤ nS (nsOf ((l.drop i).take n)) ∧ Grw (slts (nsOf ((l.drop i).take n)) s) ul uon s uc := hu
    have h9 : (s : Int) < vl.getD ((5 + 2 * (j : Int)).toNat + 0) 0 := of_decide_eq_true h9
    rw [q1, hS] at h9
    exact hon
  · rename_i b0 h4 v hv h5 bp h6 w hw h7 h8 u hu h9 bs
    have h4 : (decide ((n : Int) < 28) || decide ((n : Int).tmod 4 ≠ 0) || decide (nm l (((n : Int) - 4).toNat + i) ≠ crc ((l.drop i).take ((n : Int) - 4).toNat))) = false := h4
    rw [Int.tmod_eq_emod_of_nonneg (show (0 : Int) ≤ (n : Int) by omega)] at h4
    simp only [Bool.or_eq_false_iff, decide_eq_false_iff_not] at h4
    have h28 : 28 ≤ n := by omega
    have hm4 : n % 4 = 0 := by omega
    have e4 : ((n : Int) - 4).toNat = n - 4 := by omega
    obtain ⟨k, on, vb, vq, vl, vc⟩ := v
    obtain ⟨e1, e2⟩ : k ≤ (nsOf ((l.drop i).take n)).length ∧ Grw ((nsOf ((l.drop i).take n)).take k) vl on k vc := hv
    rw [hRl] at e1
    have h5 : ¬ 4 * (k : Int) + 4 < (n : Int) := of_decide_eq_false h5
    have hk : k = (n - 4) / 4 := by omega
    have hk4 : 4 * k = n - 4 := by omega
    have hg : ∀ t, t < k → vl.getD t 0 = (nsOf ((l.drop i).take n)).getD t 0 := by
      intro t ht
      rw [← tk_at (l := vl) (n := k) ht, e2.2.1, tk_at ht]
    have hon : on = true := on_of e2.2.2.2.2 (by omega)
    have hvl : k ≤ vl.length := Nat.le_trans e2.2.2.1 e2.2.2.2.1
    have htd : ((k : Int) - 6).tdiv 2 = ((k : Int) - 6) / 2 := Int.tdiv_eq_ediv_of_nonneg (by omega)
    have h6 : ¬ ((k : Int) - 6).tdiv 2 < vl.getD 4 0 := of_decide_eq_false h6
    rw [htd, hg 4 (by omega)] at h6
    have hu4 := ns_u32 (bv := ((l.drop i).take n)) hb 4
    obtain ⟨hB, hB2⟩ := nB_of (R := (nsOf ((l.drop i).take n))) (by rw [hRl]; omega) hu4.1 (by omega)
    obtain ⟨j, won, wb, wq, wl, wc⟩ := w
    obtain ⟨f1, f2, f3, f4⟩ : j ≤ nB (nsOf ((l.drop i).take n)) ∧ Grw (wl.take j) wl won j wc ∧ (wl.take j).map (·.l) = (blks (nsOf ((l.drop i).take n)) j).map lst ∧ ∀ r ∈ wl.take j, Rok r := hw
    have h7 : ¬ (j : Int) < vl.getD 4 0 := of_decide_eq_false h7
    rw [hg 4 (by omega), hB] at h7
    have hj : j = nB (nsOf ((l.drop i).take n)) := by omega
    have ht9 : ((k : Int) - (5 + 2 * (j : Int) + 1)).tdiv 9 = ((k : Int) - (5 + 2 * (j : Int) + 1)) / 9 := Int.tdiv_eq_ediv_of_nonneg (by omega)
    have q1 : vl.getD ((5 + 2 * (j : Int)).toNat + 0) 0 = (nsOf ((l.drop i).take n)).getD (5 + 2 * nB (nsOf ((l.drop i).take n))) 0 := by rw [show (5 + 2 * (j : Int)).toNat + 0 = 5 + 2 * nB (nsOf ((l.drop i).take n)) by omega]; exact hg _ (by omega)
    have hu5 := ns_u32 (bv := ((l.drop i).take n)) hb (5 + 2 * nB (nsOf ((l.drop i).take n)))
    have h8 : (decide (((k : Int) - (5 + 2 * (j : Int) + 1)).tdiv 9 < vl.getD ((5 + 2 * (j : Int)).toNat + 0) 0) || decide (5 + 2 * (j : Int) + 1 + 9 * vl.getD ((5 + 2 * (j : Int)).toNat + 0) 0 ≠ (k : Int))) = false := h8
    rw [ht9, q1] at h8
    simp only [Bool.or_eq_false_iff, decide_eq_false_iff_not] at h8
    obtain ⟨hS, hS2⟩ := nS_of (R := (nsOf ((l.drop i).take n))) (by omega) hu5.1 (by omega)
    obtain ⟨s, uon, ub, uq, ul, uc⟩ := u
    obtain ⟨d1, d2⟩ : s ≤ nS (nsOf ((l.drop i).take n)) ∧ Grw (slts (nsOf ((l.drop i).take n)) s) ul uon s uc := hu
    have h9 : (s : Int) < vl.getD ((5 + 2 * (j : Int)).toNat + 0) 0 := of_decide_eq_true h9
    rw [q1, hS] at h9
    show 6 + 2 * (nB (nsOf ((l.drop i).take n)) : Int) + 9 * (s : Int) + 5 < (k : Int)
    omega
  · rename_i b0 h4 v hv h5 bp h6 w hw h7 h8 u hu h9 bs
    have h4 : (decide ((n : Int) < 28) || decide ((n : Int).tmod 4 ≠ 0) || decide (nm l (((n : Int) - 4).toNat + i) ≠ crc ((l.drop i).take ((n : Int) - 4).toNat))) = false := h4
    rw [Int.tmod_eq_emod_of_nonneg (show (0 : Int) ≤ (n : Int) by omega)] at h4
    simp only [Bool.or_eq_false_iff, decide_eq_false_iff_not] at h4
    have h28 : 28 ≤ n := by omega
    have hm4 : n % 4 = 0 := by omega
    have e4 : ((n : Int) - 4).toNat = n - 4 := by omega
    obtain ⟨k, on, vb, vq, vl, vc⟩ := v
    obtain ⟨e1, e2⟩ : k ≤ (nsOf ((l.drop i).take n)).length ∧ Grw ((nsOf ((l.drop i).take n)).take k) vl on k vc := hv
    rw [hRl] at e1
    have h5 : ¬ 4 * (k : Int) + 4 < (n : Int) := of_decide_eq_false h5
    have hk : k = (n - 4) / 4 := by omega
    have hk4 : 4 * k = n - 4 := by omega
    have hg : ∀ t, t < k → vl.getD t 0 = (nsOf ((l.drop i).take n)).getD t 0 := by
      intro t ht
      rw [← tk_at (l := vl) (n := k) ht, e2.2.1, tk_at ht]
    have hon : on = true := on_of e2.2.2.2.2 (by omega)
    have hvl : k ≤ vl.length := Nat.le_trans e2.2.2.1 e2.2.2.2.1
    have htd : ((k : Int) - 6).tdiv 2 = ((k : Int) - 6) / 2 := Int.tdiv_eq_ediv_of_nonneg (by omega)
    have h6 : ¬ ((k : Int) - 6).tdiv 2 < vl.getD 4 0 := of_decide_eq_false h6
    rw [htd, hg 4 (by omega)] at h6
    have hu4 := ns_u32 (bv := ((l.drop i).take n)) hb 4
    obtain ⟨hB, hB2⟩ := nB_of (R := (nsOf ((l.drop i).take n))) (by rw [hRl]; omega) hu4.1 (by omega)
    obtain ⟨j, won, wb, wq, wl, wc⟩ := w
    obtain ⟨f1, f2, f3, f4⟩ : j ≤ nB (nsOf ((l.drop i).take n)) ∧ Grw (wl.take j) wl won j wc ∧ (wl.take j).map (·.l) = (blks (nsOf ((l.drop i).take n)) j).map lst ∧ ∀ r ∈ wl.take j, Rok r := hw
    have h7 : ¬ (j : Int) < vl.getD 4 0 := of_decide_eq_false h7
    rw [hg 4 (by omega), hB] at h7
    have hj : j = nB (nsOf ((l.drop i).take n)) := by omega
    have ht9 : ((k : Int) - (5 + 2 * (j : Int) + 1)).tdiv 9 = ((k : Int) - (5 + 2 * (j : Int) + 1)) / 9 := Int.tdiv_eq_ediv_of_nonneg (by omega)
    have q1 : vl.getD ((5 + 2 * (j : Int)).toNat + 0) 0 = (nsOf ((l.drop i).take n)).getD (5 + 2 * nB (nsOf ((l.drop i).take n))) 0 := by rw [show (5 + 2 * (j : Int)).toNat + 0 = 5 + 2 * nB (nsOf ((l.drop i).take n)) by omega]; exact hg _ (by omega)
    have hu5 := ns_u32 (bv := ((l.drop i).take n)) hb (5 + 2 * nB (nsOf ((l.drop i).take n)))
    have h8 : (decide (((k : Int) - (5 + 2 * (j : Int) + 1)).tdiv 9 < vl.getD ((5 + 2 * (j : Int)).toNat + 0) 0) || decide (5 + 2 * (j : Int) + 1 + 9 * vl.getD ((5 + 2 * (j : Int)).toNat + 0) 0 ≠ (k : Int))) = false := h8
    rw [ht9, q1] at h8
    simp only [Bool.or_eq_false_iff, decide_eq_false_iff_not] at h8
    obtain ⟨hS, hS2⟩ := nS_of (R := (nsOf ((l.drop i).take n))) (by omega) hu5.1 (by omega)
    obtain ⟨s, uon, ub, uq, ul, uc⟩ := u
    obtain ⟨d1, d2⟩ : s ≤ nS (nsOf ((l.drop i).take n)) ∧ Grw (slts (nsOf ((l.drop i).take n)) s) ul uon s uc := hu
    have h9 : (s : Int) < vl.getD ((5 + 2 * (j : Int)).toNat + 0) 0 := of_decide_eq_true h9
    rw [q1, hS] at h9
    exact hon
  · rename_i b0 h4 v hv h5 bp h6 w hw h7 h8 u hu h9 bs
    have h4 : (decide ((n : Int) < 28) || decide ((n : Int).tmod 4 ≠ 0) || decide (nm l (((n : Int) - 4).toNat + i) ≠ crc ((l.drop i).take ((n : Int) - 4).toNat))) = false := h4
    rw [Int.tmod_eq_emod_of_nonneg (show (0 : Int) ≤ (n : Int) by omega)] at h4
    simp only [Bool.or_eq_false_iff, decide_eq_false_iff_not] at h4
    have h28 : 28 ≤ n := by omega
    have hm4 : n % 4 = 0 := by omega
    have e4 : ((n : Int) - 4).toNat = n - 4 := by omega
    obtain ⟨k, on, vb, vq, vl, vc⟩ := v
    obtain ⟨e1, e2⟩ : k ≤ (nsOf ((l.drop i).take n)).length ∧ Grw ((nsOf ((l.drop i).take n)).take k) vl on k vc := hv
    rw [hRl] at e1
    have h5 : ¬ 4 * (k : Int) + 4 < (n : Int) := of_decide_eq_false h5
    have hk : k = (n - 4) / 4 := by omega
    have hk4 : 4 * k = n - 4 := by omega
    have hg : ∀ t, t < k → vl.getD t 0 = (nsOf ((l.drop i).take n)).getD t 0 := by
      intro t ht
      rw [← tk_at (l := vl) (n := k) ht, e2.2.1, tk_at ht]
    have hon : on = true := on_of e2.2.2.2.2 (by omega)
    have hvl : k ≤ vl.length := Nat.le_trans e2.2.2.1 e2.2.2.2.1
    have htd : ((k : Int) - 6).tdiv 2 = ((k : Int) - 6) / 2 := Int.tdiv_eq_ediv_of_nonneg (by omega)
    have h6 : ¬ ((k : Int) - 6).tdiv 2 < vl.getD 4 0 := of_decide_eq_false h6
    rw [htd, hg 4 (by omega)] at h6
    have hu4 := ns_u32 (bv := ((l.drop i).take n)) hb 4
    obtain ⟨hB, hB2⟩ := nB_of (R := (nsOf ((l.drop i).take n))) (by rw [hRl]; omega) hu4.1 (by omega)
    obtain ⟨j, won, wb, wq, wl, wc⟩ := w
    obtain ⟨f1, f2, f3, f4⟩ : j ≤ nB (nsOf ((l.drop i).take n)) ∧ Grw (wl.take j) wl won j wc ∧ (wl.take j).map (·.l) = (blks (nsOf ((l.drop i).take n)) j).map lst ∧ ∀ r ∈ wl.take j, Rok r := hw
    have h7 : ¬ (j : Int) < vl.getD 4 0 := of_decide_eq_false h7
    rw [hg 4 (by omega), hB] at h7
    have hj : j = nB (nsOf ((l.drop i).take n)) := by omega
    have ht9 : ((k : Int) - (5 + 2 * (j : Int) + 1)).tdiv 9 = ((k : Int) - (5 + 2 * (j : Int) + 1)) / 9 := Int.tdiv_eq_ediv_of_nonneg (by omega)
    have q1 : vl.getD ((5 + 2 * (j : Int)).toNat + 0) 0 = (nsOf ((l.drop i).take n)).getD (5 + 2 * nB (nsOf ((l.drop i).take n))) 0 := by rw [show (5 + 2 * (j : Int)).toNat + 0 = 5 + 2 * nB (nsOf ((l.drop i).take n)) by omega]; exact hg _ (by omega)
    have hu5 := ns_u32 (bv := ((l.drop i).take n)) hb (5 + 2 * nB (nsOf ((l.drop i).take n)))
    have h8 : (decide (((k : Int) - (5 + 2 * (j : Int) + 1)).tdiv 9 < vl.getD ((5 + 2 * (j : Int)).toNat + 0) 0) || decide (5 + 2 * (j : Int) + 1 + 9 * vl.getD ((5 + 2 * (j : Int)).toNat + 0) 0 ≠ (k : Int))) = false := h8
    rw [ht9, q1] at h8
    simp only [Bool.or_eq_false_iff, decide_eq_false_iff_not] at h8
    obtain ⟨hS, hS2⟩ := nS_of (R := (nsOf ((l.drop i).take n))) (by omega) hu5.1 (by omega)
    obtain ⟨s, uon, ub, uq, ul, uc⟩ := u
    obtain ⟨d1, d2⟩ : s ≤ nS (nsOf ((l.drop i).take n)) ∧ Grw (slts (nsOf ((l.drop i).take n)) s) ul uon s uc := hu
    have h9 : (s : Int) < vl.getD ((5 + 2 * (j : Int)).toNat + 0) 0 := of_decide_eq_true h9
    rw [q1, hS] at h9
    show (6 + 2 * (nB (nsOf ((l.drop i).take n)) : Int) + 9 * (s : Int) + 5).toNat + 0 < vl.length
    omega
  · rename_i b0 h4 v hv h5 bp h6 w hw h7 h8 u hu h9 bs
    have h4 : (decide ((n : Int) < 28) || decide ((n : Int).tmod 4 ≠ 0) || decide (nm l (((n : Int) - 4).toNat + i) ≠ crc ((l.drop i).take ((n : Int) - 4).toNat))) = false := h4
    rw [Int.tmod_eq_emod_of_nonneg (show (0 : Int) ≤ (n : Int) by omega)] at h4
    simp only [Bool.or_eq_false_iff, decide_eq_false_iff_not] at h4
    have h28 : 28 ≤ n := by omega
    have hm4 : n % 4 = 0 := by omega
    have e4 : ((n : Int) - 4).toNat = n - 4 := by omega
    obtain ⟨k, on, vb, vq, vl, vc⟩ := v
    obtain ⟨e1, e2⟩ : k ≤ (nsOf ((l.drop i).take n)).length ∧ Grw ((nsOf ((l.drop i).take n)).take k) vl on k vc := hv
    rw [hRl] at e1
    have h5 : ¬ 4 * (k : Int) + 4 < (n : Int) := of_decide_eq_false h5
    have hk : k = (n - 4) / 4 := by omega
    have hk4 : 4 * k = n - 4 := by omega
    have hg : ∀ t, t < k → vl.getD t 0 = (nsOf ((l.drop i).take n)).getD t 0 := by
      intro t ht
      rw [← tk_at (l := vl) (n := k) ht, e2.2.1, tk_at ht]
    have hon : on = true := on_of e2.2.2.2.2 (by omega)
    have hvl : k ≤ vl.length := Nat.le_trans e2.2.2.1 e2.2.2.2.1
    have htd : ((k : Int) - 6).tdiv 2 = ((k : Int) - 6) / 2 := Int.tdiv_eq_ediv_of_nonneg (by omega)
    have h6 : ¬ ((k : Int) - 6).tdiv 2 < vl.getD 4 0 := of_decide_eq_false h6
    rw [htd, hg 4 (by omega)] at h6
    have hu4 := ns_u32 (bv := ((l.drop i).take n)) hb 4
    obtain ⟨hB, hB2⟩ := nB_of (R := (nsOf ((l.drop i).take n))) (by rw [hRl]; omega) hu4.1 (by omega)
    obtain ⟨j, won, wb, wq, wl, wc⟩ := w
    obtain ⟨f1, f2, f3, f4⟩ : j ≤ nB (nsOf ((l.drop i).take n)) ∧ Grw (wl.take j) wl won j wc ∧ (wl.take j).map (·.l) = (blks (nsOf ((l.drop i).take n)) j).map lst ∧ ∀ r ∈ wl.take j, Rok r := hw
    have h7 : ¬ (j : Int) < vl.getD 4 0 := of_decide_eq_false h7
    rw [hg 4 (by omega), hB] at h7
    have hj : j = nB (nsOf ((l.drop i).take n)) := by omega
    have ht9 : ((k : Int) - (5 + 2 * (j : Int) + 1)).tdiv 9 = ((k : Int) - (5 + 2 * (j : Int) + 1)) / 9 := Int.tdiv_eq_ediv_of_nonneg (by omega)
    have q1 : vl.getD ((5 + 2 * (j : Int)).toNat + 0) 0 = (nsOf ((l.drop i).take n)).getD (5 + 2 * nB (nsOf ((l.drop i).take n))) 0 := by rw [show (5 + 2 * (j : Int)).toNat + 0 = 5 + 2 * nB (nsOf ((l.drop i).take n)) by omega]; exact hg _ (by omega)
    have hu5 := ns_u32 (bv := ((l.drop i).take n)) hb (5 + 2 * nB (nsOf ((l.drop i).take n)))
    have h8 : (decide (((k : Int) - (5 + 2 * (j : Int) + 1)).tdiv 9 < vl.getD ((5 + 2 * (j : Int)).toNat + 0) 0) || decide (5 + 2 * (j : Int) + 1 + 9 * vl.getD ((5 + 2 * (j : Int)).toNat + 0) 0 ≠ (k : Int))) = false := h8
    rw [ht9, q1] at h8
    simp only [Bool.or_eq_false_iff, decide_eq_false_iff_not] at h8
    obtain ⟨hS, hS2⟩ := nS_of (R := (nsOf ((l.drop i).take n))) (by omega) hu5.1 (by omega)
    obtain ⟨s, uon, ub, uq, ul, uc⟩ := u
    obtain ⟨d1, d2⟩ : s ≤ nS (nsOf ((l.drop i).take n)) ∧ Grw (slts (nsOf ((l.drop i).take n)) s) ul uon s uc := hu
    have h9 : (s : Int) < vl.getD ((5 + 2 * (j : Int)).toNat + 0) 0 := of_decide_eq_true h9
    rw [q1, hS] at h9
    exact inR64 (by show _ ≤ 6 + 2 * (nB (nsOf ((l.drop i).take n)) : Int) + 9 * (s : Int) + 6; omega) (by show 6 + 2 * (nB (nsOf ((l.drop i).take n)) : Int) + 9 * (s : Int) + 6 ≤ _; omega)
  · rename_i b0 h4 v hv h5 bp h6 w hw h7 h8 u hu h9 bs
    have h4 : (decide ((n : Int) < 28) || decide ((n : Int).tmod 4 ≠ 0) || decide (nm l (((n : Int) - 4).toNat + i) ≠ crc ((l.drop i).take ((n : Int) - 4).toNat))) = false := h4
    rw [Int.tmod_eq_emod_of_nonneg (show (0 : Int) ≤ (n : Int) by omega)] at h4
    simp only [Bool.or_eq_false_iff, decide_eq_false_iff_not] at h4
    have h28 : 28 ≤ n := by omega
    have hm4 : n % 4 = 0 := by omega
    have e4 : ((n : Int) - 4).toNat = n - 4 := by omega
    obtain ⟨k, on, vb, vq, vl, vc⟩ := v
    obtain ⟨e1, e2⟩ : k ≤ (nsOf ((l.drop i).take n)).length ∧ Grw ((nsOf ((l.drop i).take n)).take k) vl on k vc := hv
    rw [hRl] at e1
    have h5 : ¬ 4 * (k : Int) + 4 < (n : Int) := of_decide_eq_false h5
    have hk : k = (n - 4) / 4 := by omega
    have hk4 : 4 * k = n - 4 := by omega
    have hg : ∀ t, t < k → vl.getD t 0 = (nsOf ((l.drop i).take n)).getD t 0 := by
      intro t ht
      rw [← tk_at (l := vl) (n := k) ht, e2.2.1, tk_at ht]
    have hon : on = true := on_of e2.2.2.2.2 (by omega)
    have hvl : k ≤ vl.length := Nat.le_trans e2.2.2.1 e2.2.2.2.1
    have htd : ((k : Int) - 6).tdiv 2 = ((k : Int) - 6) / 2 := Int.tdiv_eq_ediv_of_nonneg (by omega)
    have h6 : ¬ ((k : Int) - 6).tdiv 2 < vl.getD 4 0 := of_decide_eq_false h6
    rw [htd, hg 4 (by omega)] at h6
    have hu4 := ns_u32 (bv := ((l.drop i).take n)) hb 4
    obtain ⟨hB, hB2⟩ := nB_of (R := (nsOf ((l.drop i).take n))) (by rw [hRl]; omega) hu4.1 (by omega)
    obtain ⟨j, won, wb, wq, wl, wc⟩ := w
    obtain ⟨f1, f2, f3, f4⟩ : j ≤ nB (nsOf ((l.drop i).take n)) ∧ Grw (wl.take j) wl won j wc ∧ (wl.take j).map (·.l) = (blks (nsOf ((l.drop i).take n)) j).map lst ∧ ∀ r ∈ wl.take j, Rok r := hw
    have h7 : ¬ (j : Int) < vl.getD 4 0 := of_decide_eq_false h7
    rw [hg 4 (by omega), hB] at h7
    have hj : j = nB (nsOf ((l.drop i).take n)) := by omega
    have ht9 : ((k : Int) - (5 + 2 * (j : Int) + 1)).tdiv 9 = ((k : Int) - (5 + 2 * (j : Int) + 1)) / 9 := Int.tdiv_eq_ediv_of_nonneg (by omega)
    have q1 : vl.getD ((5 + 2 * (j : Int)).toNat + 0) 0 = (nsOf ((l.drop i).take n)).getD (5 + 2 * nB (nsOf ((l.drop i).take n))) 0 := by rw [show (5 + 2 * (j : Int)).toNat + 0 = 5 + 2 * nB (nsOf ((l.drop i).take n)) by omega]; exact hg _ (by omega)
    have hu5 := ns_u32 (bv := ((l.drop i).take n)) hb (5 + 2 * nB (nsOf ((l.drop i).take n)))
    have h8 : (decide (((k : Int) - (5 + 2 * (j : Int) + 1)).tdiv 9 < vl.getD ((5 + 2 * (j : Int)).toNat + 0) 0) || decide (5 + 2 * (j : Int) + 1 + 9 * vl.getD ((5 + 2 * (j : Int)).toNat + 0) 0 ≠ (k : Int))) = false := h8
    rw [ht9, q1] at h8
    simp only [Bool.or_eq_false_iff, decide_eq_false_iff_not] at h8
    obtain ⟨hS, hS2⟩ := nS_of (R := (nsOf ((l.drop i).take n))) (by omega) hu5.1 (by omega)
    obtain ⟨s, uon, ub, uq, ul, uc⟩ := u
    obtain ⟨d1, d2⟩ : s ≤ nS (nsOf ((l.drop i).take n)) ∧ Grw (slts (nsOf ((l.drop i).take n)) s) ul uon s uc := hu
    have h9 : (s : Int) < vl.getD ((5 + 2 * (j : Int)).toNat + 0) 0 := of_decide_eq_true h9
    rw [q1, hS] at h9
    exact hon
  · rename_i b0 h4 v hv h5 bp h6 w hw h7 h8 u hu h9 bs
    have h4 : (decide ((n : Int) < 28) || decide ((n : Int).tmod 4 ≠ 0) || decide (nm l (((n : Int) - 4).toNat + i) ≠ crc ((l.drop i).take ((n : Int) - 4).toNat))) = false := h4
    rw [Int.tmod_eq_emod_of_nonneg (show (0 : Int) ≤ (n : Int) by omega)] at h4
    simp only [Bool.or_eq_false_iff, decide_eq_false_iff_not] at h4
    have h28 : 28 ≤ n := by omega
    have hm4 : n % 4 = 0 := by omega
    have e4 : ((n : Int) - 4).toNat = n - 4 := by omega
    obtain ⟨k, on, vb, vq, vl, vc⟩ := v
    obtain ⟨e1, e2⟩ : k ≤ (nsOf ((l.drop i).take n)).length ∧ Grw ((nsOf ((l.drop i).take n)).take k) vl on k vc := hv
    rw [hRl] at e1
    have h5 : ¬ 4 * (k : Int) + 4 < (n : Int) := of_decide_eq_false h5
    have hk : k = (n - 4) / 4 := by omega
    have hk4 : 4 * k = n - 4 := by omega
    have hg : ∀ t, t < k → vl.getD t 0 = (nsOf ((l.drop i).take n)).getD t 0 := by
      intro t ht
      rw [← tk_at (l := vl) (n := k) ht, e2.2.1, tk_at ht]
    have hon : on = true := on_of e2.2.2.2.2 (by omega)
    have hvl : k ≤ vl.length := Nat.le_trans e2.2.2.1 e2.2.2.2.1
    have htd : ((k : Int) - 6).tdiv 2 = ((k : Int) - 6) / 2 := Int.tdiv_eq_ediv_of_nonneg (by omega)
    have h6 : ¬ ((k : Int) - 6).tdiv 2 < vl.getD 4 0 := of_decide_eq_false h6
    rw [htd, hg 4 (by omega)] at h6
    have hu4 := ns_u32 (bv := ((l.drop i).take n)) hb 4
    obtain ⟨hB, hB2⟩ := nB_of (R := (nsOf ((l.drop i).take n))) (by rw [hRl]; omega) hu4.1 (by omega)
    obtain ⟨j, won, wb, wq, wl, wc⟩ := w
    obtain ⟨f1, f2, f3, f4⟩ : j ≤ nB (nsOf ((l.drop i).take n)) ∧ Grw (wl.take j) wl won j wc ∧ (wl.take j).map (·.l) = (blks (nsOf ((l.drop i).take n)) j).map lst ∧ ∀ r ∈ wl.take j, Rok r := hw
    have h7 : ¬ (j : Int) < vl.getD 4 0 := of_decide_eq_false h7
    rw [hg 4 (by omega), hB] at h7
    have hj : j = nB (nsOf ((l.drop i).take n)) := by omega
    have ht9 : ((k : Int) - (5 + 2 * (j : Int) + 1)).tdiv 9 = ((k : Int) - (5 + 2 * (j : Int) + 1)) / 9 := Int.tdiv_eq_ediv_of_nonneg (by omega)
    have q1 : vl.getD ((5 + 2 * (j : Int)).toNat + 0) 0 = (nsOf ((l.drop i).take n)).getD (5 + 2 * nB (nsOf ((l.drop i).take n))) 0 := by rw [show (5 + 2 * (j : Int)).toNat + 0 = 5 + 2 * nB (nsOf ((l.drop i).take n)) by omega]; exact hg _ (by omega)
    have hu5 := ns_u32 (bv := ((l.drop i).take n)) hb (5 + 2 * nB (nsOf ((l.drop i).take n)))
    have h8 : (decide (((k : Int) - (5 + 2 * (j : Int) + 1)).tdiv 9 < vl.getD ((5 + 2 * (j : Int)).toNat + 0) 0) || decide (5 + 2 * (j : Int) + 1 + 9 * vl.getD ((5 + 2 * (j : Int)).toNat + 0) 0 ≠ (k : Int))) = false := h8
    rw [ht9, q1] at h8
    simp only [Bool.or_eq_false_iff, decide_eq_false_iff_not] at h8
    obtain ⟨hS, hS2⟩ := nS_of (R := (nsOf ((l.drop i).take n))) (by omega) hu5.1 (by omega)
    obtain ⟨s, uon, ub, uq, ul, uc⟩ := u
    obtain ⟨d1, d2⟩ : s ≤ nS (nsOf ((l.drop i).take n)) ∧ Grw (slts (nsOf ((l.drop i).take n)) s) ul uon s uc := hu
    have h9 : (s : Int) < vl.getD ((5 + 2 * (j : Int)).toNat + 0) 0 := of_decide_eq_true h9
    rw [q1, hS] at h9
    show 6 + 2 * (nB (nsOf ((l.drop i).take n)) : Int) + 9 * (s : Int) + 6 < (k : Int)
    omega
  · rename_i b0 h4 v hv h5 bp h6 w hw h7 h8 u hu h9 bs
    have h4 : (decide ((n : Int) < 28) || decide ((n : Int).tmod 4 ≠ 0) || decide (nm l (((n : Int) - 4).toNat + i) ≠ crc ((l.drop i).take ((n : Int) - 4).toNat))) = false := h4
    rw [Int.tmod_eq_emod_of_nonneg (show (0 : Int) ≤ (n : Int) by omega)] at h4
    simp only [Bool.or_eq_false_iff, decide_eq_false_iff_not] at h4
    have h28 : 28 ≤ n := by omega
    have hm4 : n % 4 = 0 := by omega
    have e4 : ((n : Int) - 4).toNat = n - 4 := by omega
    obtain ⟨k, on, vb, vq, vl, vc⟩ := v
    obtain ⟨e1, e2⟩ : k ≤ (nsOf ((l.drop i).take n)).length ∧ Grw ((nsOf ((l.drop i).take n)).take k) vl on k vc := hv
    rw [hRl] at e1
    have h5 : ¬ 4 * (k : Int) + 4 < (n : Int) := of_decide_eq_false h5
    have hk : k = (n - 4) / 4 := by omega
    have hk4 : 4 * k = n - 4 := by omega
    have hg : ∀ t, t < k → vl.getD t 0 = (nsOf ((l.drop i).take n)).getD t 0 := by
      intro t ht
      rw [← tk_at (l := vl) (n := k) ht, e2.2.1, tk_at ht]
    have hon : on = true := on_of e2.2.2.2.2 (by omega)
    have hvl : k ≤ vl.length := Nat.le_trans e2.2.2.1 e2.2.2.2.1
    have htd : ((k : Int) - 6).tdiv 2 = ((k : Int) - 6) / 2 := Int.tdiv_eq_ediv_of_nonneg (by omega)
    have h6 : ¬ ((k : Int) - 6).tdiv 2 < vl.getD 4 0 := of_decide_eq_false h6
    rw [htd, hg 4 (by omega)] at h6
    have hu4 := ns_u32 (bv := ((l.drop i).take n)) hb 4
    obtain ⟨hB, hB2⟩ := nB_of (R := (nsOf ((l.drop i).take n))) (by rw [hRl]; omega) hu4.1 (by omega)
    obtain ⟨j, won, wb, wq, wl, wc⟩ := w
    obtain ⟨f1, f2, f3, f4⟩ : j ≤ nB (nsOf ((l.drop i).take n)) ∧ Grw (wl.take j) wl won j wc ∧ (wl.take j).map (·.l) = (blks (nsOf ((l.drop i).take n)) j).map lst ∧ ∀ r ∈ wl.take j, Rok r := hw
    have h7 : ¬ (j : Int) < vl.getD 4 0 := of_decide_eq_false h7
    rw [hg 4 (by omega), hB] at h7
    have hj : j = nB (nsOf ((l.drop i).take n)) := by omega
    have ht9 : ((k : Int) - (5 + 2 * (j : Int) + 1)).tdiv 9 = ((k : Int) - (5 + 2 * (j : Int) + 1)) / 9 := Int.tdiv_eq_ediv_of_nonneg (by omega)
    have q1 : vl.getD ((5 + 2 * (j : Int)).toNat + 0) 0 = (nsOf ((l.drop i).take n)).getD (5 + 2 * nB (nsOf ((l.drop i).take n))) 0 := by rw [show (5 + 2 * (j : Int)).toNat + 0 = 5 + 2 * nB (nsOf ((l.drop i).take n)) by omega]; exact hg _ (by omega)
    have hu5 := ns_u32 (bv := ((l.drop i).take n)) hb (5 + 2 * nB (nsOf ((l.drop i).take n)))
    have h8 : (decide (((k : Int) - (5 + 2 * (j : Int) + 1)).tdiv 9 < vl.getD ((5 + 2 * (j : Int)).toNat + 0) 0) || decide (5 + 2 * (j : Int) + 1 + 9 * vl.getD ((5 + 2 * (j : Int)).toNat + 0) 0 ≠ (k : Int))) = false := h8
    rw [ht9, q1] at h8
    simp only [Bool.or_eq_false_iff, decide_eq_false_iff_not] at h8
    obtain ⟨hS, hS2⟩ := nS_of (R := (nsOf ((l.drop i).take n))) (by omega) hu5.1 (by omega)
    obtain ⟨s, uon, ub, uq, ul, uc⟩ := u
    obtain ⟨d1, d2⟩ : s ≤ nS (nsOf ((l.drop i).take n)) ∧ Grw (slts (nsOf ((l.drop i).take n)) s) ul uon s uc := hu
    have h9 : (s : Int) < vl.getD ((5 + 2 * (j : Int)).toNat + 0) 0 := of_decide_eq_true h9
    rw [q1, hS] at h9
    exact hon
  · rename_i b0 h4 v hv h5 bp h6 w hw h7 h8 u hu h9 bs
    have h4 : (decide ((n : Int) < 28) || decide ((n : Int).tmod 4 ≠ 0) || decide (nm l (((n : Int) - 4).toNat + i) ≠ crc ((l.drop i).take ((n : Int) - 4).toNat))) = false := h4
    rw [Int.tmod_eq_emod_of_nonneg (show (0 : Int) ≤ (n : Int) by omega)] at h4
    simp only [Bool.or_eq_false_iff, decide_eq_false_iff_not] at h4
    have h28 : 28 ≤ n := by omega
    have hm4 : n % 4 = 0 := by omega
    have e4 : ((n : Int) - 4).toNat = n - 4 := by omega
    obtain ⟨k, on, vb, vq, vl, vc⟩ := v
    obtain ⟨e1, e2⟩ : k ≤ (nsOf ((l.drop i).take n)).length ∧ Grw ((nsOf ((l.drop i).take n)).take k) vl on k vc := hv
    rw [hRl] at e1
    have h5 : ¬ 4 * (k : Int) + 4 < (n : Int) := of_decide_eq_false h5
    have hk : k = (n - 4) / 4 := by omega
    have hk4 : 4 * k = n - 4 := by omega
    have hg : ∀ t, t < k → vl.getD t 0 = (nsOf ((l.drop i).take n)).getD t 0 := by
      intro t ht
      rw [← tk_at (l := vl) (n := k) ht, e2.2.1, tk_at ht]
    have hon : on = true := on_of e2.2.2.2.2 (by omega)
    have hvl : k ≤ vl.length := Nat.le_trans e2.2.2.1 e2.2.2.2.1
    have htd : ((k : Int) - 6).tdiv 2 = ((k : Int) - 6) / 2 := Int.tdiv_eq_ediv_of_nonneg (by omega)
    have h6 : ¬ ((k : Int) - 6).tdiv 2 < vl.getD 4 0 := of_decide_eq_false h6
    rw [htd, hg 4 (by omega)] at h6
    have hu4 := ns_u32 (bv := ((l.drop i).take n)) hb 4
    obtain ⟨hB, hB2⟩ := nB_of (R := (nsOf ((l.drop i).take n))) (by rw [hRl]; omega) hu4.1 (by omega)
    obtain ⟨j, won, wb, wq, wl, wc⟩ := w
    obtain ⟨f1, f2, f3, f4⟩ : j ≤ nB (nsOf ((l.drop i).take n)) ∧ Grw (wl.take j) wl won j wc ∧ (wl.take j).map (·.l) = (blks (nsOf ((l.drop i).take n)) j).map lst ∧ ∀ r ∈ wl.take j, Rok r := hw
    have h7 : ¬ (j : Int) < vl.getD 4 0 := of_decide_eq_false h7
    rw [hg 4 (by omega), hB] at h7
    have hj : j = nB (nsOf ((l.drop i).take n)) := by omega
    have ht9 : ((k : Int) - (5 + 2 * (j : Int) + 1)).tdiv 9 = ((k : Int) - (5 + 2 * (j : Int) + 1)) / 9 := Int.tdiv_eq_ediv_of_nonneg (by omega)
    have q1 : vl.getD ((5 + 2 * (j : Int)).toNat + 0) 0 = (nsOf ((l.drop i).take n)).getD (5 + 2 * nB (nsOf ((l.drop i).take n))) 0 := by rw [show (5 + 2 * (j : Int)).toNat + 0 = 5 + 2 * nB (nsOf ((l.drop i).take n)) by omega]; exact hg _ (by omega)
    have hu5 := ns_u32 (bv := ((l.drop i).take n)) hb (5 + 2 * nB (nsOf ((l.drop i).take n)))
    have h8 : (decide (((k : Int) - (5 + 2 * (j : Int) + 1)).tdiv 9 < vl.getD ((5 + 2 * (j : Int)).toNat + 0) 0) || decide (5 + 2 * (j : Int) + 1 + 9 * vl.getD ((5 + 2 * (j : Int)).toNat + 0) 0 ≠ (k : Int))) = false := h8
    rw [ht9, q1] at h8
    simp only [Bool.or_eq_false_iff, decide_eq_false_iff_not] at h8
    obtain ⟨hS, hS2⟩ := nS_of (R := (nsOf ((l.drop i).take n))) (by omega) hu5.1 (by omega)
    obtain ⟨s, uon, ub, uq, ul, uc⟩ := u
    obtain ⟨d1, d2⟩ : s ≤ nS (nsOf ((l.drop i).take n)) ∧ Grw (slts (nsOf ((l.drop i).take n)) s) ul uon s uc := hu
    have h9 : (s : Int) < vl.getD ((5 + 2 * (j : Int)).toNat + 0) 0 := of_decide_eq_true h9
    rw [q1, hS] at h9
    show (6 + 2 * (nB (nsOf ((l.drop i).take n)) : Int) + 9 * (s : Int) + 6).toNat + 0 < vl.length
    omega
  · rename_i b0 h4 v hv h5 bp h6 w hw h7 h8 u hu h9 bs
    have h4 : (decide ((n : Int) < 28) || decide ((n : Int).tmod 4 ≠ 0) || decide (nm l (((n : Int) - 4).toNat + i) ≠ crc ((l.drop i).take ((n : Int) - 4).toNat))) = false := h4
    rw [Int.tmod_eq_emod_of_nonneg (show (0 : Int) ≤ (n : Int) by omega)] at h4
    simp only [Bool.or_eq_false_iff, decide_eq_false_iff_not] at h4
    have h28 : 28 ≤ n := by omega
    have hm4 : n % 4 = 0 := by omega
    have e4 : ((n : Int) - 4).toNat = n - 4 := by omega
    obtain ⟨k, on, vb, vq, vl, vc⟩ := v
    obtain ⟨e1, e2⟩ : k ≤ (nsOf ((l.drop i).take n)).length ∧ Grw ((nsOf ((l.drop i).take n)).take k) vl on k vc := hv
    rw [hRl] at e1
    have h5 : ¬ 4 * (k : Int) + 4 < (n : Int) := of_decide_eq_false h5
    have hk : k = (n - 4) / 4 := by omega
    have hk4 : 4 * k = n - 4 := by omega
    have hg : ∀ t, t < k → vl.getD t 0 = (nsOf ((l.drop i).take n)).getD t 0 := by
      intro t ht
      rw [← tk_at (l := vl) (n := k) ht, e2.2.1, tk_at ht]
    have hon : on = true := on_of e2.2.2.2.2 (by omega)
    have hvl : k ≤ vl.length := Nat.le_trans e2.2.2.1 e2.2.2.2.1
    have htd : ((k : Int) - 6).tdiv 2 = ((k : Int) - 6) / 2 := Int.tdiv_eq_ediv_of_nonneg (by omega)
    have h6 : ¬ ((k : Int) - 6).tdiv 2 < vl.getD 4 0 := of_decide_eq_false h6
    rw [htd, hg 4 (by omega)] at h6
    have hu4 := ns_u32 (bv := ((l.drop i).take n)) hb 4
    obtain ⟨hB, hB2⟩ := nB_of (R := (nsOf ((l.drop i).take n))) (by rw [hRl]; omega) hu4.1 (by omega)
    obtain ⟨j, won, wb, wq, wl, wc⟩ := w
    obtain ⟨f1, f2, f3, f4⟩ : j ≤ nB (nsOf ((l.drop i).take n)) ∧ Grw (wl.take j) wl won j wc ∧ (wl.take j).map (·.l) = (blks (nsOf ((l.drop i).take n)) j).map lst ∧ ∀ r ∈ wl.take j, Rok r := hw
    have h7 : ¬ (j : Int) < vl.getD 4 0 := of_decide_eq_false h7
    rw [hg 4 (by omega), hB] at h7
    have hj : j = nB (nsOf ((l.drop i).take n)) := by omega
    have ht9 : ((k : Int) - (5 + 2 * (j : Int) + 1)).tdiv 9 = ((k : Int) - (5 + 2 * (j : Int) + 1)) / 9 := Int.tdiv_eq_ediv_of_nonneg (by omega)
    have q1 : vl.getD ((5 + 2 * (j : Int)).toNat + 0) 0 = (nsOf ((l.drop i).take n)).getD (5 + 2 * nB (nsOf ((l.drop i).take n))) 0 := by rw [show (5 + 2 * (j : Int)).toNat + 0 = 5 + 2 * nB (nsOf ((l.drop i).take n)) by omega]; exact hg _ (by omega)
    have hu5 := ns_u32 (bv := ((l.drop i).take n)) hb (5 + 2 * nB (nsOf ((l.drop i).take n)))
    have h8 : (decide (((k : Int) - (5 + 2 * (j : Int) + 1)).tdiv 9 < vl.getD ((5 + 2 * (j : Int)).toNat + 0) 0) || decide (5 + 2 * (j : Int) + 1 + 9 * vl.getD ((5 + 2 * (j : Int)).toNat + 0) 0 ≠ (k : Int))) = false := h8
    rw [ht9, q1] at h8
    simp only [Bool.or_eq_false_iff, decide_eq_false_iff_not] at h8
    obtain ⟨hS, hS2⟩ := nS_of (R := (nsOf ((l.drop i).take n))) (by omega) hu5.1 (by omega)
    obtain ⟨s, uon, ub, uq, ul, uc⟩ := u
    obtain ⟨d1, d2⟩ : s ≤ nS (nsOf ((l.drop i).take n)) ∧ Grw (slts (nsOf ((l.drop i).take n)) s) ul uon s uc := hu
    have h9 : (s : Int) < vl.getD ((5 + 2 * (j : Int)).toNat + 0) 0 := of_decide_eq_true h9
    rw [q1, hS] at h9
    exact inR64 (by show _ ≤ 6 + 2 * (nB (nsOf ((l.drop i).take n)) : Int) + 9 * (s : Int) + 7; omega) (by show 6 + 2 * (nB (nsOf ((l.drop i).take n)) : Int) + 9 * (s : Int) + 7 ≤ _; omega)
  · rename_i b0 h4 v hv h5 bp h6 w hw h7 h8 u hu h9 bs
    have h4 : (decide ((n : Int) < 28) || decide ((n : Int).tmod 4 ≠ 0) || decide (nm l (((n : Int) - 4).toNat + i) ≠ crc ((l.drop i).take ((n : Int) - 4).toNat))) = false := h4
    rw [Int.tmod_eq_emod_of_nonneg (show (0 : Int) ≤ (n : Int) by omega)] at h4
    simp only [Bool.or_eq_false_iff, decide_eq_false_iff_not] at h4
    have h28 : 28 ≤ n := by omega
    have hm4 : n % 4 = 0 := by omega
    have e4 : ((n : Int) - 4).toNat = n - 4 := by omega
    obtain ⟨k, on, vb, vq, vl, vc⟩ := v
    obtain ⟨e1, e2⟩ : k ≤ (nsOf ((l.drop i).take n)).length ∧ Grw ((nsOf ((l.drop i).take n)).take k) vl on k vc := hv
    rw [hRl] at e1
    have h5 : ¬ 4 * (k : Int) + 4 < (n : Int) := of_decide_eq_false h5
    have hk : k = (n - 4) / 4 := by omega
    have hk4 : 4 * k = n - 4 := by omega
    have hg : ∀ t, t < k → vl.getD t 0 = (nsOf ((l.drop i).take n)).getD t 0 := by
      intro t ht
      rw [← tk_at (l := vl) (n := k) ht, e2.2.1, tk_at ht]
    have hon : on = true := on_of e2.2.2.2.2 (by omega)
    have hvl : k ≤ vl.length := Nat.le_trans e2.2.2.1 e2.2.2.2.1
    have htd : ((k : Int) - 6).tdiv 2 = ((k : Int) - 6) / 2 := Int.tdiv_eq_ediv_of_nonneg (by omega)
    have h6 : ¬ ((k : Int) - 6).tdiv 2 < vl.getD 4 0 := of_decide_eq_false h6
    rw [htd, hg 4 (by omega)] at h6
    have hu4 := ns_u32 (bv := ((l.drop i).take n)) hb 4
    obtain ⟨hB, hB2⟩ := nB_of (R := (nsOf ((l.drop i).take n))) (by rw [hRl]; omega) hu4.1 (by omega)
    obtain ⟨j, won, wb, wq, wl, wc⟩ := w
    obtain ⟨f1, f2, f3, f4⟩ : j ≤ nB (nsOf ((l.drop i).take n)) ∧ Grw (wl.take j) wl won j wc ∧ (wl.take j).map (·.l) = (blks (nsOf ((l.drop i).take n)) j).map lst ∧ ∀ r ∈ wl.take j, Rok r := hw
    have h7 : ¬ (j : Int) < vl.getD 4 0 := of_decide_eq_false h7
    rw [hg 4 (by omega), hB] at h7
    have hj : j = nB (nsOf ((l.drop i).take n)) := by omega
    have ht9 : ((k : Int) - (5 + 2 * (j : Int) + 1)).tdiv 9 = ((k : Int) - (5 + 2 * (j : Int) + 1)) / 9 := Int.tdiv_eq_ediv_of_nonneg (by omega)
    have q1 : vl.getD ((5 + 2 * (j : Int)).toNat + 0) 0 = (nsOf ((l.drop i).take n)).getD (5 + 2 * nB (nsOf ((l.drop i).take n))) 0 := by rw [show (5 + 2 * (j : Int)).toNat + 0 = 5 + 2 * nB (nsOf ((l.drop i).take n)) by omega]; exact hg _ (by omega)
    have hu5 := ns_u32 (bv := ((l.drop i).take n)) hb (5 + 2 * nB (nsOf ((l.drop i).take n)))
    have h8 : (decide (((k : Int) - (5 + 2 * (j : Int) + 1)).tdiv 9 < vl.getD ((5 + 2 * (j : Int)).toNat + 0) 0) || decide (5 + 2 * (j : Int) + 1 + 9 * vl.getD ((5 + 2 * (j : Int)).toNat + 0) 0 ≠ (k : Int))) = false := h8
    rw [ht9, q1] at h8
    simp only [Bool.or_eq_false_iff, decide_eq_false_iff_not] at h8
    obtain ⟨hS, hS2⟩ := nS_of (R := (nsOf ((l.drop i).take n))) (by omega) hu5.1 (by omega)
    obtain ⟨s, uon, ub, uq, ul, uc⟩ := u
    obtain ⟨d1, d2⟩ : s ≤ nS (nsOf ((l.drop i).take n)) ∧ Grw (slts (nsOf ((l.drop i).take n)) s) ul uon s uc := hu
    have h9 : (s : Int) < vl.getD ((5 + 2 * (j : Int)).toNat + 0) 0 := of_decide_eq_true h9
    rw [q1, hS] at h9
    exact hon
  · rename_i b0 h4 v hv h5 bp h6 w hw h7 h8 u hu h9 bs
    have h4 : (decide ((n : Int) < 28) || decide ((n : Int).tmod 4 ≠ 0) || decide (nm l (((n : Int) - 4).toNat + i) ≠ crc ((l.drop i).take ((n : Int) - 4).toNat))) = false := h4
    rw [Int.tmod_eq_emod_of_nonneg (show (0 : Int) ≤ (n : Int) by omega)] at h4
    simp only [Bool.or_eq_false_iff, decide_eq_false_iff_not] at h4
    have h28 : 28 ≤ n := by omega
    have hm4 : n % 4 = 0 := by omega
    have e4 : ((n : Int) - 4).toNat = n - 4 := by omega
    obtain ⟨k, on, vb, vq, vl, vc⟩ := v
    obtain ⟨e1, e2⟩ : k ≤ (nsOf ((l.drop i).take n)).length ∧ Grw ((nsOf ((l.drop i).take n)).take k) vl on k vc := hv
    rw [hRl] at e1
    have h5 : ¬ 4 * (k : Int) + 4 < (n : Int) := of_decide_eq_false h5
    have hk : k = (n - 4) / 4 := by omega
    have hk4 : 4 * k = n - 4 := by omega
    have hg : ∀ t, t < k → vl.getD t 0 = (nsOf ((l.drop i).take n)).getD t 0 := by
      intro t ht
      rw [← tk_at (l := vl) (n := k) ht, e2.2.1, tk_at ht]
    have hon : on = true := on_of e2.2.2.2.2 (by omega)
    have hvl : k ≤ vl.length := Nat.le_trans e2.2.2.1 e2.2.2.2.1
    have htd : ((k : Int) - 6).tdiv 2 = ((k : Int) - 6) / 2 := Int.tdiv_eq_ediv_of_nonneg (by omega)
    have h6 : ¬ ((k : Int) - 6).tdiv 2 < vl.getD 4 0 := of_decide_eq_false h6
    rw [htd, hg 4 (by omega)] at h6
    have hu4 := ns_u32 (bv := ((l.drop i).take n)) hb 4
    obtain ⟨hB, hB2⟩ := nB_of (R := (nsOf ((l.drop i).take n))) (by rw [hRl]; omega) hu4.1 (by omega)
    obtain ⟨j, won, wb, wq, wl, wc⟩ := w
    obtain ⟨f1, f2, f3, f4⟩ : j ≤ nB (nsOf ((l.drop i).take n)) ∧ Grw (wl.take j) wl won j wc ∧ (wl.take j).map (·.l) = (blks (nsOf ((l.drop i).take n)) j).map lst ∧ ∀ r ∈ wl.take j, Rok r := hw
    have h7 : ¬ (j : Int) < vl.getD 4 0 := of_decide_eq_false h7
    rw [hg 4 (by omega), hB] at h7
    have hj : j = nB (nsOf ((l.drop i).take n)) := by omega
    have ht9 : ((k : Int) - (5 + 2 * (j : Int) + 1)).tdiv 9 = ((k : Int) - (5 + 2 * (j : Int) + 1)) / 9 := Int.tdiv_eq_ediv_of_nonneg (by omega)
    have q1 : vl.getD ((5 + 2 * (j : Int)).toNat + 0) 0 = (nsOf ((l.drop i).take n)).getD (5 + 2 * nB (nsOf ((l.drop i).take n))) 0 := by rw [show (5 + 2 * (j : Int)).toNat + 0 = 5 + 2 * nB (nsOf ((l.drop i).take n)) by omega]; exact hg _ (by omega)
    have hu5 := ns_u32 (bv := ((l.drop i).take n)) hb (5 + 2 * nB (nsOf ((l.drop i).take n)))
    have h8 : (decide (((k : Int) - (5 + 2 * (j : Int) + 1)).tdiv 9 < vl.getD ((5 + 2 * (j : Int)).toNat + 0) 0) || decide (5 + 2 * (j : Int) + 1 + 9 * vl.getD ((5 + 2 * (j : Int)).toNat + 0) 0 ≠ (k : Int))) = false := h8
    rw [ht9, q1] at h8
    simp only [Bool.or_eq_false_iff, decide_eq_false_iff_not] at h8
    obtain ⟨hS, hS2⟩ := nS_of (R := (nsOf ((l.drop i).take n))) (by omega) hu5.1 (by omega)
    obtain ⟨s, uon, ub, uq, ul, uc⟩ := u
    obtain ⟨d1, d2⟩ : s ≤ nS (nsOf ((l.drop i).take n)) ∧ Grw (slts (nsOf ((l.drop i).take n)) s) ul uon s uc := hu
    have h9 : (s : Int) < vl.getD ((5 + 2 * (j : Int)).toNat + 0) 0 := of_decide_eq_true h9
    rw [q1, hS] at h9
    show 6 + 2 * (nB (nsOf ((l.drop i).take n)) : Int) + 9 * (s : Int) + 7 < (k : Int)
    omega
  · rename_i b0 h4 v hv h5 bp h6 w hw h7 h8 u hu h9 bs
    have h4 : (decide ((n : Int) < 28) || decide ((n : Int).tmod 4 ≠ 0) || decide (nm l (((n : Int) - 4).toNat + i) ≠ crc ((l.drop i).take ((n : Int) - 4).toNat))) = false := h4
    rw [Int.tmod_eq_emod_of_nonneg (show (0 : Int) ≤ (n : Int) by omega)] at h4
    simp only [Bool.or_eq_false_iff, decide_eq_false_iff_not] at h4
    have h28 : 28 ≤ n := by omega
    have hm4 : n % 4 = 0 := by omega
    have e4 : ((n : Int) - 4).toNat = n - 4 := by omega
    obtain ⟨k, on, vb, vq, vl, vc⟩ := v
    obtain ⟨e1, e2⟩ : k ≤ (nsOf ((l.drop i).take n)).length ∧ Grw ((nsOf ((l.drop i).take n)).take k) vl on k vc := hv
    rw [hRl] at e1
    have h5 : ¬ 4 * (k : Int) + 4 < (n : Int) := of_decide_eq_false h5
    have hk : k = (n - 4) / 4 := by omega
    have hk4 : 4 * k = n - 4 := by omega
    have hg : ∀ t, t < k → vl.getD t 0 = (nsOf ((l.drop i).take n)).getD t 0 := by
      intro t ht
      rw [← tk_at (l := vl) (n := k) ht, e2.2.1, tk_at ht]
    have hon : on = true := on_of e2.2.2.2.2 (by omega)
    have hvl : k ≤ vl.length := Nat.le_trans e2.2.2.1 e2.2.2.2.1
    have htd : ((k : Int) - 6).tdiv 2 = ((k : Int) - 6) / 2 := Int.tdiv_eq_ediv_of_nonneg (by omega)
    have h6 : ¬ ((k : Int) - 6).tdiv 2 < vl.getD 4 0 := of_decide_eq_false h6
    rw [htd, hg 4 (by omega)] at h6
    have hu4 := ns_u32 (bv := ((l.drop i).take n)) hb 4
    obtain ⟨hB, hB2⟩ := nB_of (R := (nsOf ((l.drop i).take n))) (by rw [hRl]; omega) hu4.1 (by omega)
    obtain ⟨j, won, wb, wq, wl, wc⟩ := w
    obtain ⟨f1, f2, f3, f4⟩ : j ≤ nB (nsOf ((l.drop i).take n)) ∧ Grw (wl.take j) wl won j wc ∧ (wl.take j).map (·.l) = (blks (nsOf ((l.drop i).take n)) j).map lst ∧ ∀ r ∈ wl.take j, Rok r := hw
    have h7 : ¬ (j : Int) < vl.getD 4 0 := of_decide_eq_false h7
    rw [hg 4 (by omega), hB] at h7
    have hj : j = nB (nsOf ((l.drop i).take n)) := by omega
    have ht9 : ((k : Int) - (5 + 2 * (j : Int) + 1)).tdiv 9 = ((k : Int) - (5 + 2 * (j : Int) + 1)) / 9 := Int.tdiv_eq_ediv_of_nonneg (by omega)
    have q1 : vl.getD ((5 + 2 * (j : Int)).toNat + 0) 0 = (nsOf ((l.drop i).take n)).getD (5 + 2 * nB (nsOf ((l.drop i).take n))) 0 := by rw [show (5 + 2 * (j : Int)).toNat + 0 = 5 + 2 * nB (nsOf ((l.drop i).take n)) by omega]; exact hg _ (by omega)
    have hu5 := ns_u32 (bv := ((l.drop i).take n)) hb (5 + 2 * nB (nsOf ((l.drop i).take n)))
    have h8 : (decide (((k : Int) - (5 + 2 * (j : Int) + 1)).tdiv 9 < vl.getD ((5 + 2 * (j : Int)).toNat + 0) 0) || decide (5 + 2 * (j : Int) + 1 + 9 * vl.getD ((5 + 2 * (j : Int)).toNat + 0) 0 ≠ (k : Int))) = false := h8
    rw [ht9, q1] at h8
    simp only [Bool.or_eq_false_iff, decide_eq_false_iff_not] at h8
    obtain ⟨hS, hS2⟩ := nS_of (R := (nsOf ((l.drop i).take n))) (by omega) hu5.1 (by omega)
    obtain ⟨s, uon, ub, uq, ul, uc⟩ := u
    obtain ⟨d1, d2⟩ : s ≤ nS (nsOf ((l.drop i).take n)) ∧ Grw (slts (nsOf ((l.drop i).take n)) s) ul uon s uc := hu
    have h9 : (s : Int) < vl.getD ((5 + 2 * (j : Int)).toNat + 0) 0 := of_decide_eq_true h9
    rw [q1, hS] at h9
    exact hon
  · rename_i b0 h4 v hv h5 bp h6 w hw h7 h8 u hu h9 bs
    have h4 : (decide ((n : Int) < 28) || decide ((n : Int).tmod 4 ≠ 0) || decide (nm l (((n : Int) - 4).toNat + i) ≠ crc ((l.drop i).take ((n : Int) - 4).toNat))) = false := h4
    rw [Int.tmod_eq_emod_of_nonneg (show (0 : Int) ≤ (n : Int) by omega)] at h4
    simp only [Bool.or_eq_false_iff, decide_eq_false_iff_not] at h4
    have h28 : 28 ≤ n := by omega
    have hm4 : n % 4 = 0 := by omega
    have e4 : ((n : Int) - 4).toNat = n - 4 := by omega
    obtain ⟨k, on, vb, vq, vl, vc⟩ := v
    obtain ⟨e1, e2⟩ : k ≤ (nsOf ((l.drop i).take n)).length ∧ Grw ((nsOf ((l.drop i).take n)).take k) vl on k vc := hv
    rw [hRl] at e1
    have h5 : ¬ 4 * (k : Int) + 4 < (n : Int) := of_decide_eq_false h5
    have hk : k = (n - 4) / 4 := by omega
    have hk4 : 4 * k = n - 4 := by omega
    have hg : ∀ t, t < k → vl.getD t 0 = (nsOf ((l.drop i).take n)).getD t 0 := by
      intro t ht
      rw [← tk_at (l := vl) (n := k) ht, e2.2.1, tk_at ht]
    have hon : on = true := on_of e2.2.2.2.2 (by omega)
    have hvl : k ≤ vl.length := Nat.le_trans e2.2.2.1 e2.2.2.2.1
    have htd : ((k : Int) - 6).tdiv 2 = ((k : Int) - 6) / 2 := Int.tdiv_eq_ediv_of_nonneg (by omega)
    have h6 : ¬ ((k : Int) - 6).tdiv 2 < vl.getD 4 0 := of_decide_eq_false h6
    rw [htd, hg 4 (by omega)] at h6
    have hu4 := ns_u32 (bv := ((l.drop i).take n)) hb 4
    obtain ⟨hB, hB2⟩ := nB_of (R := (nsOf ((l.drop i).take n))) (by rw [hRl]; omega) hu4.1 (by omega)
    obtain ⟨j, won, wb, wq, wl, wc⟩ := w
    obtain ⟨f1, f2, f3, f4⟩ : j ≤ nB (nsOf ((l.drop i).take n)) ∧ Grw (wl.take j) wl won j wc ∧ (wl.take j).map (·.l) = (blks (nsOf ((l.drop i).take n)) j).map lst ∧ ∀ r ∈ wl.take j, Rok r := hw
    have h7 : ¬ (j : Int) < vl.getD 4 0 := of_decide_eq_false h7
    rw [hg 4 (by omega), hB] at h7
    have hj : j = nB (nsOf ((l.drop i).take n)) := by omega
    have ht9 : ((k : Int) - (5 + 2 * (j : Int) + 1)).tdiv 9 = ((k : Int) - (5 + 2 * (j : Int) + 1)) / 9 := Int.tdiv_eq_ediv_of_nonneg (by omega)
    have q1 : vl.getD ((5 + 2 * (j : Int)).toNat + 0) 0 = (nsOf ((l.drop i).take n)).getD (5 + 2 * nB (nsOf ((l.drop i).take n))) 0 := by rw [show (5 + 2 * (j : Int)).toNat + 0 = 5 + 2 * nB (nsOf ((l.drop i).take n)) by omega]; exact hg _ (by omega)
    have hu5 := ns_u32 (bv := ((l.drop i).take n)) hb (5 + 2 * nB (nsOf ((l.drop i).take n)))
    have h8 : (decide (((k : Int) - (5 + 2 * (j : Int) + 1)).tdiv 9 < vl.getD ((5 + 2 * (j : Int)).toNat + 0) 0) || decide (5 + 2 * (j : Int) + 1 + 9 * vl.getD ((5 + 2 * (j : Int)).toNat + 0) 0 ≠ (k : Int))) = false := h8
    rw [ht9, q1] at h8
    simp only [Bool.or_eq_false_iff, decide_eq_false_iff_not] at h8
    obtain ⟨hS, hS2⟩ := nS_of (R := (nsOf ((l.drop i).take n))) (by omega) hu5.1 (by omega)
    obtain ⟨s, uon, ub, uq, ul, uc⟩ := u
    obtain ⟨d1, d2⟩ : s ≤ nS (nsOf ((l.drop i).take n)) ∧ Grw (slts (nsOf ((l.drop i).take n)) s) ul uon s uc := hu
    have h9 : (s : Int) < vl.getD ((5 + 2 * (j : Int)).toNat + 0) 0 := of_decide_eq_true h9
    rw [q1, hS] at h9
    show (6 + 2 * (nB (nsOf ((l.drop i).take n)) : Int) + 9 * (s : Int) + 7).toNat + 0 < vl.length
    omega
  · rename_i b0 h4 v hv h5 bp h6 w hw h7 h8 u hu h9 bs
    have h4 : (decide ((n : Int) < 28) || decide ((n : Int).tmod 4 ≠ 0) || decide (nm l (((n : Int) - 4).toNat + i) ≠ crc ((l.drop i).take ((n : Int) - 4).toNat))) = false := h4
    rw [Int.tmod_eq_emod_of_nonneg (show (0 : Int) ≤ (n : Int) by omega)] at h4
    simp only [Bool.or_eq_false_iff, decide_eq_false_iff_not] at h4
    have h28 : 28 ≤ n := by omega
    have hm4 : n % 4 = 0 := by omega
    have e4 : ((n : Int) - 4).toNat = n - 4 := by omega
    obtain ⟨k, on, vb, vq, vl, vc⟩ := v
    obtain ⟨e1, e2⟩ : k ≤ (nsOf ((l.drop i).take n)).length ∧ Grw ((nsOf ((l.drop i).take n)).take k) vl on k vc := hv
    rw [hRl] at e1
    have h5 : ¬ 4 * (k : Int) + 4 < (n : Int) := of_decide_eq_false h5
    have hk : k = (n - 4) / 4 := by omega
    have hk4 : 4 * k = n - 4 := by omega
    have hg : ∀ t, t < k → vl.getD t 0 = (nsOf ((l.drop i).take n)).getD t 0 := by
      intro t ht
      rw [← tk_at (l := vl) (n := k) ht, e2.2.1, tk_at ht]
    have hon : on = true := on_of e2.2.2.2.2 (by omega)
    have hvl : k ≤ vl.length := Nat.le_trans e2.2.2.1 e2.2.2.2.1
    have htd : ((k : Int) - 6).tdiv 2 = ((k : Int) - 6) / 2 := Int.tdiv_eq_ediv_of_nonneg (by omega)
    have h6 : ¬ ((k : Int) - 6).tdiv 2 < vl.getD 4 0 := of_decide_eq_false h6
    rw [htd, hg 4 (by omega)] at h6
    have hu4 := ns_u32 (bv := ((l.drop i).take n)) hb 4
    obtain ⟨hB, hB2⟩ := nB_of (R := (nsOf ((l.drop i).take n))) (by rw [hRl]; omega) hu4.1 (by omega)
    obtain ⟨j, won, wb, wq, wl, wc⟩ := w
    obtain ⟨f1, f2, f3, f4⟩ : j ≤ nB (nsOf ((l.drop i).take n)) ∧ Grw (wl.take j) wl won j wc ∧ (wl.take j).map (·.l) = (blks (nsOf ((l.drop i).take n)) j).map lst ∧ ∀ r ∈ wl.take j, Rok r := hw
    have h7 : ¬ (j : Int) < vl.getD 4 0 := of_decide_eq_false h7
    rw [hg 4 (by omega), hB] at h7
    have hj : j = nB (nsOf ((l.drop i).take n)) := by omega
    have ht9 : ((k : Int) - (5 + 2 * (j : Int) + 1)).tdiv 9 = ((k : Int) - (5 + 2 * (j : Int) + 1)) / 9 := Int.tdiv_eq_ediv_of_nonneg (by omega)
    have q1 : vl.getD ((5 + 2 * (j : Int)).toNat + 0) 0 = (nsOf ((l.drop i).take n)).getD (5 + 2 * nB (nsOf ((l.drop i).take n))) 0 := by rw [show (5 + 2 * (j : Int)).toNat + 0 = 5 + 2 * nB (nsOf ((l.drop i).take n)) by omega]; exact hg _ (by omega)
    have hu5 := ns_u32 (bv := ((l.drop i).take n)) hb (5 + 2 * nB (nsOf ((l.drop i).take n)))
    have h8 : (decide (((k : Int) - (5 + 2 * (j : Int) + 1)).tdiv 9 < vl.getD ((5 + 2 * (j : Int)).toNat + 0) 0) || decide (5 + 2 * (j : Int) + 1 + 9 * vl.getD ((5 + 2 * (j : Int)).toNat + 0) 0 ≠ (k : Int))) = false := h8
    rw [ht9, q1] at h8
    simp only [Bool.or_eq_false_iff, decide_eq_false_iff_not] at h8
    obtain ⟨hS, hS2⟩ := nS_of (R := (nsOf ((l.drop i).take n))) (by omega) hu5.1 (by omega)
    obtain ⟨s, uon, ub, uq, ul, uc⟩ := u
    obtain ⟨d1, d2⟩ : s ≤ nS (nsOf ((l.drop i).take n)) ∧ Grw (slts (nsOf ((l.drop i).take n)) s) ul uon s uc := hu
    have h9 : (s : Int) < vl.getD ((5 + 2 * (j : Int)).toNat + 0) 0 := of_decide_eq_true h9
    rw [q1, hS] at h9
    exact inR64 (by show _ ≤ 6 + 2 * (nB (nsOf ((l.drop i).take n)) : Int) + 9 * (s : Int) + 8; omega) (by show 6 + 2 * (nB (nsOf ((l.drop i).take n)) : Int) + 9 * (s : Int) + 8 ≤ _; omega)
  · rename_i b0 h4 v hv h5 bp h6 w hw h7 h8 u hu h9 bs
    have h4 : (decide ((n : Int) < 28) || decide ((n : Int).tmod 4 ≠ 0) || decide (nm l (((n : Int) - 4).toNat + i) ≠ crc ((l.drop i).take ((n : Int) - 4).toNat))) = false := h4
    rw [Int.tmod_eq_emod_of_nonneg (show (0 : Int) ≤ (n : Int) by omega)] at h4
    simp only [Bool.or_eq_false_iff, decide_eq_false_iff_not] at h4
    have h28 : 28 ≤ n := by omega
    have hm4 : n % 4 = 0 := by omega
    have e4 : ((n : Int) - 4).toNat = n - 4 := by omega
    obtain ⟨k, on, vb, vq, vl, vc⟩ := v
    obtain ⟨e1, e2⟩ : k ≤ (nsOf ((l.drop i).take n)).length ∧ Grw ((nsOf ((l.drop i).take n)).take k) vl on k vc := hv
    rw [hRl] at e1
    have h5 : ¬ 4 * (k : Int) + 4 < (n : Int) := of_decide_eq_false h5
    have hk : k = (n - 4) / 4 := by omega
    have hk4 : 4 * k = n - 4 := by omega
    have hg : ∀ t, t < k → vl.getD t 0 = (nsOf ((l.drop i).take n)).getD t 0 := by
      intro t ht
      rw [← tk_at (l := vl) (n := k) ht, e2.2.1, tk_at ht]
    have hon : on = true := on_of e2.2.2.2.2 (by omega)
    have hvl : k ≤ vl.length := Nat.le_trans e2.2.2.1 e2.2.2.2.1
    have htd : ((k : Int) - 6).tdiv 2 = ((k : Int) - 6) / 2 := Int.tdiv_eq_ediv_of_nonneg (by omega)
    have h6 : ¬ ((k : Int) - 6).tdiv 2 < vl.getD 4 0 := of_decide_eq_false h6
    rw [htd, hg 4 (by omega)] at h6
    have hu4 := ns_u32 (bv := ((l.drop i).take n)) hb 4
    obtain ⟨hB, hB2⟩ := nB_of (R := (nsOf ((l.drop i).take n))) (by rw [hRl]; omega) hu4.1 (by omega)
    obtain ⟨j, won, wb, wq, wl, wc⟩ := w
    obtain ⟨f1, f2, f3, f4⟩ : j ≤ nB (nsOf ((l.drop i).take n)) ∧ Grw (wl.take j) wl won j wc ∧ (wl.take j).map (·.l) = (blks (nsOf ((l.drop i).take n)) j).map lst ∧ ∀ r ∈ wl.take j, Rok r := hw
    have h7 : ¬ (j : Int) < vl.getD 4 0 := of_decide_eq_false h7
    rw [hg 4 (by omega), hB] at h7
    have hj : j = nB (nsOf ((l.drop i).take n)) := by omega
    have ht9 : ((k : Int) - (5 + 2 * (j : Int) + 1)).tdiv 9 = ((k : Int) - (5 + 2 * (j : Int) + 1)) / 9 := Int.tdiv_eq_ediv_of_nonneg (by omega)
    have q1 : vl.getD ((5 + 2 * (j : Int)).toNat + 0) 0 = (nsOf ((l.drop i).take n)).getD (5 + 2 * nB (nsOf ((l.drop i).take n))) 0 := by rw [show (5 + 2 * (j : Int)).toNat + 0 = 5 + 2 * nB (nsOf ((l.drop i).take n)) by omega]; exact hg _ (by omega)
    have hu5 := ns_u32 (bv := ((l.drop i).take n)) hb (5 + 2 * nB (nsOf ((l.drop i).take n)))
    have h8 : (decide (((k : Int) - (5 + 2 * (j : Int) + 1)).tdiv 9 < vl.getD ((5 + 2 * (j : Int)).toNat + 0) 0) || decide (5 + 2 * (j : Int) + 1 + 9 * vl.getD ((5 + 2 * (j : Int)).toNat + 0) 0 ≠ (k : Int))) = false := h8
    rw [ht9, q1] at h8
    simp only [Bool.or_eq_false_iff, decide_eq_false_iff_not] at h8
    obtain ⟨hS, hS2⟩ := nS_of (R := (nsOf ((l.drop i).take n))) (by omega) hu5.1 (by omega)
    obtain ⟨s, uon, ub, uq, ul, uc⟩ := u
    obtain ⟨d1, d2⟩ : s ≤ nS (nsOf ((l.drop i).take n)) ∧ Grw (slts (nsOf ((l.drop i).take n)) s) ul uon s uc := hu
    have h9 : (s : Int) < vl.getD ((5 + 2 * (j : Int)).toNat + 0) 0 := of_decide_eq_true h9
    rw [q1, hS] at h9
    exact hon
  · rename_i b0 h4 v hv h5 bp h6 w hw h7 h8 u hu h9 bs
    have h4 : (decide ((n : Int) < 28) || decide ((n : Int).tmod 4 ≠ 0) || decide (nm l (((n : Int) - 4).toNat + i) ≠ crc ((l.drop i).take ((n : Int) - 4).toNat))) = false := h4
    rw [Int.tmod_eq_emod_of_nonneg (show (0 : Int) ≤ (n : Int) by omega)] at h4
    simp only [Bool.or_eq_false_iff, decide_eq_false_iff_not] at h4
    have h28 : 28 ≤ n := by omega
    have hm4 : n % 4 = 0 := by omega
    have e4 : ((n : Int) - 4).toNat = n - 4 := by omega
    obtain ⟨k, on, vb, vq, vl, vc⟩ := v
    obtain ⟨e1, e2⟩ : k ≤ (nsOf ((l.drop i).take n)).length ∧ Grw ((nsOf ((l.drop i).take n)).take k) vl on k vc := hv
    rw [hRl] at e1
    have h5 : ¬ 4 * (k : Int) + 4 < (n : Int) := of_decide_eq_false h5
    have hk : k = (n - 4) / 4 := by omega
    have hk4 : 4 * k = n - 4 := by omega
    have hg : ∀ t, t < k → vl.getD t 0 = (nsOf ((l.drop i).take n)).getD t 0 := by
      intro t ht
      rw [← tk_at (l := vl) (n := k) ht, e2.2.1, tk_at ht]
    have hon : on = true := on_of e2.2.2.2.2 (by omega)
    have hvl : k ≤ vl.length := Nat.le_trans e2.2.2.1 e2.2.2.2.1
    have htd : ((k : Int) - 6).tdiv 2 = ((k : Int) - 6) / 2 := Int.tdiv_eq_ediv_of_nonneg (by omega)
    have h6 : ¬ ((k : Int) - 6).tdiv 2 < vl.getD 4 0 := of_decide_eq_false h6
    rw [htd, hg 4 (by omega)] at h6
    have hu4 := ns_u32 (bv := ((l.drop i).take n)) hb 4
    obtain ⟨hB, hB2⟩ := nB_of (R := (nsOf ((l.drop i).take n))) (by rw [hRl]; omega) hu4.1 (by omega)
    obtain ⟨j, won, wb, wq, wl, wc⟩ := w
    obtain ⟨f1, f2, f3, f4⟩ : j ≤ nB (nsOf ((l.drop i).take n)) ∧ Grw (wl.take j) wl won j wc ∧ (wl.take j).map (·.l) = (blks (nsOf ((l.drop i).take n)) j).map lst ∧ ∀ r ∈ wl.take j, Rok r := hw
    have h7 : ¬ (j : Int) < vl.getD 4 0 := of_decide_eq_false h7
    rw [hg 4 (by omega), hB] at h7
    have hj : j = nB (nsOf ((l.drop i).take n)) := by omega
    have ht9 : ((k : Int) - (5 + 2 * (j : Int) + 1)).tdiv 9 = ((k : Int) - (5 + 2 * (j : Int) + 1)) / 9 := Int.tdiv_eq_ediv_of_nonneg (by omega)
    have q1 : vl.getD ((5 + 2 * (j : Int)).toNat + 0) 0 = (nsOf ((l.drop i).take n)).getD (5 + 2 * nB (nsOf ((l.drop i).take n))) 0 := by rw [show (5 + 2 * (j : Int)).toNat + 0 = 5 + 2 * nB (nsOf ((l.drop i).take n)) by omega]; exact hg _ (by omega)
    have hu5 := ns_u32 (bv := ((l.drop i).take n)) hb (5 + 2 * nB (nsOf ((l.drop i).take n)))
    have h8 : (decide (((k : Int) - (5 + 2 * (j : Int) + 1)).tdiv 9 < vl.getD ((5 + 2 * (j : Int)).toNat + 0) 0) || decide (5 + 2 * (j : Int) + 1 + 9 * vl.getD ((5 + 2 * (j : Int)).toNat + 0) 0 ≠ (k : Int))) = false := h8
    rw [ht9, q1] at h8
    simp only [Bool.or_eq_false_iff, decide_eq_false_iff_not] at h8
    obtain ⟨hS, hS2⟩ := nS_of (R := (nsOf ((l.drop i).take n))) (by omega) hu5.1 (by omega)
    obtain ⟨s, uon, ub, uq, ul, uc⟩ := u
    obtain ⟨d1, d2⟩ : s ≤ nS (nsOf ((l.drop i).take n)) ∧ Grw (slts (nsOf ((l.drop i).take n)) s) ul uon s uc := hu
    have h9 : (s : Int) < vl.getD ((5 + 2 * (j : Int)).toNat + 0) 0 := of_decide_eq_true h9
    rw [q1, hS] at h9
    show 6 + 2 * (nB (nsOf ((l.drop i).take n)) : Int) + 9 * (s : Int) + 8 < (k : Int)
    omega
  · rename_i b0 h4 v hv h5 bp h6 w hw h7 h8 u hu h9 bs
    have h4 : (decide ((n : Int) < 28) || decide ((n : Int).tmod 4 ≠ 0) || decide (nm l (((n : Int) - 4).toNat + i) ≠ crc ((l.drop i).take ((n : Int) - 4).toNat))) = false := h4
    rw [Int.tmod_eq_emod_of_nonneg (show (0 : Int) ≤ (n : Int) by omega)] at h4
    simp only [Bool.or_eq_false_iff, decide_eq_false_iff_not] at h4
    have h28 : 28 ≤ n := by omega
    have hm4 : n % 4 = 0 := by omega
    have e4 : ((n : Int) - 4).toNat = n - 4 := by omega
    obtain ⟨k, on, vb, vq, vl, vc⟩ := v
    obtain ⟨e1, e2⟩ : k ≤ (nsOf ((l.drop i).take n)).length ∧ Grw ((nsOf ((l.drop i).take n)).take k) vl on k vc := hv
    rw [hRl] at e1
    have h5 : ¬ 4 * (k : Int) + 4 < (n : Int) := of_decide_eq_false h5
    have hk : k = (n - 4) / 4 := by omega
    have hk4 : 4 * k = n - 4 := by omega
    have hg : ∀ t, t < k → vl.getD t 0 = (nsOf ((l.drop i).take n)).getD t 0 := by
      intro t ht
      rw [← tk_at (l := vl) (n := k) ht, e2.2.1, tk_at ht]
    have hon : on = true := on_of e2.2.2.2.2 (by omega)
    have hvl : k ≤ vl.length := Nat.le_trans e2.2.2.1 e2.2.2.2.1
    have htd : ((k : Int) - 6).tdiv 2 = ((k : Int) - 6) / 2 := Int.tdiv_eq_ediv_of_nonneg (by omega)
    have h6 : ¬ ((k : Int) - 6).tdiv 2 < vl.getD 4 0 := of_decide_eq_false h6
    rw [htd, hg 4 (by omega)] at h6
    have hu4 := ns_u32 (bv := ((l.drop i).take n)) hb 4
    obtain ⟨hB, hB2⟩ := nB_of (R := (nsOf ((l.drop i).take n))) (by rw [hRl]; omega) hu4.1 (by omega)
    obtain ⟨j, won, wb, wq, wl, wc⟩ := w
    obtain ⟨f1, f2, f3, f4⟩ : j ≤ nB (nsOf ((l.drop i).take n)) ∧ Grw (wl.take j) wl won j wc ∧ (wl.take j).map (·.l) = (blks (nsOf ((l.drop i).take n)) j).map lst ∧ ∀ r ∈ wl.take j, Rok r := hw
    have h7 : ¬ (j : Int) < vl.getD 4 0 := of_decide_eq_false h7
    rw [hg 4 (by omega), hB] at h7
    have hj : j = nB (nsOf ((l.drop i).take n)) := by omega
    have ht9 : ((k : Int) - (5 + 2 * (j : Int) + 1)).tdiv 9 = ((k : Int) - (5 + 2 * (j : Int) + 1)) / 9 := Int.tdiv_eq_ediv_of_nonneg (by omega)
    have q1 : vl.getD ((5 + 2 * (j : Int)).toNat + 0) 0 = (nsOf ((l.drop i).take n)).getD (5 + 2 * nB (nsOf ((l.drop i).take n))) 0 := by rw [show (5 + 2 * (j : Int)).toNat + 0 = 5 + 2 * nB (nsOf ((l.drop i).take n)) by omega]; exact hg _ (by omega)
    have hu5 := ns_u32 (bv := ((l.drop i).take n)) hb (5 + 2 * nB (nsOf ((l.drop i).take n)))
    have h8 : (decide (((k : Int) - (5 + 2 * (j : Int) + 1)).tdiv 9 < vl.getD ((5 + 2 * (j : Int)).toNat + 0) 0) || decide (5 + 2 * (j : Int) + 1 + 9 * vl.getD ((5 + 2 * (j : Int)).toNat + 0) 0 ≠ (k : Int))) = false := h8
    rw [ht9, q1] at h8
    simp only [Bool.or_eq_false_iff, decide_eq_false_iff_not] at h8
    obtain ⟨hS, hS2⟩ := nS_of (R := (nsOf ((l.drop i).take n))) (by omega) hu5.1 (by omega)
    obtain ⟨s, uon, ub, uq, ul, uc⟩ := u
    obtain ⟨d1, d2⟩ : s ≤ nS (nsOf ((l.drop i).take n)) ∧ Grw (slts (nsOf ((l.drop i).take n)) s) ul uon s uc := hu
    have h9 : (s : Int) < vl.getD ((5 + 2 * (j : Int)).toNat + 0) 0 := of_decide_eq_true h9
    rw [q1, hS] at h9
    exact hon
  · rename_i b0 h4 v hv h5 bp h6 w hw h7 h8 u hu h9 bs
    have h4 : (decide ((n : Int) < 28) || decide ((n : Int).tmod 4 ≠ 0) || decide (nm l (((n : Int) - 4).toNat + i) ≠ crc ((l.drop i).take ((n : Int) - 4).toNat))) = false := h4
    rw [Int.tmod_eq_emod_of_nonneg (show (0 : Int) ≤ (n : Int) by omega)] at h4
    simp only [Bool.or_eq_false_iff, decide_eq_false_iff_not] at h4
    have h28 : 28 ≤ n := by omega
    have hm4 : n % 4 = 0 := by omega
    have e4 : ((n : Int) - 4).toNat = n - 4 := by omega
    obtain ⟨k, on, vb, vq, vl, vc⟩ := v
    obtain ⟨e1, e2⟩ : k ≤ (nsOf ((l.drop i).take n)).length ∧ Grw ((nsOf ((l.drop i).take n)).take k) vl on k vc := hv
    rw [hRl] at e1
    have h5 : ¬ 4 * (k : Int) + 4 < (n : Int) := of_decide_eq_false h5
    have hk : k = (n - 4) / 4 := by omega
    have hk4 : 4 * k = n - 4 := by omega
    have hg : ∀ t, t < k → vl.getD t 0 = (nsOf ((l.drop i).take n)).getD t 0 := by
      intro t ht
      rw [← tk_at (l := vl) (n := k) ht, e2.2.1, tk_at ht]
    have hon : on = true := on_of e2.2.2.2.2 (by omega)
    have hvl : k ≤ vl.length := Nat.le_trans e2.2.2.1 e2.2.2.2.1
    have htd : ((k : Int) - 6).tdiv 2 = ((k : Int) - 6) / 2 := Int.tdiv_eq_ediv_of_nonneg (by omega)
    have h6 : ¬ ((k : Int) - 6).tdiv 2 < vl.getD 4 0 := of_decide_eq_false h6
    rw [htd, hg 4 (by omega)] at h6
    have hu4 := ns_u32 (bv := ((l.drop i).take n)) hb 4
    obtain ⟨hB, hB2⟩ := nB_of (R := (nsOf ((l.drop i).take n))) (by rw [hRl]; omega) hu4.1 (by omega)
    obtain ⟨j, won, wb, wq, wl, wc⟩ := w
    obtain ⟨f1, f2, f3, f4⟩ : j ≤ nB (nsOf ((l.drop i).take n)) ∧ Grw (wl.take j) wl won j wc ∧ (wl.take j).map (·.l) = (blks (nsOf ((l.drop i).take n)) j).map lst ∧ ∀ r ∈ wl.take j, Rok r := hw
    have h7 : ¬ (j : Int) < vl.getD 4 0 := of_decide_eq_false h7
    rw [hg 4 (by omega), hB] at h7
    have hj : j = nB (nsOf ((l.drop i).take n)) := by omega
    have ht9 : ((k : Int) - (5 + 2 * (j : Int) + 1)).tdiv 9 = ((k : Int) - (5 + 2 * (j : Int) + 1)) / 9 := Int.tdiv_eq_ediv_of_nonneg (by omega)
    have q1 : vl.getD ((5 + 2 * (j : Int)).toNat + 0) 0 = (nsOf ((l.drop i).take n)).getD (5 + 2 * nB (nsOf ((l.drop i).take n))) 0 := by rw [show (5 + 2 * (j : Int)).toNat + 0 = 5 + 2 * nB (nsOf ((l.drop i).take n)) by omega]; exact hg _ (by omega)
    have hu5 := ns_u32 (bv := ((l.drop i).take n)) hb (5 + 2 * nB (nsOf ((l.drop i).take n)))
    have h8 : (decide (((k : Int) - (5 + 2 * (j : Int) + 1)).tdiv 9 < vl.getD ((5 + 2 * (j : Int)).toNat + 0) 0) || decide (5 + 2 * (j : Int) + 1 + 9 * vl.getD ((5 + 2 * (j : Int)).toNat + 0) 0 ≠ (k : Int))) = false := h8
    rw [ht9, q1] at h8
    simp only [Bool.or_eq_false_iff, decide_eq_false_iff_not] at h8
    obtain ⟨hS, hS2⟩ := nS_of (R := (nsOf ((l.drop i).take n))) (by omega) hu5.1 (by omega)
    obtain ⟨s, uon, ub, uq, ul, uc⟩ := u
    obtain ⟨d1, d2⟩ : s ≤ nS (nsOf ((l.drop i).take n)) ∧ Grw (slts (nsOf ((l.drop i).take n)) s) ul uon s uc := hu
    have h9 : (s : Int) < vl.getD ((5 + 2 * (j : Int)).toNat + 0) 0 := of_decide_eq_true h9
    rw [q1, hS] at h9
    show (6 + 2 * (nB (nsOf ((l.drop i).take n)) : Int) + 9 * (s : Int) + 8).toNat + 0 < vl.length
    omega
  · rename_i b0 h4 v hv h5 bp h6 w hw h7 h8 u hu h9 bs bk
    have h4 : (decide ((n : Int) < 28) || decide ((n : Int).tmod 4 ≠ 0) || decide (nm l (((n : Int) - 4).toNat + i) ≠ crc ((l.drop i).take ((n : Int) - 4).toNat))) = false := h4
    rw [Int.tmod_eq_emod_of_nonneg (show (0 : Int) ≤ (n : Int) by omega)] at h4
    simp only [Bool.or_eq_false_iff, decide_eq_false_iff_not] at h4
    have h28 : 28 ≤ n := by omega
    have hm4 : n % 4 = 0 := by omega
    have e4 : ((n : Int) - 4).toNat = n - 4 := by omega
    obtain ⟨k, on, vb, vq, vl, vc⟩ := v
    obtain ⟨e1, e2⟩ : k ≤ (nsOf ((l.drop i).take n)).length ∧ Grw ((nsOf ((l.drop i).take n)).take k) vl on k vc := hv
    rw [hRl] at e1
    have h5 : ¬ 4 * (k : Int) + 4 < (n : Int) := of_decide_eq_false h5
    have hk : k = (n - 4) / 4 := by omega
    have hk4 : 4 * k = n - 4 := by omega
    have hg : ∀ t, t < k → vl.getD t 0 = (nsOf ((l.drop i).take n)).getD t 0 := by
      intro t ht
      rw [← tk_at (l := vl) (n := k) ht, e2.2.1, tk_at ht]
    have hon : on = true := on_of e2.2.2.2.2 (by omega)
    have hvl : k ≤ vl.length := Nat.le_trans e2.2.2.1 e2.2.2.2.1
    have htd : ((k : Int) - 6).tdiv 2 = ((k : Int) - 6) / 2 := Int.tdiv_eq_ediv_of_nonneg (by omega)
    have h6 : ¬ ((k : Int) - 6).tdiv 2 < vl.getD 4 0 := of_decide_eq_false h6
    rw [htd, hg 4 (by omega)] at h6
    have hu4 := ns_u32 (bv := ((l.drop i).take n)) hb 4
    obtain ⟨hB, hB2⟩ := nB_of (R := (nsOf ((l.drop i).take n))) (by rw [hRl]; omega) hu4.1 (by omega)
    obtain ⟨j, won, wb, wq, wl, wc⟩ := w
    obtain ⟨f1, f2, f3, f4⟩ : j ≤ nB (nsOf ((l.drop i).take n)) ∧ Grw (wl.take j) wl won j wc ∧ (wl.take j).map (·.l) = (blks (nsOf ((l.drop i).take n)) j).map lst ∧ ∀ r ∈ wl.take j, Rok r := hw
    have h7 : ¬ (j : Int) < vl.getD 4 0 := of_decide_eq_false h7
    rw [hg 4 (by omega), hB] at h7
    have hj : j = nB (nsOf ((l.drop i).take n)) := by omega
    have ht9 : ((k : Int) - (5 + 2 * (j : Int) + 1)).tdiv 9 = ((k : Int) - (5 + 2 * (j : Int) + 1)) / 9 := Int.tdiv_eq_ediv_of_nonneg (by omega)
    have q1 : vl.getD ((5 + 2 * (j : Int)).toNat + 0) 0 = (nsOf ((l.drop i).take n)).getD (5 + 2 * nB (nsOf ((l.drop i).take n))) 0 := by rw [show (5 + 2 * (j : Int)).toNat + 0 = 5 + 2 * nB (nsOf ((l.drop i).take n)) by omega]; exact hg _ (by omega)
    have hu5 := ns_u32 (bv := ((l.drop i).take n)) hb (5 + 2 * nB (nsOf ((l.drop i).take n)))
    have h8 : (decide (((k : Int) - (5 + 2 * (j : Int) + 1)).tdiv 9 < vl.getD ((5 + 2 * (j : Int)).toNat + 0) 0) || decide (5 + 2 * (j : Int) + 1 + 9 * vl.getD ((5 + 2 * (j : Int)).toNat + 0) 0 ≠ (k : Int))) = false := h8
    rw [ht9, q1] at h8
    simp only [Bool.or_eq_false_iff, decide_eq_false_iff_not] at h8
    obtain ⟨hS, hS2⟩ := nS_of (R := (nsOf ((l.drop i).take n))) (by omega) hu5.1 (by omega)
    obtain ⟨s, uon, ub, uq, ul, uc⟩ := u
    obtain ⟨d1, d2⟩ : s ≤ nS (nsOf ((l.drop i).take n)) ∧ Grw (slts (nsOf ((l.drop i).take n)) s) ul uon s uc := hu
    have h9 : (s : Int) < vl.getD ((5 + 2 * (j : Int)).toNat + 0) 0 := of_decide_eq_true h9
    rw [q1, hS] at h9
    obtain ⟨k1, k2, k3, k4, k5⟩ := d2
    rw [by74]
    exact ⟨k3, by show 0 + uc ≤ ul.length; omega, Nat.le_refl 1, by show (s + 1) * 72 ≤ _; omega⟩
  · rename_i b0 h4 v hv h5 bp h6 w hw h7 h8 u hu h9 bs bk
    have h4 : (decide ((n : Int) < 28) || decide ((n : Int).tmod 4 ≠ 0) || decide (nm l (((n : Int) - 4).toNat + i) ≠ crc ((l.drop i).take ((n : Int) - 4).toNat))) = false := h4
    rw [Int.tmod_eq_emod_of_nonneg (show (0 : Int) ≤ (n : Int) by omega)] at h4
    simp only [Bool.or_eq_false_iff, decide_eq_false_iff_not] at h4
    have h28 : 28 ≤ n := by omega
    have hm4 : n % 4 = 0 := by omega
    have e4 : ((n : Int) - 4).toNat = n - 4 := by omega
    obtain ⟨k, on, vb, vq, vl, vc⟩ := v
    obtain ⟨e1, e2⟩ : k ≤ (nsOf ((l.drop i).take n)).length ∧ Grw ((nsOf ((l.drop i).take n)).take k) vl on k vc := hv
    rw [hRl] at e1
    have h5 : ¬ 4 * (k : Int) + 4 < (n : Int) := of_decide_eq_false h5
    have hk : k = (n - 4) / 4 := by omega
    have hk4 : 4 * k = n - 4 := by omega
    have hg : ∀ t, t < k → vl.getD t 0 = (nsOf ((l.drop i).take n)).getD t 0 := by
      intro t ht
      rw [← tk_at (l := vl) (n := k) ht, e2.2.1, tk_at ht]
    have hon : on = true := on_of e2.2.2.2.2 (by omega)
    have hvl : k ≤ vl.length := Nat.le_trans e2.2.2.1 e2.2.2.2.1
    have htd : ((k : Int) - 6).tdiv 2 = ((k : Int) - 6) / 2 := Int.tdiv_eq_ediv_of_nonneg (by omega)
    have h6 : ¬ ((k : Int) - 6).tdiv 2 < vl.getD 4 0 := of_decide_eq_false h6
    rw [htd, hg 4 (by omega)] at h6
    have hu4 := ns_u32 (bv := ((l.drop i).take n)) hb 4
    obtain ⟨hB, hB2⟩ := nB_of (R := (nsOf ((l.drop i).take n))) (by rw [hRl]; omega) hu4.1 (by omega)
    obtain ⟨j, won, wb, wq, wl, wc⟩ := w
    obtain ⟨f1, f2, f3, f4⟩ : j ≤ nB (nsOf ((l.drop i).take n)) ∧ Grw (wl.take j) wl won j wc ∧ (wl.take j).map (·.l) = (blks (nsOf ((l.drop i).take n)) j).map lst ∧ ∀ r ∈ wl.take j, Rok r := hw
    have h7 : ¬ (j : Int) < vl.getD 4 0 := of_decide_eq_false h7
    rw [hg 4 (by omega), hB] at h7
    have hj : j = nB (nsOf ((l.drop i).take n)) := by omega
    have ht9 : ((k : Int) - (5 + 2 * (j : Int) + 1)).tdiv 9 = ((k : Int) - (5 + 2 * (j : Int) + 1)) / 9 := Int.tdiv_eq_ediv_of_nonneg (by omega)
    have q1 : vl.getD ((5 + 2 * (j : Int)).toNat + 0) 0 = (nsOf ((l.drop i).take n)).getD (5 + 2 * nB (nsOf ((l.drop i).take n))) 0 := by rw [show (5 + 2 * (j : Int)).toNat + 0 = 5 + 2 * nB (nsOf ((l.drop i).take n)) by omega]; exact hg _ (by omega)
    have hu5 := ns_u32 (bv := ((l.drop i).take n)) hb (5 + 2 * nB (nsOf ((l.drop i).take n)))
    have h8 : (decide (((k : Int) - (5 + 2 * (j : Int) + 1)).tdiv 9 < vl.getD ((5 + 2 * (j : Int)).toNat + 0) 0) || decide (5 + 2 * (j : Int) + 1 + 9 * vl.getD ((5 + 2 * (j : Int)).toNat + 0) 0 ≠ (k : Int))) = false := h8
    rw [ht9, q1] at h8
    simp only [Bool.or_eq_false_iff, decide_eq_false_iff_not] at h8
    obtain ⟨hS, hS2⟩ := nS_of (R := (nsOf ((l.drop i).take n))) (by omega) hu5.1 (by omega)
    obtain ⟨s, uon, ub, uq, ul, uc⟩ := u
    obtain ⟨d1, d2⟩ : s ≤ nS (nsOf ((l.drop i).take n)) ∧ Grw (slts (nsOf ((l.drop i).take n)) s) ul uon s uc := hu
    have h9 : (s : Int) < vl.getD ((5 + 2 * (j : Int)).toNat + 0) 0 := of_decide_eq_true h9
    rw [q1, hS] at h9
    exact d2.2.2.2.2
  · rename_i b0 h4 v hv h5 bp h6 w hw h7 h8 u hu h9 bs bk b9 q9 sp cap m1 m2
    have h4 : (decide ((n : Int) < 28) || decide ((n : Int).tmod 4 ≠ 0) || decide (nm l (((n : Int) - 4).toNat + i) ≠ crc ((l.drop i).take ((n : Int) - 4).toNat))) = false := h4
    rw [Int.tmod_eq_emod_of_nonneg (show (0 : Int) ≤ (n : Int) by omega)] at h4
    simp only [Bool.or_eq_false_iff, decide_eq_false_iff_not] at h4
    have h28 : 28 ≤ n := by omega
    have hm4 : n % 4 = 0 := by omega
    have e4 : ((n : Int) - 4).toNat = n - 4 := by omega
    obtain ⟨k, on, vb, vq, vl, vc⟩ := v
    obtain ⟨e1, e2⟩ : k ≤ (nsOf ((l.drop i).take n)).length ∧ Grw ((nsOf ((l.drop i).take n)).take k) vl on k vc := hv
    rw [hRl] at e1
    have h5 : ¬ 4 * (k : Int) + 4 < (n : Int) := of_decide_eq_false h5
    have hk : k = (n - 4) / 4 := by omega
    have hk4 : 4 * k = n - 4 := by omega
    have hg : ∀ t, t < k → vl.getD t 0 = (nsOf ((l.drop i).take n)).getD t 0 := by
      intro t ht
      rw [← tk_at (l := vl) (n := k) ht, e2.2.1, tk_at ht]
    have hon : on = true := on_of e2.2.2.2.2 (by omega)
    have hvl : k ≤ vl.length := Nat.le_trans e2.2.2.1 e2.2.2.2.1
    have htd : ((k : Int) - 6).tdiv 2 = ((k : Int) - 6) / 2 := Int.tdiv_eq_ediv_of_nonneg (by omega)
    have h6 : ¬ ((k : Int) - 6).tdiv 2 < vl.getD 4 0 := of_decide_eq_false h6
    rw [htd, hg 4 (by omega)] at h6
    have hu4 := ns_u32 (bv := ((l.drop i).take n)) hb 4
    obtain ⟨hB, hB2⟩ := nB_of (R := (nsOf ((l.drop i).take n))) (by rw [hRl]; omega) hu4.1 (by omega)
    obtain ⟨j, won, wb, wq, wl, wc⟩ := w
    obtain ⟨f1, f2, f3, f4⟩ : j ≤ nB (nsOf ((l.drop i).take n)) ∧ Grw (wl.take j) wl won j wc ∧ (wl.take j).map (·.l) = (blks (nsOf ((l.drop i).take n)) j).map lst ∧ ∀ r ∈ wl.take j, Rok r := hw
    have h7 : ¬ (j : Int) < vl.getD 4 0 := of_decide_eq_false h7
    rw [hg 4 (by omega), hB] at h7
    have hj : j = nB (nsOf ((l.drop i).take n)) := by omega
    have ht9 : ((k : Int) - (5 + 2 * (j : Int) + 1)).tdiv 9 = ((k : Int) - (5 + 2 * (j : Int) + 1)) / 9 := Int.tdiv_eq_ediv_of_nonneg (by omega)
    have q1 : vl.getD ((5 + 2 * (j : Int)).toNat + 0) 0 = (nsOf ((l.drop i).take n)).getD (5 + 2 * nB (nsOf ((l.drop i).take n))) 0 := by rw [show (5 + 2 * (j : Int)).toNat + 0 = 5 + 2 * nB (nsOf ((l.drop i).take n)) by omega]; exact hg _ (by omega)
    have hu5 := ns_u32 (bv := ((l.drop i).take n)) hb (5 + 2 * nB (nsOf ((l.drop i).take n)))
    have h8 : (decide (((k : Int) - (5 + 2 * (j : Int) + 1)).tdiv 9 < vl.getD ((5 + 2 * (j : Int)).toNat + 0) 0) || decide (5 + 2 * (j : Int) + 1 + 9 * vl.getD ((5 + 2 * (j : Int)).toNat + 0) 0 ≠ (k : Int))) = false := h8
    rw [ht9, q1] at h8
    simp only [Bool.or_eq_false_iff, decide_eq_false_iff_not] at h8
    obtain ⟨hS, hS2⟩ := nS_of (R := (nsOf ((l.drop i).take n))) (by omega) hu5.1 (by omega)
    obtain ⟨s, uon, ub, uq, ul, uc⟩ := u
    obtain ⟨d1, d2⟩ : s ≤ nS (nsOf ((l.drop i).take n)) ∧ Grw (slts (nsOf ((l.drop i).take n)) s) ul uon s uc := hu
    have h9 : (s : Int) < vl.getD ((5 + 2 * (j : Int)).toNat + 0) 0 := of_decide_eq_true h9
    rw [q1, hS] at h9
    exact inR64 (by show _ ≤ 6 + 2 * (nB (nsOf ((l.drop i).take n)) : Int) + 9 * (s : Int) + 9; omega) (by show 6 + 2 * (nB (nsOf ((l.drop i).take n)) : Int) + 9 * (s : Int) + 9 ≤ _; omega)
  · rename_i b0 h4 v hv h5 bp h6 w hw h7 h8 u hu h9 bs bk b9 q9 sp cap m1 m2
    have h4 : (decide ((n : Int) < 28) || decide ((n : Int).tmod 4 ≠ 0) || decide (nm l (((n : Int) - 4).toNat + i) ≠ crc ((l.drop i).take ((n : Int) - 4).toNat))) = false := h4
    rw [Int.tmod_eq_emod_of_nonneg (show (0 : Int) ≤ (n : Int) by omega)] at h4
    simp only [Bool.or_eq_false_iff, decide_eq_false_iff_not] at h4
    have h28 : 28 ≤ n := by omega
    have hm4 : n % 4 = 0 := by omega
    have e4 : ((n : Int) - 4).toNat = n - 4 := by omega
    obtain ⟨k, on, vb, vq, vl, vc⟩ := v
    obtain ⟨e1, e2⟩ : k ≤ (nsOf ((l.drop i).take n)).length ∧ Grw ((nsOf ((l.drop i).take n)).take k) vl on k vc := hv
    rw [hRl] at e1
    have h5 : ¬ 4 * (k : Int) + 4 < (n : Int) := of_decide_eq_false h5
    have hk : k = (n - 4) / 4 := by omega
    have hk4 : 4 * k = n - 4 := by omega
    have hg : ∀ t, t < k → vl.getD t 0 = (nsOf ((l.drop i).take n)).getD t 0 := by
      intro t ht
      rw [← tk_at (l := vl) (n := k) ht, e2.2.1, tk_at ht]
    have hon : on = true := on_of e2.2.2.2.2 (by omega)
    have hvl : k ≤ vl.length := Nat.le_trans e2.2.2.1 e2.2.2.2.1
    have htd : ((k : Int) - 6).tdiv 2 = ((k : Int) - 6) / 2 := Int.tdiv_eq_ediv_of_nonneg (by omega)
    have h6 : ¬ ((k : Int) - 6).tdiv 2 < vl.getD 4 0 := of_decide_eq_false h6
    rw [htd, hg 4 (by omega)] at h6
    have hu4 := ns_u32 (bv := ((l.drop i).take n)) hb 4
    obtain ⟨hB, hB2⟩ := nB_of (R := (nsOf ((l.drop i).take n))) (by rw [hRl]; omega) hu4.1 (by omega)
    obtain ⟨j, won, wb, wq, wl, wc⟩ := w
    obtain ⟨f1, f2, f3, f4⟩ : j ≤ nB (nsOf ((l.drop i).take n)) ∧ Grw (wl.take j) wl won j wc ∧ (wl.take j).map (·.l) = (blks (nsOf ((l.drop i).take n)) j).map lst ∧ ∀ r ∈ wl.take j, Rok r := hw
    have h7 : ¬ (j : Int) < vl.getD 4 0 := of_decide_eq_false h7
    rw [hg 4 (by omega), hB] at h7
    have hj : j = nB (nsOf ((l.drop i).take n)) := by omega
    have ht9 : ((k : Int) - (5 + 2 * (j : Int) + 1)).tdiv 9 = ((k : Int) - (5 + 2 * (j : Int) + 1)) / 9 := Int.tdiv_eq_ediv_of_nonneg (by omega)
    have q1 : vl.getD ((5 + 2 * (j : Int)).toNat + 0) 0 = (nsOf ((l.drop i).take n)).getD (5 + 2 * nB (nsOf ((l.drop i).take n))) 0 := by rw [show (5 + 2 * (j : Int)).toNat + 0 = 5 + 2 * nB (nsOf ((l.drop i).take n)) by omega]; exact hg _ (by omega)
    have hu5 := ns_u32 (bv := ((l.drop i).take n)) hb (5 + 2 * nB (nsOf ((l.drop i).take n)))
    have h8 : (decide (((k : Int) - (5 + 2 * (j : Int) + 1)).tdiv 9 < vl.getD ((5 + 2 * (j : Int)).toNat + 0) 0) || decide (5 + 2 * (j : Int) + 1 + 9 * vl.getD ((5 + 2 * (j : Int)).toNat + 0) 0 ≠ (k : Int))) = false := h8
    rw [ht9, q1] at h8
    simp only [Bool.or_eq_false_iff, decide_eq_false_iff_not] at h8
    obtain ⟨hS, hS2⟩ := nS_of (R := (nsOf ((l.drop i).take n))) (by omega) hu5.1 (by omega)
    obtain ⟨s, uon, ub, uq, ul, uc⟩ := u
    obtain ⟨d1, d2⟩ : s ≤ nS (nsOf ((l.drop i).take n)) ∧ Grw (slts (nsOf ((l.drop i).take n)) s) ul uon s uc := hu
    have h9 : (s : Int) < vl.getD ((5 + 2 * (j : Int)).toNat + 0) 0 := of_decide_eq_true h9
    rw [q1, hS] at h9
    exact inR64 (by show _ ≤ (s : Int) + 1; omega) (by show (s : Int) + 1 ≤ _; omega)
  · rename_i b0 h4 v hv h5 bp h6 w hw h7 h8 u hu h9 bs bk b9 q9 sp cap m1 m2
    have h4 : (decide ((n : Int) < 28) || decide ((n : Int).tmod 4 ≠ 0) || decide (nm l (((n : Int) - 4).toNat + i) ≠ crc ((l.drop i).take ((n : Int) - 4).toNat))) = false := h4
    rw [Int.tmod_eq_emod_of_nonneg (show (0 : Int) ≤ (n : Int) by omega)] at h4
    simp only [Bool.or_eq_false_iff, decide_eq_false_iff_not] at h4
    have h28 : 28 ≤ n := by omega
    have hm4 : n % 4 = 0 := by omega
    have e4 : ((n : Int) - 4).toNat = n - 4 := by omega
    obtain ⟨k, on, vb, vq, vl, vc⟩ := v
    obtain ⟨e1, e2⟩ : k ≤ (nsOf ((l.drop i).take n)).length ∧ Grw ((nsOf ((l.drop i).take n)).take k) vl on k vc := hv
    rw [hRl] at e1
    have h5 : ¬ 4 * (k : Int) + 4 < (n : Int) := of_decide_eq_false h5
    have hk : k = (n - 4) / 4 := by omega
    have hk4 : 4 * k = n - 4 := by omega
    have hg : ∀ t, t < k → vl.getD t 0 = (nsOf ((l.drop i).take n)).getD t 0 := by
      intro t ht
      rw [← tk_at (l := vl) (n := k) ht, e2.2.1, tk_at ht]
    have hon : on = true := on_of e2.2.2.2.2 (by omega)
    have hvl : k ≤ vl.length := Nat.le_trans e2.2.2.1 e2.2.2.2.1
    have htd : ((k : Int) - 6).tdiv 2 = ((k : Int) - 6) / 2 := Int.tdiv_eq_ediv_of_nonneg (by omega)
    have h6 : ¬ ((k : Int) - 6).tdiv 2 < vl.getD 4 0 := of_decide_eq_false h6
    rw [htd, hg 4 (by omega)] at h6
    have hu4 := ns_u32 (bv := ((l.drop i).take n)) hb 4
    obtain ⟨hB, hB2⟩ := nB_of (R := (nsOf ((l.drop i).take n))) (by rw [hRl]; omega) hu4.1 (by omega)
    obtain ⟨j, won, wb, wq, wl, wc⟩ := w
    obtain ⟨f1, f2, f3, f4⟩ : j ≤ nB (nsOf ((l.drop i).take n)) ∧ Grw (wl.take j) wl won j wc ∧ (wl.take j).map (·.l) = (blks (nsOf ((l.drop i).take n)) j).map lst ∧ ∀ r ∈ wl.take j, Rok r := hw
    have h7 : ¬ (j : Int) < vl.getD 4 0 := of_decide_eq_false h7
    rw [hg 4 (by omega), hB] at h7
    have hj : j = nB (nsOf ((l.drop i).take n)) := by omega
    have ht9 : ((k : Int) - (5 + 2 * (j : Int) + 1)).tdiv 9 = ((k : Int) - (5 + 2 * (j : Int) + 1)) / 9 := Int.tdiv_eq_ediv_of_nonneg (by omega)
    have q1 : vl.getD ((5 + 2 * (j : Int)).toNat + 0) 0 = (nsOf ((l.drop i).take n)).getD (5 + 2 * nB (nsOf ((l.drop i).take n))) 0 := by rw [show (5 + 2 * (j : Int)).toNat + 0 = 5 + 2 * nB (nsOf ((l.drop i).take n)) by omega]; exact hg _ (by omega)
    have hu5 := ns_u32 (bv := ((l.drop i).take n)) hb (5 + 2 * nB (nsOf ((l.drop i).take n)))
    have h8 : (decide (((k : Int) - (5 + 2 * (j : Int) + 1)).tdiv 9 < vl.getD ((5 + 2 * (j : Int)).toNat + 0) 0) || decide (5 + 2 * (j : Int) + 1 + 9 * vl.getD ((5 + 2 * (j : Int)).toNat + 0) 0 ≠ (k : Int))) = false := h8
    rw [ht9, q1] at h8
    simp only [Bool.or_eq_false_iff, decide_eq_false_iff_not] at h8
    obtain ⟨hS, hS2⟩ := nS_of (R := (nsOf ((l.drop i).take n))) (by omega) hu5.1 (by omega)
    obtain ⟨s, uon, ub, uq, ul, uc⟩ := u
    obtain ⟨d1, d2⟩ : s ≤ nS (nsOf ((l.drop i).take n)) ∧ Grw (slts (nsOf ((l.drop i).take n)) s) ul uon s uc := hu
    have h9 : (s : Int) < vl.getD ((5 + 2 * (j : Int)).toNat + 0) 0 := of_decide_eq_true h9
    rw [q1, hS] at h9
    have q20 : vl.getD ((6 + 2 * (nB (nsOf ((l.drop i).take n)) : Int) + 9 * (s : Int)).toNat + 0) 0 = (nsOf ((l.drop i).take n)).getD (6 + 2 * nB (nsOf ((l.drop i).take n)) + 9 * s + 0) 0 := by rw [show (6 + 2 * (nB (nsOf ((l.drop i).take n)) : Int) + 9 * (s : Int)).toNat + 0 = 6 + 2 * nB (nsOf ((l.drop i).take n)) + 9 * s + 0 by omega]; exact hg _ (by omega)
    have q21 : vl.getD ((6 + 2 * (nB (nsOf ((l.drop i).take n)) : Int) + 9 * (s : Int) + 1).toNat + 0) 0 = (nsOf ((l.drop i).take n)).getD (6 + 2 * nB (nsOf ((l.drop i).take n)) + 9 * s + 1) 0 := by rw [show (6 + 2 * (nB (nsOf ((l.drop i).take n)) : Int) + 9 * (s : Int) + 1).toNat + 0 = 6 + 2 * nB (nsOf ((l.drop i).take n)) + 9 * s + 1 by omega]; exact hg _ (by omega)
    have q22 : vl.getD ((6 + 2 * (nB (nsOf ((l.drop i).take n)) : Int) + 9 * (s : Int) + 2).toNat + 0) 0 = (nsOf ((l.drop i).take n)).getD (6 + 2 * nB (nsOf ((l.drop i).take n)) + 9 * s + 2) 0 := by rw [show (6 + 2 * (nB (nsOf ((l.drop i).take n)) : Int) + 9 * (s : Int) + 2).toNat + 0 = 6 + 2 * nB (nsOf ((l.drop i).take n)) + 9 * s + 2 by omega]; exact hg _ (by omega)
    have q23 : vl.getD ((6 + 2 * (nB (nsOf ((l.drop i).take n)) : Int) + 9 * (s : Int) + 3).toNat + 0) 0 = (nsOf ((l.drop i).take n)).getD (6 + 2 * nB (nsOf ((l.drop i).take n)) + 9 * s + 3) 0 := by rw [show (6 + 2 * (nB (nsOf ((l.drop i).take n)) : Int) + 9 * (s : Int) + 3).toNat + 0 = 6 + 2 * nB (nsOf ((l.drop i).take n)) + 9 * s + 3 by omega]; exact hg _ (by omega)
    have q24 : vl.getD ((6 + 2 * (nB (nsOf ((l.drop i).take n)) : Int) + 9 * (s : Int) + 4).toNat + 0) 0 = (nsOf ((l.drop i).take n)).getD (6 + 2 * nB (nsOf ((l.drop i).take n)) + 9 * s + 4) 0 := by rw [show (6 + 2 * (nB (nsOf ((l.drop i).take n)) : Int) + 9 * (s : Int) + 4).toNat + 0 = 6 + 2 * nB (nsOf ((l.drop i).take n)) + 9 * s + 4 by omega]; exact hg _ (by omega)
    have q25 : vl.getD ((6 + 2 * (nB (nsOf ((l.drop i).take n)) : Int) + 9 * (s : Int) + 5).toNat + 0) 0 = (nsOf ((l.drop i).take n)).getD (6 + 2 * nB (nsOf ((l.drop i).take n)) + 9 * s + 5) 0 := by rw [show (6 + 2 * (nB (nsOf ((l.drop i).take n)) : Int) + 9 * (s : Int) + 5).toNat + 0 = 6 + 2 * nB (nsOf ((l.drop i).take n)) + 9 * s + 5 by omega]; exact hg _ (by omega)
    have q26 : vl.getD ((6 + 2 * (nB (nsOf ((l.drop i).take n)) : Int) + 9 * (s : Int) + 6).toNat + 0) 0 = (nsOf ((l.drop i).take n)).getD (6 + 2 * nB (nsOf ((l.drop i).take n)) + 9 * s + 6) 0 := by rw [show (6 + 2 * (nB (nsOf ((l.drop i).take n)) : Int) + 9 * (s : Int) + 6).toNat + 0 = 6 + 2 * nB (nsOf ((l.drop i).take n)) + 9 * s + 6 by omega]; exact hg _ (by omega)
    have q27 : vl.getD ((6 + 2 * (nB (nsOf ((l.drop i).take n)) : Int) + 9 * (s : Int) + 7).toNat + 0) 0 = (nsOf ((l.drop i).take n)).getD (6 + 2 * nB (nsOf ((l.drop i).take n)) + 9 * s + 7) 0 := by rw [show (6 + 2 * (nB (nsOf ((l.drop i).take n)) : Int) + 9 * (s : Int) + 7).toNat + 0 = 6 + 2 * nB (nsOf ((l.drop i).take n)) + 9 * s + 7 by omega]; exact hg _ (by omega)
    have q28 : vl.getD ((6 + 2 * (nB (nsOf ((l.drop i).take n)) : Int) + 9 * (s : Int) + 8).toNat + 0) 0 = (nsOf ((l.drop i).take n)).getD (6 + 2 * nB (nsOf ((l.drop i).take n)) + 9 * s + 8) 0 := by rw [show (6 + 2 * (nB (nsOf ((l.drop i).take n)) : Int) + 9 * (s : Int) + 8).toNat + 0 = 6 + 2 * nB (nsOf ((l.drop i).take n)) + 9 * s + 8 by omega]; exact hg _ (by omega)
    have e5 := d2.app (x := slotAt (nsOf ((l.drop i).take n)) (6 + 2 * nB (nsOf ((l.drop i).take n))) s) (sp := sp) m1 m2
    rw [← slts_next] at e5
    refine Stands.one (s + 1, true, b9, q9, ul.take s ++ [slotAt (nsOf ((l.drop i).take n)) (6 + 2 * nB (nsOf ((l.drop i).take n))) s] ++ sp, cap) ⟨⟨by omega, e5⟩, ?_, ?_⟩
    · show nS (nsOf ((l.drop i).take n)) - (s + 1) < nS (nsOf ((l.drop i).take n)) - s
      omega
    ((conv => (arg 1; reduce)); with_reducible repeat' (first | exact Tr.yes_h | refine Tr.and_h ?_ ?_ | refine Tr.imp_h fun _ => ?_ | refine Tr.all_h fun _ => ?_ | refine Tr.lf_h ?_))
    all_goals first | (first | first | (show Region.lexB _ _ = true; kernel_rfl) | (show planned _ _ = true; kernel_rfl) | exact rfl | exact True.intro | ((try dsimp only [imp, C0, cG, cInt, cPl, cSlot, cPg, rwCodec, cRaw] at *); (try refine inR64 ?_ ?_) <;> (try simp only [List.length_set, List.length_append, List.length_take, List.length_drop]) <;> omega)) | (show _ = _; unfold slotAt; rw [← q21, ← q22, ← q23, ← q24, ← q25, ← q26, ← q27, ← q28, show (nsOf ((l.drop i).take n)).getD (6 + 2 * nB (nsOf ((l.drop i).take n)) + 9 * s) 0 = _ from q20.symm]; rfl)
  · rename_i b0 h4 v hv h5 bp h6 w hw h7 h8 u hu h9
    have h4 : (decide ((n : Int) < 28) || decide ((n : Int).tmod 4 ≠ 0) || decide (nm l (((n : Int) - 4).toNat + i) ≠ crc ((l.drop i).take ((n : Int) - 4).toNat))) = false := h4
    rw [Int.tmod_eq_emod_of_nonneg (show (0 : Int) ≤ (n : Int) by omega)] at h4
    simp only [Bool.or_eq_false_iff, decide_eq_false_iff_not] at h4
    have h28 : 28 ≤ n := by omega
    have hm4 : n % 4 = 0 := by omega
    have e4 : ((n : Int) - 4).toNat = n - 4 := by omega
    obtain ⟨k, on, vb, vq, vl, vc⟩ := v
    obtain ⟨e1, e2⟩ : k ≤ (nsOf ((l.drop i).take n)).length ∧ Grw ((nsOf ((l.drop i).take n)).take k) vl on k vc := hv
    rw [hRl] at e1
    have h5 : ¬ 4 * (k : Int) + 4 < (n : Int) := of_decide_eq_false h5
    have hk : k = (n - 4) / 4 := by omega
    have hk4 : 4 * k = n - 4 := by omega
    have hg : ∀ t, t < k → vl.getD t 0 = (nsOf ((l.drop i).take n)).getD t 0 := by
      intro t ht
      rw [← tk_at (l := vl) (n := k) ht, e2.2.1, tk_at ht]
    have hon : on = true := on_of e2.2.2.2.2 (by omega)
    have hvl : k ≤ vl.length := Nat.le_trans e2.2.2.1 e2.2.2.2.1
    have htd : ((k : Int) - 6).tdiv 2 = ((k : Int) - 6) / 2 := Int.tdiv_eq_ediv_of_nonneg (by omega)
    have h6 : ¬ ((k : Int) - 6).tdiv 2 < vl.getD 4 0 := of_decide_eq_false h6
    rw [htd, hg 4 (by omega)] at h6
    have hu4 := ns_u32 (bv := ((l.drop i).take n)) hb 4
    obtain ⟨hB, hB2⟩ := nB_of (R := (nsOf ((l.drop i).take n))) (by rw [hRl]; omega) hu4.1 (by omega)
    obtain ⟨j, won, wb, wq, wl, wc⟩ := w
    obtain ⟨f1, f2, f3, f4⟩ : j ≤ nB (nsOf ((l.drop i).take n)) ∧ Grw (wl.take j) wl won j wc ∧ (wl.take j).map (·.l) = (blks (nsOf ((l.drop i).take n)) j).map lst ∧ ∀ r ∈ wl.take j, Rok r := hw
    have h7 : ¬ (j : Int) < vl.getD 4 0 := of_decide_eq_false h7
    rw [hg 4 (by omega), hB] at h7
    have hj : j = nB (nsOf ((l.drop i).take n)) := by omega
    have ht9 : ((k : Int) - (5 + 2 * (j : Int) + 1)).tdiv 9 = ((k : Int) - (5 + 2 * (j : Int) + 1)) / 9 := Int.tdiv_eq_ediv_of_nonneg (by omega)
    have q1 : vl.getD ((5 + 2 * (j : Int)).toNat + 0) 0 = (nsOf ((l.drop i).take n)).getD (5 + 2 * nB (nsOf ((l.drop i).take n))) 0 := by rw [show (5 + 2 * (j : Int)).toNat + 0 = 5 + 2 * nB (nsOf ((l.drop i).take n)) by omega]; exact hg _ (by omega)
    have hu5 := ns_u32 (bv := ((l.drop i).take n)) hb (5 + 2 * nB (nsOf ((l.drop i).take n)))
    have h8 : (decide (((k : Int) - (5 + 2 * (j : Int) + 1)).tdiv 9 < vl.getD ((5 + 2 * (j : Int)).toNat + 0) 0) || decide (5 + 2 * (j : Int) + 1 + 9 * vl.getD ((5 + 2 * (j : Int)).toNat + 0) 0 ≠ (k : Int))) = false := h8
    rw [ht9, q1] at h8
    simp only [Bool.or_eq_false_iff, decide_eq_false_iff_not] at h8
    obtain ⟨hS, hS2⟩ := nS_of (R := (nsOf ((l.drop i).take n))) (by omega) hu5.1 (by omega)
    obtain ⟨s, uon, ub, uq, ul, uc⟩ := u
    obtain ⟨d1, d2⟩ : s ≤ nS (nsOf ((l.drop i).take n)) ∧ Grw (slts (nsOf ((l.drop i).take n)) s) ul uon s uc := hu
    have h9 : ¬ (s : Int) < vl.getD ((5 + 2 * (j : Int)).toNat + 0) 0 := of_decide_eq_false h9
    rw [q1, hS] at h9
    have hs : s = nS (nsOf ((l.drop i).take n)) := by omega
    have hlen : ∀ r ∈ wl.take j, r.l.length = 2 := by
      intro r hr
      have hm : r.l ∈ (wl.take j).map (·.l) := List.mem_map.2 ⟨r, hr, rfl⟩
      rw [f3] at hm
      obtain ⟨x, _, hx⟩ := List.mem_map.1 hm
      rw [← hx]; rfl
    have hbk : (wl.take j).map blkOf = blks (nsOf ((l.drop i).take n)) j := by
      have hz : (wl.take j).map blkOf = ((wl.take j).map (·.l)).map (fun y => ((y.getD 0 0, y.getD 1 0) : Pl)) := by
        rw [List.map_map]
        refine List.map_congr_left fun r _ => ?_
        unfold blkOf; rfl
      rw [hz, f3, List.map_map]
      have : ((fun y : List Int => ((y.getD 0 0, y.getD 1 0) : Pl)) ∘ lst) = id := by funext x; rfl
      rw [this, List.map_id]
    exact ⟨⟨f2.2.2.1, Nat.le_trans f2.2.2.1 f2.2.2.2.1, f2.2.2.2.2⟩, ⟨d2.2.2.1, Nat.le_trans d2.2.2.1 d2.2.2.2.1, d2.2.2.2.2⟩, fun r hr => ⟨f4 r hr, hlen r hr⟩, by show j ≤ _; omega, by show s ≤ _; omega⟩
  · rename_i b0 h4 v hv h5 bp h6 w hw h7 h8 u hu h9 h10
    have h4 : (decide ((n : Int) < 28) || decide ((n : Int).tmod 4 ≠ 0) || decide (nm l (((n : Int) - 4).toNat + i) ≠ crc ((l.drop i).take ((n : Int) - 4).toNat))) = false := h4
    rw [Int.tmod_eq_emod_of_nonneg (show (0 : Int) ≤ (n : Int) by omega)] at h4
    simp only [Bool.or_eq_false_iff, decide_eq_false_iff_not] at h4
    have h28 : 28 ≤ n := by omega
    have hm4 : n % 4 = 0 := by omega
    have e4 : ((n : Int) - 4).toNat = n - 4 := by omega
    obtain ⟨k, on, vb, vq, vl, vc⟩ := v
    obtain ⟨e1, e2⟩ : k ≤ (nsOf ((l.drop i).take n)).length ∧ Grw ((nsOf ((l.drop i).take n)).take k) vl on k vc := hv
    rw [hRl] at e1
    have h5 : ¬ 4 * (k : Int) + 4 < (n : Int) := of_decide_eq_false h5
    have hk : k = (n - 4) / 4 := by omega
    have hk4 : 4 * k = n - 4 := by omega
    have hg : ∀ t, t < k → vl.getD t 0 = (nsOf ((l.drop i).take n)).getD t 0 := by
      intro t ht
      rw [← tk_at (l := vl) (n := k) ht, e2.2.1, tk_at ht]
    have hon : on = true := on_of e2.2.2.2.2 (by omega)
    have hvl : k ≤ vl.length := Nat.le_trans e2.2.2.1 e2.2.2.2.1
    have htd : ((k : Int) - 6).tdiv 2 = ((k : Int) - 6) / 2 := Int.tdiv_eq_ediv_of_nonneg (by omega)
    have h6 : ¬ ((k : Int) - 6).tdiv 2 < vl.getD 4 0 := of_decide_eq_false h6
    rw [htd, hg 4 (by omega)] at h6
    have hu4 := ns_u32 (bv := ((l.drop i).take n)) hb 4
    obtain ⟨hB, hB2⟩ := nB_of (R := (nsOf ((l.drop i).take n))) (by rw [hRl]; omega) hu4.1 (by omega)
    obtain ⟨j, won, wb, wq, wl, wc⟩ := w
    obtain ⟨f1, f2, f3, f4⟩ : j ≤ nB (nsOf ((l.drop i).take n)) ∧ Grw (wl.take j) wl won j wc ∧ (wl.take j).map (·.l) = (blks (nsOf ((l.drop i).take n)) j).map lst ∧ ∀ r ∈ wl.take j, Rok r := hw
    have h7 : ¬ (j : Int) < vl.getD 4 0 := of_decide_eq_false h7
    rw [hg 4 (by omega), hB] at h7
    have hj : j = nB (nsOf ((l.drop i).take n)) := by omega
    have ht9 : ((k : Int) - (5 + 2 * (j : Int) + 1)).tdiv 9 = ((k : Int) - (5 + 2 * (j : Int) + 1)) / 9 := Int.tdiv_eq_ediv_of_nonneg (by omega)
    have q1 : vl.getD ((5 + 2 * (j : Int)).toNat + 0) 0 = (nsOf ((l.drop i).take n)).getD (5 + 2 * nB (nsOf ((l.drop i).take n))) 0 := by rw [show (5 + 2 * (j : Int)).toNat + 0 = 5 + 2 * nB (nsOf ((l.drop i).take n)) by omega]; exact hg _ (by omega)
    have hu5 := ns_u32 (bv := ((l.drop i).take n)) hb (5 + 2 * nB (nsOf ((l.drop i).take n)))
    have h8 : (decide (((k : Int) - (5 + 2 * (j : Int) + 1)).tdiv 9 < vl.getD ((5 + 2 * (j : Int)).toNat + 0) 0) || decide (5 + 2 * (j : Int) + 1 + 9 * vl.getD ((5 + 2 * (j : Int)).toNat + 0) 0 ≠ (k : Int))) = false := h8
    rw [ht9, q1] at h8
    simp only [Bool.or_eq_false_iff, decide_eq_false_iff_not] at h8
    obtain ⟨hS, hS2⟩ := nS_of (R := (nsOf ((l.drop i).take n))) (by omega) hu5.1 (by omega)
    obtain ⟨s, uon, ub, uq, ul, uc⟩ := u
    obtain ⟨d1, d2⟩ : s ≤ nS (nsOf ((l.drop i).take n)) ∧ Grw (slts (nsOf ((l.drop i).take n)) s) ul uon s uc := hu
    have h9 : ¬ (s : Int) < vl.getD ((5 + 2 * (j : Int)).toNat + 0) 0 := of_decide_eq_false h9
    rw [q1, hS] at h9
    have hs : s = nS (nsOf ((l.drop i).take n)) := by omega
    have hlen : ∀ r ∈ wl.take j, r.l.length = 2 := by
      intro r hr
      have hm : r.l ∈ (wl.take j).map (·.l) := List.mem_map.2 ⟨r, hr, rfl⟩
      rw [f3] at hm
      obtain ⟨x, _, hx⟩ := List.mem_map.1 hm
      rw [← hx]; rfl
    have hbk : (wl.take j).map blkOf = blks (nsOf ((l.drop i).take n)) j := by
      have hz : (wl.take j).map blkOf = ((wl.take j).map (·.l)).map (fun y => ((y.getD 0 0, y.getD 1 0) : Pl)) := by
        rw [List.map_map]
        refine List.map_congr_left fun r _ => ?_
        unfold blkOf; rfl
      rw [hz, f3, List.map_map]
      have : ((fun y : List Int => ((y.getD 0 0, y.getD 1 0) : Pl)) ∘ lst) = id := by funext x; rfl
      rw [this, List.map_id]
    have h10 : (!okP (hdR (nsOf ((l.drop i).take n))) ((wl.take j).map blkOf) (ul.take s)) = true := h10
    rw [hbk, d2.2.1, hj, hs] at h10
    refine Ends.one () (fun h A B hp => ?_) ?_
    · obtain ⟨z1, z2, z3, z4, z5, z6⟩ := isPt_facts hp (by rw [hbl]; omega)
      rw [z6] at h10
      cases h10
    ((conv => (arg 1; reduce)); with_reducible repeat' (first | exact Tr.yes_h | refine Tr.and_h ?_ ?_ | refine Tr.imp_h fun _ => ?_ | refine Tr.all_h fun _ => ?_ | refine Tr.lf_h ?_))
    all_goals (first | first | (show Region.lexB _ _ = true; kernel_rfl) | (show planned _ _ = true; kernel_rfl) | exact rfl | exact True.intro | ((try dsimp only [imp, C0, cG, cInt, cPl, cSlot, cPg, rwCodec, cRaw] at *); (try refine inR64 ?_ ?_) <;> (try simp only [List.length_set, List.length_append, List.length_take, List.length_drop]) <;> omega))
  · rename_i b0 h4 v hv h5 bp h6 w hw h7 h8 u hu h9 h10
    have h4 : (decide ((n : Int) < 28) || decide ((n : Int).tmod 4 ≠ 0) || decide (nm l (((n : Int) - 4).toNat + i) ≠ crc ((l.drop i).take ((n : Int) - 4).toNat))) = false := h4
    rw [Int.tmod_eq_emod_of_nonneg (show (0 : Int) ≤ (n : Int) by omega)] at h4
    simp only [Bool.or_eq_false_iff, decide_eq_false_iff_not] at h4
    have h28 : 28 ≤ n := by omega
    have hm4 : n % 4 = 0 := by omega
    have e4 : ((n : Int) - 4).toNat = n - 4 := by omega
    obtain ⟨k, on, vb, vq, vl, vc⟩ := v
    obtain ⟨e1, e2⟩ : k ≤ (nsOf ((l.drop i).take n)).length ∧ Grw ((nsOf ((l.drop i).take n)).take k) vl on k vc := hv
    rw [hRl] at e1
    have h5 : ¬ 4 * (k : Int) + 4 < (n : Int) := of_decide_eq_false h5
    have hk : k = (n - 4) / 4 := by omega
    have hk4 : 4 * k = n - 4 := by omega
    have hg : ∀ t, t < k → vl.getD t 0 = (nsOf ((l.drop i).take n)).getD t 0 := by
      intro t ht
      rw [← tk_at (l := vl) (n := k) ht, e2.2.1, tk_at ht]
    have hon : on = true := on_of e2.2.2.2.2 (by omega)
    have hvl : k ≤ vl.length := Nat.le_trans e2.2.2.1 e2.2.2.2.1
    have htd : ((k : Int) - 6).tdiv 2 = ((k : Int) - 6) / 2 := Int.tdiv_eq_ediv_of_nonneg (by omega)
    have h6 : ¬ ((k : Int) - 6).tdiv 2 < vl.getD 4 0 := of_decide_eq_false h6
    rw [htd, hg 4 (by omega)] at h6
    have hu4 := ns_u32 (bv := ((l.drop i).take n)) hb 4
    obtain ⟨hB, hB2⟩ := nB_of (R := (nsOf ((l.drop i).take n))) (by rw [hRl]; omega) hu4.1 (by omega)
    obtain ⟨j, won, wb, wq, wl, wc⟩ := w
    obtain ⟨f1, f2, f3, f4⟩ : j ≤ nB (nsOf ((l.drop i).take n)) ∧ Grw (wl.take j) wl won j wc ∧ (wl.take j).map (·.l) = (blks (nsOf ((l.drop i).take n)) j).map lst ∧ ∀ r ∈ wl.take j, Rok r := hw
    have h7 : ¬ (j : Int) < vl.getD 4 0 := of_decide_eq_false h7
    rw [hg 4 (by omega), hB] at h7
    have hj : j = nB (nsOf ((l.drop i).take n)) := by omega
    have ht9 : ((k : Int) - (5 + 2 * (j : Int) + 1)).tdiv 9 = ((k : Int) - (5 + 2 * (j : Int) + 1)) / 9 := Int.tdiv_eq_ediv_of_nonneg (by omega)
    have q1 : vl.getD ((5 + 2 * (j : Int)).toNat + 0) 0 = (nsOf ((l.drop i).take n)).getD (5 + 2 * nB (nsOf ((l.drop i).take n))) 0 := by rw [show (5 + 2 * (j : Int)).toNat + 0 = 5 + 2 * nB (nsOf ((l.drop i).take n)) by omega]; exact hg _ (by omega)
    have hu5 := ns_u32 (bv := ((l.drop i).take n)) hb (5 + 2 * nB (nsOf ((l.drop i).take n)))
    have h8 : (decide (((k : Int) - (5 + 2 * (j : Int) + 1)).tdiv 9 < vl.getD ((5 + 2 * (j : Int)).toNat + 0) 0) || decide (5 + 2 * (j : Int) + 1 + 9 * vl.getD ((5 + 2 * (j : Int)).toNat + 0) 0 ≠ (k : Int))) = false := h8
    rw [ht9, q1] at h8
    simp only [Bool.or_eq_false_iff, decide_eq_false_iff_not] at h8
    obtain ⟨hS, hS2⟩ := nS_of (R := (nsOf ((l.drop i).take n))) (by omega) hu5.1 (by omega)
    obtain ⟨s, uon, ub, uq, ul, uc⟩ := u
    obtain ⟨d1, d2⟩ : s ≤ nS (nsOf ((l.drop i).take n)) ∧ Grw (slts (nsOf ((l.drop i).take n)) s) ul uon s uc := hu
    have h9 : ¬ (s : Int) < vl.getD ((5 + 2 * (j : Int)).toNat + 0) 0 := of_decide_eq_false h9
    rw [q1, hS] at h9
    have hs : s = nS (nsOf ((l.drop i).take n)) := by omega
    have hlen : ∀ r ∈ wl.take j, r.l.length = 2 := by
      intro r hr
      have hm : r.l ∈ (wl.take j).map (·.l) := List.mem_map.2 ⟨r, hr, rfl⟩
      rw [f3] at hm
      obtain ⟨x, _, hx⟩ := List.mem_map.1 hm
      rw [← hx]; rfl
    have hbk : (wl.take j).map blkOf = blks (nsOf ((l.drop i).take n)) j := by
      have hz : (wl.take j).map blkOf = ((wl.take j).map (·.l)).map (fun y => ((y.getD 0 0, y.getD 1 0) : Pl)) := by
        rw [List.map_map]
        refine List.map_congr_left fun r _ => ?_
        unfold blkOf; rfl
      rw [hz, f3, List.map_map]
      have : ((fun y : List Int => ((y.getD 0 0, y.getD 1 0) : Pl)) ∘ lst) = id := by funext x; rfl
      rw [this, List.map_id]
    have h10 : (!okP (hdR (nsOf ((l.drop i).take n))) ((wl.take j).map blkOf) (ul.take s)) = false := h10
    rw [hbk, d2.2.1, hj, hs] at h10
    have hnm : nm l ((n - 4) + i) = nm ((l.drop i).take n) (n - 4) := by
      rw [nm_take _ (by omega), nm_drop, Nat.add_comm]
    have hcr : (l.drop i).take (n - 4) = ((l.drop i).take n).take (n - 4) := by rw [List.take_take]; congr 1; omega
    have hcc := h4.2
    rw [e4, hnm, hcr] at hcc
    have hp := isPt_of (bv := ((l.drop i).take n)) hb (by rw [hbl]; omega) (by rw [hbl]; exact Decidable.of_not_not hcc) (by omega) (by rw [hbl]; omega) (by simpa using h10)
    refine Ends.next (Ends.one (hdR (nsOf ((l.drop i).take n)), (won, wb, wq, wl, j, wc), (uon, ub, uq, ul, s, uc)) ⟨?_, ⟨f2.2.2.1, Nat.le_trans f2.2.2.1 f2.2.2.2.1, f2.2.2.2.2⟩, ⟨d2.2.2.1, Nat.le_trans d2.2.2.1 d2.2.2.2.1, d2.2.2.2.2⟩, fun r hr => ⟨f4 r hr, hlen r hr⟩⟩ ?_)
    · show IsPt _ _ ((wl.take j).map blkOf) (ul.take s)
      rw [hbk, d2.2.1, hj, hs]
      exact hp
    ((conv => (arg 1; reduce)); with_reducible repeat' (first | exact Tr.yes_h | refine Tr.and_h ?_ ?_ | refine Tr.imp_h fun _ => ?_ | refine Tr.all_h fun _ => ?_ | refine Tr.lf_h ?_))
    all_goals (first | first | (show Region.lexB _ _ = true; kernel_rfl) | (show planned _ _ = true; kernel_rfl) | exact rfl | exact True.intro | ((try dsimp only [imp, C0, cG, cInt, cPl, cSlot, cPg, rwCodec, cRaw] at *); (try refine inR64 ?_ ?_) <;> (try simp only [List.length_set, List.length_append, List.length_take, List.length_drop]) <;> omega))
def fcRopen : Fc Tryd.prog C0 where
  tg := .fn 17
  X := Bool × Nat × Nat × List Int × Nat × Nat × Nat
  args := fun (o, b, q, l, i, n, c) => [.sl 0 i n c]
  mem := fun (o, b, q, l, i, n, c) => [⟨b, q, 1, false, some o, .rows 5 l⟩]
  pre := fun (o, b, q, l, i, n, c) => n ≤ c ∧ i + c ≤ l.length ∧ n < 140737488355000 ∧ (o = false → n = 0 ∧ c = 0) ∧ Bys ((l.drop i).take n) ∧ n ≤ 1000000
  alts := fun (o, b, q, l, i, n, c) => [⟨Unit, fun _ => ∀ h A B, ¬ IsPt ((l.drop i).take n) h A B, fun _ => .tup [ptv (0, 0, 0, 0) .nils .nils, .bool .f], fun _ => [⟨b, q, 1, false, some o, .rows 5 l⟩]⟩,
     ⟨Hd × (Bool × Nat × Nat × List (Rw Int) × Nat × Nat) × (Bool × Nat × Nat × List Slot × Nat × Nat), fun y => IsPt ((l.drop i).take n) y.1 ((y.2.1.2.2.2.1.take y.2.1.2.2.2.2.1).map blkOf) (y.2.2.2.2.2.1.take y.2.2.2.2.2.2.1) ∧ Sq.ok y.2.1 ∧ Sq.ok y.2.2 ∧ ∀ r ∈ y.2.1.2.2.2.1.take y.2.1.2.2.2.2.1, Rok r ∧ r.l.length = 2,
      fun y => .tup [ptv y.1 (.sl 1 0 y.2.1.2.2.2.2.1 y.2.1.2.2.2.2.2) (.sl 2 0 y.2.2.2.2.2.2.1 y.2.2.2.2.2.2.2), .bool .t],
      fun y => [⟨b, q, 1, false, some o, .rows 5 l⟩, ⟨y.2.1.2.1, y.2.1.2.2.1, 1, true, some y.2.1.1, .rows 71 y.2.1.2.2.2.1⟩, ⟨y.2.2.2.1, y.2.2.2.2.1, 9, true, some y.2.2.1, .rows 74 y.2.2.2.2.2.1⟩]⟩]
  mat vs m := match vs with
    | [.sl a i n c] => match nth m a with
      | ⟨b, q, _, _, g, .rows 5 l⟩ => some ((onOf g, b, q, l, i, n, c), [a])
      | _ => none
    | [.nils] => some ((false, 0, 0, [], 0, 0, 0), [m.length])
    | _ => none
  ok := fun (o, b, q, l, i, n, c) h => ropen_ok o b q l i n c h.1 h.2.1 h.2.2.1 h.2.2.2.1 h.2.2.2.2.1 h.2.2.2.2.2
end Go.Vx
