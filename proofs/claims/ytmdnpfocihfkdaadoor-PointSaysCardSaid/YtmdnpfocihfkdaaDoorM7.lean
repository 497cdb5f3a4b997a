/-
  Round 23: a point that may be, az the document has it.
  Round 23: a point's bytes, az the document has them.
  Conditions: none.
-/
import Derived.Test.YtmdnpfocihfkdaaDoorM5
import Derived.Test.YtmdnpfocihfkdaaDoorM6
set_option linter.unusedSectionVars false
set_option maxRecDepth 100000
set_option linter.unusedVariables false
set_option linter.unusedSimpArgs false
namespace Go.Vx
open Go Go.Proofs
variable [Gl]

theorem map_at {l : List (Rw Int)} {n v : Nat} (hv : v < n) (h : n ≤ l.length) : ((l.take n).map blkOf).getD v (0, 0) = blkOf (l.getD v Rw.nil) := by
  rw [List.getD_eq_getElem?_getD, List.getElem?_map, List.getElem?_take_of_lt hv, List.getD_eq_getElem?_getD, List.getElem?_eq_getElem (by omega)]; rfl
theorem okBs_no {A : List Pl} {i : Nat} (h : okBs A i = false) : ∀ k, okBs A (i + k) = false
  | 0 => h
  | k + 1 => by
    show okBs A (i + k + 1) = false
    rw [okBs, okBs_no h k]; rfl
theorem okSs_no {A : List Pl} {ok : Bool} {B : List Slot} {i : Nat} (h : okSs A ok B i = false) : ∀ k, okSs A ok B (i + k) = false
  | 0 => h
  | k + 1 => by
    show okSs A ok B (i + k + 1) = false
    rw [okSs, okSs_no h k]; rfl
theorem okP_noS {h : Hd} {A : List Pl} {B : List Slot} {i : Nat} (hh : okSs A (okH h && okBs A A.length) B i = false) (hi : i ≤ B.length) : okP h A B = false := by
  have := okSs_no hh (B.length - i)
  rw [show i + (B.length - i) = B.length by omega] at this
  unfold okP; exact this
theorem okP_noB {h : Hd} {A : List Pl} {B : List Slot} {i : Nat} (hh : okBs A i = false) (hi : i ≤ A.length) : okP h A B = false := by
  have := okBs_no hh (A.length - i)
  rw [show i + (A.length - i) = A.length by omega] at this
  exact okP_noS (i := 0) (by rw [okSs, this, Bool.and_false]) (Nat.zero_le _)
theorem okP_noH {h : Hd} {A : List Pl} {B : List Slot} (hh : okH h = false) : okP h A B = false := okP_noS (i := 0) (by rw [okSs, hh]; rfl) (Nat.zero_le _)
theorem blk_no1 {ok : Bool} {i : Nat} {p b : Pl} (h : (decide (b.1 < 0) || decide (64 ≤ b.1) || !cn b.2) = true) : okB ok i p b = false := by
  unfold okB
  cases hk : cn b.2 with
  | false => simp
  | true =>
    rw [hk] at h
    simp only [Bool.not_true, Bool.or_false, Bool.or_eq_true, decide_eq_true_iff] at h
    rcases h with h | h
    · have : cn b.1 = false := by
        cases hc : cn b.1 with
        | false => rfl
        | true => have := cn_iff.1 hc; omega
      rw [this]; simp
    · rw [decide_eq_false (by omega : ¬ b.1 < 64)]; simp
theorem blk_no2 {ok : Bool} {i : Nat} {p b : Pl} (hi : 0 < i) (h : b.1 ≤ p.1) : okB ok i p b = false := by
  unfold okB
  rw [decide_eq_false (by omega : ¬ i = 0), decide_eq_false (by omega : ¬ p.1 < b.1)]; simp
theorem blk_yes {i : Nat} {p b : Pl} (h : (decide (b.1 < 0) || decide (64 ≤ b.1) || !cn b.2) = false) (h2 : i = 0 ∨ ¬ b.1 ≤ p.1) : (true && okB true i p b) = true := by
  simp only [Bool.or_eq_false_iff, decide_eq_false_iff_not, Bool.not_eq_false'] at h
  obtain ⟨⟨g1, g2⟩, g3⟩ := h
  unfold okB
  rw [g3, cn_iff.2 ⟨by omega, by omega⟩, decide_eq_true (by omega : b.1 < 64)]
  rcases h2 with h2 | h2
  · rw [decide_eq_true h2]; simp
  · rw [decide_eq_true (by omega : p.1 < b.1)]; simp
theorem slt_no1 {A : List Pl} {ok : Bool} {i : Nat} {p s : Slot} (h : (!anyF (fun x => decide (x.1 = s.pl.1)) A || decide (s.pl.2 < 0) || decide (64 ≤ s.pl.2) || !cn s.key || !okMe s.me) = true) : okS A ok i p s = false := by
  unfold okS
  cases h1 : anyF (fun x => decide (x.1 = s.pl.1)) A with
  | false => simp
  | true =>
    cases h2 : cn s.key with
    | false => simp
    | true =>
      cases h3 : okMe s.me with
      | false => simp
      | true =>
        rw [h1, h2, h3] at h
        simp only [Bool.not_true, Bool.or_false, Bool.false_or, Bool.or_eq_true, decide_eq_true_iff] at h
        rcases h with h | h
        · have : cn s.pl.2 = false := by
            cases hc : cn s.pl.2 with
            | false => rfl
            | true => have := cn_iff.1 hc; omega
          rw [this]; simp
        · rw [decide_eq_false (by omega : ¬ s.pl.2 < 64)]; simp
theorem slt_no2 {A : List Pl} {ok : Bool} {i : Nat} {p s : Slot} (hi : 0 < i) (h : (decide (s.pl.1 < p.pl.1) || (decide (p.pl.1 = s.pl.1) && decide (s.pl.2 ≤ p.pl.2))) = true) : okS A ok i p s = false := by
  simp only [Bool.or_eq_true, Bool.and_eq_true, decide_eq_true_iff] at h
  unfold okS
  have : (decide (i = 0) || (decide (p.pl.1 < s.pl.1) || (decide (p.pl.1 = s.pl.1) && decide (p.pl.2 < s.pl.2)))) = false := by
    simp only [Bool.or_eq_false_iff, Bool.and_eq_false_iff, decide_eq_false_iff_not]
    omega
  rw [this]; simp
theorem slt_yes {A : List Pl} {i : Nat} {p s : Slot} (h : (!anyF (fun x => decide (x.1 = s.pl.1)) A || decide (s.pl.2 < 0) || decide (64 ≤ s.pl.2) || !cn s.key || !okMe s.me) = false)
    (h2 : i = 0 ∨ (decide (s.pl.1 < p.pl.1) || (decide (p.pl.1 = s.pl.1) && decide (s.pl.2 ≤ p.pl.2))) = false) : okS A true i p s = true := by
  simp only [Bool.or_eq_false_iff, decide_eq_false_iff_not, Bool.not_eq_false'] at h
  obtain ⟨⟨⟨⟨g1, g2⟩, g3⟩, g4⟩, g5⟩ := h
  unfold okS
  have : (decide (i = 0) || (decide (p.pl.1 < s.pl.1) || (decide (p.pl.1 = s.pl.1) && decide (p.pl.2 < s.pl.2)))) = true := by
    simp only [Bool.or_eq_false_iff, Bool.and_eq_false_iff, decide_eq_false_iff_not] at h2
    simp only [Bool.or_eq_true, Bool.and_eq_true, decide_eq_true_iff]
    omega
  rw [this, g1, g4, g5, cn_iff.2 ⟨by omega, by omega⟩, decide_eq_true (by omega : s.pl.2 < 64)]
  rfl
def Mr4 (h : Hd) (A : List Pl) : Inv' C0 := ⟨4, Nat, fun i => [(3, .int .i64 (i : Int))], fun _ m => m, fun i => i ≤ A.length ∧ (okH h && okBs A i) = true, fun i => A.length - i⟩
def Mr10 (h : Hd) (A : List Pl) (B : List Slot) : Inv' C0 := ⟨10, Nat, fun i => [(5, .int .i64 (i : Int))], fun _ m => m, fun i => i ≤ B.length ∧ okSs A (okH h && okBs A A.length) B i = true, fun i => B.length - i⟩
def Mr15 (A : List Pl) (B : List Slot) : Inv' C0 := ⟨15, Nat × Bool × Nat, fun x => [(8, .int .i64 (x.1 : Int)), (7, .bool (.tm x.2.1)), (5, .int .i64 (x.2.2 : Int))], fun _ m => m, fun x => x.1 ≤ A.length ∧ x.2.1 = anyF (fun b => decide (b.1 = (B.getD x.2.2 slot0).pl.1)) (A.take x.1), fun x => A.length - x.1⟩
set_option maxHeartbeats 8000000 in
theorem rpmay_ok (h : Hd) (o : Bool) (b q : Nat) (l : List (Rw Int)) (n c : Nat) (o2 : Bool) (b2 q2 : Nat) (l2 : List Slot) (n2 c2 : Nat)
    (h1 : Sq.ok (o, b, q, l, n, c)) (h2 : Sq.ok (o2, b2, q2, l2, n2, c2)) (hr : ∀ r ∈ l.take n, Rok r ∧ r.l.length = 2) (hn : n ≤ 1000000) (hn2 : n2 ≤ 1000000) :
    Tells (C := C0) Tryd.prog (.fn 12) [⟨b, q, 1, false, some o, .rows 71 l⟩, ⟨b2, q2, 9, false, some o2, .rows 74 l2⟩] [ptv h (.sl 0 0 n c) (.sl 1 0 n2 c2)] (.bool (.tm (okP h ((l.take n).map blkOf) (l2.take n2)))) := by
  have hnl : n ≤ l.length := h1.2.1
  have hnl2 : n2 ≤ l2.length := h2.2.1
  have hAl : ((l.take n).map blkOf).length = n := by rw [List.length_map]; exact tk_len hnl
  refine loc_pc (P := Tryd.prog) (E := ⟨[], [pcCount, pcRmay], 169, [], [fI], []⟩) (L := [Mr4 h ((l.take n).map blkOf), Mr10 h ((l.take n).map blkOf) (l2.take n2), Mr15 ((l.take n).map blkOf) (l2.take n2)]) mix Tryd.func12 rfl (by kernel_rfl) (by kernel_rfl) rfl rfl ?_
  ((conv => (arg 1; reduce)); with_reducible repeat' (first | exact Tr.yes_h | refine Tr.and_h ?_ ?_ | refine Tr.imp_h fun _ => ?_ | refine Tr.all_h fun _ => ?_ | refine Tr.lf_h ?_))
  all_goals try (first | first | (show Region.lexB _ _ = true; kernel_rfl) | (show planned _ _ = true; kernel_rfl) | exact rfl | exact True.intro | ((try dsimp only [imp, C0, cG, cInt, cPl, cSlot, cPg, rwCodec, cRaw] at *); (try refine inR64 ?_ ?_) <;> (try simp only [List.length_set, List.length_append, List.length_take, List.length_drop]) <;> omega))
  · rename_i b0 h0
    have h0 : (!cn h.1 || !cn h.2.1 || !cn h.2.2.1 || !cn h.2.2.2) = true := h0
    refine (okP_noH ?_).symm
    unfold okH
    rw [← Bool.not_eq_true', Bool.not_and, Bool.not_and, Bool.not_and]
    exact h0
  · rename_i b0 h0
    have h0 : (!cn h.1 || !cn h.2.1 || !cn h.2.2.1 || !cn h.2.2.2) = false := h0
    have hH : okH h = true := by
      unfold okH
      rw [← Bool.not_eq_false', Bool.not_and, Bool.not_and, Bool.not_and]
      exact h0
    refine Stands.one (0 : Nat) ⟨⟨Nat.zero_le _, by rw [hH]; rfl⟩, ?_⟩
    ((conv => (arg 1; reduce)); with_reducible repeat' (first | exact Tr.yes_h | refine Tr.and_h ?_ ?_ | refine Tr.imp_h fun _ => ?_ | refine Tr.all_h fun _ => ?_ | refine Tr.lf_h ?_))
    all_goals (first | first | (show Region.lexB _ _ = true; kernel_rfl) | (show planned _ _ = true; kernel_rfl) | exact rfl | exact True.intro | ((try dsimp only [imp, C0, cG, cInt, cPl, cSlot, cPg, rwCodec, cRaw] at *); (try refine inR64 ?_ ?_) <;> (try simp only [List.length_set, List.length_append, List.length_take, List.length_drop]) <;> omega))
  · rename_i b0 h0 v hv h3
    change Nat at v
    obtain ⟨e1, e2⟩ : v ≤ ((l.take n).map blkOf).length ∧ (okH h && okBs ((l.take n).map blkOf) v) = true := hv
    have h3 : v < n := Int.ofNat_lt.1 (of_decide_eq_true h3)
    rw [hAl] at e1
    exact on_of h1.2.2 (Nat.lt_of_le_of_lt (Nat.zero_le _) h3)
  · rename_i b0 h0 v hv h3
    change Nat at v
    obtain ⟨e1, e2⟩ : v ≤ ((l.take n).map blkOf).length ∧ (okH h && okBs ((l.take n).map blkOf) v) = true := hv
    have h3 : v < n := Int.ofNat_lt.1 (of_decide_eq_true h3)
    rw [hAl] at e1
    exact Int.ofNat_lt.2 h3
  · rename_i b0 h0 v hv h3
    change Nat at v
    obtain ⟨e1, e2⟩ : v ≤ ((l.take n).map blkOf).length ∧ (okH h && okBs ((l.take n).map blkOf) v) = true := hv
    have h3 : v < n := Int.ofNat_lt.1 (of_decide_eq_true h3)
    rw [hAl] at e1
    exact on_of h1.2.2 (Nat.lt_of_le_of_lt (Nat.zero_le _) h3)
  · rename_i b0 h0 v hv h3
    change Nat at v
    obtain ⟨e1, e2⟩ : v ≤ ((l.take n).map blkOf).length ∧ (okH h && okBs ((l.take n).map blkOf) v) = true := hv
    have h3 : v < n := Int.ofNat_lt.1 (of_decide_eq_true h3)
    rw [hAl] at e1
    show (v : Int).toNat + 0 < l.length
    omega
  · rename_i b0 h0 v hv h3 r hr1
    change Nat at v
    obtain ⟨e1, e2⟩ : v ≤ ((l.take n).map blkOf).length ∧ (okH h && okBs ((l.take n).map blkOf) v) = true := hv
    have h3 : v < n := Int.ofNat_lt.1 (of_decide_eq_true h3)
    rw [hAl] at e1
    change Rw Int at r
    have hr1 : l.getD v Rw.nil = r := hr1
    obtain ⟨⟨g1, g2, g3⟩, g4⟩ := hr r (row_mem h3 hnl hr1)
    exact on_of g1 (by omega)
  · rename_i b0 h0 v hv h3 r hr1
    change Nat at v
    obtain ⟨e1, e2⟩ : v ≤ ((l.take n).map blkOf).length ∧ (okH h && okBs ((l.take n).map blkOf) v) = true := hv
    have h3 : v < n := Int.ofNat_lt.1 (of_decide_eq_true h3)
    rw [hAl] at e1
    change Rw Int at r
    have hr1 : l.getD v Rw.nil = r := hr1
    obtain ⟨⟨g1, g2, g3⟩, g4⟩ := hr r (row_mem h3 hnl hr1)
    show (0 : Int) < ((r.l.length : Nat) : Int)
    rw [g4]; decide
  · rename_i b0 h0 v hv h3 r hr1
    change Nat at v
    obtain ⟨e1, e2⟩ : v ≤ ((l.take n).map blkOf).length ∧ (okH h && okBs ((l.take n).map blkOf) v) = true := hv
    have h3 : v < n := Int.ofNat_lt.1 (of_decide_eq_true h3)
    rw [hAl] at e1
    change Rw Int at r
    have hr1 : l.getD v Rw.nil = r := hr1
    obtain ⟨⟨g1, g2, g3⟩, g4⟩ := hr r (row_mem h3 hnl hr1)
    exact on_of g1 (by omega)
  · rename_i b0 h0 v hv h3 r hr1
    change Nat at v
    obtain ⟨e1, e2⟩ : v ≤ ((l.take n).map blkOf).length ∧ (okH h && okBs ((l.take n).map blkOf) v) = true := hv
    have h3 : v < n := Int.ofNat_lt.1 (of_decide_eq_true h3)
    rw [hAl] at e1
    change Rw Int at r
    have hr1 : l.getD v Rw.nil = r := hr1
    obtain ⟨⟨g1, g2, g3⟩, g4⟩ := hr r (row_mem h3 hnl hr1)
    show (0 : Int).toNat + 0 < r.l.length
    rw [g4]; decide
  · rename_i b0 h0 v hv h3 r hr1 h5
    change Nat at v
    obtain ⟨e1, e2⟩ : v ≤ ((l.take n).map blkOf).length ∧ (okH h && okBs ((l.take n).map blkOf) v) = true := hv
    have h3 : v < n := Int.ofNat_lt.1 (of_decide_eq_true h3)
    rw [hAl] at e1
    change Rw Int at r
    have hr1 : l.getD v Rw.nil = r := hr1
    obtain ⟨⟨g1, g2, g3⟩, g4⟩ := hr r (row_mem h3 hnl hr1)
    exact on_of g1 (by omega)
  · rename_i b0 h0 v hv h3 r hr1 h5
    change Nat at v
    obtain ⟨e1, e2⟩ : v ≤ ((l.take n).map blkOf).length ∧ (okH h && okBs ((l.take n).map blkOf) v) = true := hv
    have h3 : v < n := Int.ofNat_lt.1 (of_decide_eq_true h3)
    rw [hAl] at e1
    change Rw Int at r
    have hr1 : l.getD v Rw.nil = r := hr1
    obtain ⟨⟨g1, g2, g3⟩, g4⟩ := hr r (row_mem h3 hnl hr1)
    show (0 : Int) < ((r.l.length : Nat) : Int)
    rw [g4]; decide
  · rename_i b0 h0 v hv h3 r hr1 h5
    change Nat at v
    obtain ⟨e1, e2⟩ : v ≤ ((l.take n).map blkOf).length ∧ (okH h && okBs ((l.take n).map blkOf) v) = true := hv
    have h3 : v < n := Int.ofNat_lt.1 (of_decide_eq_true h3)
    rw [hAl] at e1
    change Rw Int at r
    have hr1 : l.getD v Rw.nil = r := hr1
    obtain ⟨⟨g1, g2, g3⟩, g4⟩ := hr r (row_mem h3 hnl hr1)
    exact on_of g1 (by omega)
  · rename_i b0 h0 v hv h3 r hr1 h5
    change Nat at v
    obtain ⟨e1, e2⟩ : v ≤ ((l.take n).map blkOf).length ∧ (okH h && okBs ((l.take n).map blkOf) v) = true := hv
    have h3 : v < n := Int.ofNat_lt.1 (of_decide_eq_true h3)
    rw [hAl] at e1
    change Rw Int at r
    have hr1 : l.getD v Rw.nil = r := hr1
    obtain ⟨⟨g1, g2, g3⟩, g4⟩ := hr r (row_mem h3 hnl hr1)
    show (0 : Int).toNat + 0 < r.l.length
    rw [g4]; decide
  · rename_i b0 h0 v hv h3 r hr1 h5
    change Nat at v
    obtain ⟨e1, e2⟩ : v ≤ ((l.take n).map blkOf).length ∧ (okH h && okBs ((l.take n).map blkOf) v) = true := hv
    have h3 : v < n := Int.ofNat_lt.1 (of_decide_eq_true h3)
    rw [hAl] at e1
    change Rw Int at r
    have hr1 : l.getD v Rw.nil = r := hr1
    obtain ⟨⟨g1, g2, g3⟩, g4⟩ := hr r (row_mem h3 hnl hr1)
    exact on_of g1 (by omega)
  · rename_i b0 h0 v hv h3 r hr1 h5
    change Nat at v
    obtain ⟨e1, e2⟩ : v ≤ ((l.take n).map blkOf).length ∧ (okH h && okBs ((l.take n).map blkOf) v) = true := hv
    have h3 : v < n := Int.ofNat_lt.1 (of_decide_eq_true h3)
    rw [hAl] at e1
    change Rw Int at r
    have hr1 : l.getD v Rw.nil = r := hr1
    obtain ⟨⟨g1, g2, g3⟩, g4⟩ := hr r (row_mem h3 hnl hr1)
    show (1 : Int) < ((r.l.length : Nat) : Int)
    rw [g4]; decide
  · rename_i b0 h0 v hv h3 r hr1 h5
    change Nat at v
    obtain ⟨e1, e2⟩ : v ≤ ((l.take n).map blkOf).length ∧ (okH h && okBs ((l.take n).map blkOf) v) = true := hv
    have h3 : v < n := Int.ofNat_lt.1 (of_decide_eq_true h3)
    rw [hAl] at e1
    change Rw Int at r
    have hr1 : l.getD v Rw.nil = r := hr1
    obtain ⟨⟨g1, g2, g3⟩, g4⟩ := hr r (row_mem h3 hnl hr1)
    exact on_of g1 (by omega)
  · rename_i b0 h0 v hv h3 r hr1 h5
    change Nat at v
    obtain ⟨e1, e2⟩ : v ≤ ((l.take n).map blkOf).length ∧ (okH h && okBs ((l.take n).map blkOf) v) = true := hv
    have h3 : v < n := Int.ofNat_lt.1 (of_decide_eq_true h3)
    rw [hAl] at e1
    change Rw Int at r
    have hr1 : l.getD v Rw.nil = r := hr1
    obtain ⟨⟨g1, g2, g3⟩, g4⟩ := hr r (row_mem h3 hnl hr1)
    show (1 : Int).toNat + 0 < r.l.length
    rw [g4]; decide
  · rename_i b0 h0 v hv h3 r hr1 h5 h6
    change Nat at v
    obtain ⟨e1, e2⟩ : v ≤ ((l.take n).map blkOf).length ∧ (okH h && okBs ((l.take n).map blkOf) v) = true := hv
    have h3 : v < n := Int.ofNat_lt.1 (of_decide_eq_true h3)
    rw [hAl] at e1
    have h6 : 0 < v := Int.ofNat_lt.1 (of_decide_eq_true h6)
    exact inR64 (by show _ ≤ (v : Int) - 1; omega) (by show (v : Int) - 1 ≤ _; omega)
  · rename_i b0 h0 v hv h3 r hr1 h5 h6
    change Nat at v
    obtain ⟨e1, e2⟩ : v ≤ ((l.take n).map blkOf).length ∧ (okH h && okBs ((l.take n).map blkOf) v) = true := hv
    have h3 : v < n := Int.ofNat_lt.1 (of_decide_eq_true h3)
    rw [hAl] at e1
    exact on_of h1.2.2 (Nat.lt_of_le_of_lt (Nat.zero_le _) h3)
  · rename_i b0 h0 v hv h3 r hr1 h5 h6
    change Nat at v
    obtain ⟨e1, e2⟩ : v ≤ ((l.take n).map blkOf).length ∧ (okH h && okBs ((l.take n).map blkOf) v) = true := hv
    have h3 : v < n := Int.ofNat_lt.1 (of_decide_eq_true h3)
    rw [hAl] at e1
    have h6 : 0 < v := Int.ofNat_lt.1 (of_decide_eq_true h6)
    show (0 : Int) ≤ (v : Int) - 1
    omega
  · rename_i b0 h0 v hv h3 r hr1 h5 h6
    change Nat at v
    obtain ⟨e1, e2⟩ : v ≤ ((l.take n).map blkOf).length ∧ (okH h && okBs ((l.take n).map blkOf) v) = true := hv
    have h3 : v < n := Int.ofNat_lt.1 (of_decide_eq_true h3)
    rw [hAl] at e1
    have h6 : 0 < v := Int.ofNat_lt.1 (of_decide_eq_true h6)
    show (v : Int) - 1 < (n : Int)
    omega
  · rename_i b0 h0 v hv h3 r hr1 h5
    change Nat at v
    obtain ⟨e1, e2⟩ : v ≤ ((l.take n).map blkOf).length ∧ (okH h && okBs ((l.take n).map blkOf) v) = true := hv
    have h3 : v < n := Int.ofNat_lt.1 (of_decide_eq_true h3)
    rw [hAl] at e1
    change Rw Int at r
    have hr1 : l.getD v Rw.nil = r := hr1
    obtain ⟨⟨g1, g2, g3⟩, g4⟩ := hr r (row_mem h3 hnl hr1)
    have hAv : ((l.take n).map blkOf).getD v (0, 0) = blkOf r := by rw [map_at h3 hnl, hr1]
    have hb1 : (blkOf r).1 = r.l.getD 0 0 := by unfold blkOf; rfl
    have hb2 : (blkOf r).2 = r.l.getD 1 0 := by unfold blkOf; rfl
    have h5 : (decide (r.l.getD 0 0 < 0) || decide (64 ≤ r.l.getD 0 0) || !cn (r.l.getD 1 0)) = true := h5
    rw [← hb1, ← hb2] at h5
    refine (okP_noB (i := v + 1) ?_ (by rw [hAl]; omega)).symm
    rw [okBs, hAv]
    exact blk_no1 h5
  · rename_i b0 h0 v hv h3 r hr1 h5 h6
    change Nat at v
    obtain ⟨e1, e2⟩ : v ≤ ((l.take n).map blkOf).length ∧ (okH h && okBs ((l.take n).map blkOf) v) = true := hv
    have h3 : v < n := Int.ofNat_lt.1 (of_decide_eq_true h3)
    rw [hAl] at e1
    exact on_of h1.2.2 (Nat.lt_of_le_of_lt (Nat.zero_le _) h3)
  · rename_i b0 h0 v hv h3 r hr1 h5 h6
    change Nat at v
    obtain ⟨e1, e2⟩ : v ≤ ((l.take n).map blkOf).length ∧ (okH h && okBs ((l.take n).map blkOf) v) = true := hv
    have h3 : v < n := Int.ofNat_lt.1 (of_decide_eq_true h3)
    rw [hAl] at e1
    have h6 : 0 < v := Int.ofNat_lt.1 (of_decide_eq_true h6)
    show ((v : Int) - 1).toNat + 0 < l.length
    omega
  · rename_i b0 h0 v hv h3 r hr1 h5 h6 r2 hr2
    change Nat at v
    obtain ⟨e1, e2⟩ : v ≤ ((l.take n).map blkOf).length ∧ (okH h && okBs ((l.take n).map blkOf) v) = true := hv
    have h3 : v < n := Int.ofNat_lt.1 (of_decide_eq_true h3)
    rw [hAl] at e1
    have h6 : 0 < v := Int.ofNat_lt.1 (of_decide_eq_true h6)
    change Rw Int at r2
    have hr2 : l.getD ((v : Int) - 1).toNat Rw.nil = r2 := hr2
    obtain ⟨⟨g1, g2, g3⟩, g4⟩ := hr r2 (row_mem (by omega) hnl hr2)
    exact on_of g1 (by omega)
  · rename_i b0 h0 v hv h3 r hr1 h5 h6 r2 hr2
    change Nat at v
    obtain ⟨e1, e2⟩ : v ≤ ((l.take n).map blkOf).length ∧ (okH h && okBs ((l.take n).map blkOf) v) = true := hv
    have h3 : v < n := Int.ofNat_lt.1 (of_decide_eq_true h3)
    rw [hAl] at e1
    have h6 : 0 < v := Int.ofNat_lt.1 (of_decide_eq_true h6)
    change Rw Int at r2
    have hr2 : l.getD ((v : Int) - 1).toNat Rw.nil = r2 := hr2
    obtain ⟨⟨g1, g2, g3⟩, g4⟩ := hr r2 (row_mem (by omega) hnl hr2)
    show (0 : Int) < ((r2.l.length : Nat) : Int)
    rw [g4]; decide
  · rename_i b0 h0 v hv h3 r hr1 h5 h6 r2 hr2
    change Nat at v
    obtain ⟨e1, e2⟩ : v ≤ ((l.take n).map blkOf).length ∧ (okH h && okBs ((l.take n).map blkOf) v) = true := hv
    have h3 : v < n := Int.ofNat_lt.1 (of_decide_eq_true h3)
    rw [hAl] at e1
    have h6 : 0 < v := Int.ofNat_lt.1 (of_decide_eq_true h6)
    change Rw Int at r2
    have hr2 : l.getD ((v : Int) - 1).toNat Rw.nil = r2 := hr2
    obtain ⟨⟨g1, g2, g3⟩, g4⟩ := hr r2 (row_mem (by omega) hnl hr2)
    exact on_of g1 (by omega)
  · rename_i b0 h0 v hv h3 r hr1 h5 h6 r2 hr2
    change Nat at v
    obtain ⟨e1, e2⟩ : v ≤ ((l.take n).map blkOf).length ∧ (okH h && okBs ((l.take n).map blkOf) v) = true := hv
    have h3 : v < n := Int.ofNat_lt.1 (of_decide_eq_true h3)
    rw [hAl] at e1
    have h6 : 0 < v := Int.ofNat_lt.1 (of_decide_eq_true h6)
    change Rw Int at r2
    have hr2 : l.getD ((v : Int) - 1).toNat Rw.nil = r2 := hr2
    obtain ⟨⟨g1, g2, g3⟩, g4⟩ := hr r2 (row_mem (by omega) hnl hr2)
    show (0 : Int).toNat + 0 < r2.l.length
    rw [g4]; decide
  · rename_i b0 h0 v hv h3 r hr1 h5 h6 r2 hr2
    change Nat at v
    obtain ⟨e1, e2⟩ : v ≤ ((l.take n).map blkOf).length ∧ (okH h && okBs ((l.take n).map blkOf) v) = true := hv
    have h3 : v < n := Int.ofNat_lt.1 (of_decide_eq_true h3)
    rw [hAl] at e1
    change Rw Int at r
    have hr1 : l.getD v Rw.nil = r := hr1
    obtain ⟨⟨g1, g2, g3⟩, g4⟩ := hr r (row_mem h3 hnl hr1)
    exact on_of g1 (by omega)
  · rename_i b0 h0 v hv h3 r hr1 h5 h6 r2 hr2
    change Nat at v
    obtain ⟨e1, e2⟩ : v ≤ ((l.take n).map blkOf).length ∧ (okH h && okBs ((l.take n).map blkOf) v) = true := hv
    have h3 : v < n := Int.ofNat_lt.1 (of_decide_eq_true h3)
    rw [hAl] at e1
    change Rw Int at r
    have hr1 : l.getD v Rw.nil = r := hr1
    obtain ⟨⟨g1, g2, g3⟩, g4⟩ := hr r (row_mem h3 hnl hr1)
    show (0 : Int) < ((r.l.length : Nat) : Int)
    rw [g4]; decide
  · rename_i b0 h0 v hv h3 r hr1 h5 h6 r2 hr2
    change Nat at v
    obtain ⟨e1, e2⟩ : v ≤ ((l.take n).map blkOf).length ∧ (okH h && okBs ((l.take n).map blkOf) v) = true := hv
    have h3 : v < n := Int.ofNat_lt.1 (of_decide_eq_true h3)
    rw [hAl] at e1
    change Rw Int at r
    have hr1 : l.getD v Rw.nil = r := hr1
    obtain ⟨⟨g1, g2, g3⟩, g4⟩ := hr r (row_mem h3 hnl hr1)
    exact on_of g1 (by omega)
  · rename_i b0 h0 v hv h3 r hr1 h5 h6 r2 hr2
    change Nat at v
    obtain ⟨e1, e2⟩ : v ≤ ((l.take n).map blkOf).length ∧ (okH h && okBs ((l.take n).map blkOf) v) = true := hv
    have h3 : v < n := Int.ofNat_lt.1 (of_decide_eq_true h3)
    rw [hAl] at e1
    change Rw Int at r
    have hr1 : l.getD v Rw.nil = r := hr1
    obtain ⟨⟨g1, g2, g3⟩, g4⟩ := hr r (row_mem h3 hnl hr1)
    show (0 : Int).toNat + 0 < r.l.length
    rw [g4]; decide
  · rename_i b0 h0 v hv h3 r hr1 h5 h6 r2 hr2 h7
    change Nat at v
    obtain ⟨e1, e2⟩ : v ≤ ((l.take n).map blkOf).length ∧ (okH h && okBs ((l.take n).map blkOf) v) = true := hv
    have h3 : v < n := Int.ofNat_lt.1 (of_decide_eq_true h3)
    rw [hAl] at e1
    have h6 : 0 < v := Int.ofNat_lt.1 (of_decide_eq_true h6)
    change Rw Int at r
    have hr1 : l.getD v Rw.nil = r := hr1
    obtain ⟨⟨g1, g2, g3⟩, g4⟩ := hr r (row_mem h3 hnl hr1)
    change Rw Int at r2
    have hr2 : l.getD ((v : Int) - 1).toNat Rw.nil = r2 := hr2
    obtain _ := hr r2 (row_mem (by omega) hnl hr2)
    have hAv : ((l.take n).map blkOf).getD v (0, 0) = blkOf r := by rw [map_at h3 hnl, hr1]
    have hb1 : (blkOf r).1 = r.l.getD 0 0 := by unfold blkOf; rfl
    have hb2 : (blkOf r).2 = r.l.getD 1 0 := by unfold blkOf; rfl
    have h5 : (decide (r.l.getD 0 0 < 0) || decide (64 ≤ r.l.getD 0 0) || !cn (r.l.getD 1 0)) = false := h5
    rw [← hb1, ← hb2] at h5
    have hAp : ((l.take n).map blkOf).getD (v - 1) (0, 0) = blkOf r2 := by
      rw [map_at (by omega) hnl, ← hr2]; congr 2; omega
    have hb3 : (blkOf r2).1 = r2.l.getD 0 0 := by unfold blkOf; rfl
    have h7 : decide (r.l.getD 0 0 ≤ r2.l.getD 0 0) = true := h7
    rw [← hb1, ← hb3] at h7
    refine (okP_noB (i := v + 1) ?_ (by rw [hAl]; omega)).symm
    rw [okBs, hAv]
    rw [hAp]
    exact blk_no2 h6 (of_decide_eq_true h7)
  · rename_i b0 h0 v hv h3 r hr1 h5 h6 r2 hr2 h7
    change Nat at v
    obtain ⟨e1, e2⟩ : v ≤ ((l.take n).map blkOf).length ∧ (okH h && okBs ((l.take n).map blkOf) v) = true := hv
    have h3 : v < n := Int.ofNat_lt.1 (of_decide_eq_true h3)
    rw [hAl] at e1
    exact inR64 (by show _ ≤ (v : Int) + 1; omega) (by show (v : Int) + 1 ≤ _; omega)
  · rename_i b0 h0 v hv h3 r hr1 h5 h6 r2 hr2 h7
    change Nat at v
    obtain ⟨e1, e2⟩ : v ≤ ((l.take n).map blkOf).length ∧ (okH h && okBs ((l.take n).map blkOf) v) = true := hv
    have h3 : v < n := Int.ofNat_lt.1 (of_decide_eq_true h3)
    rw [hAl] at e1
    have h6 : 0 < v := Int.ofNat_lt.1 (of_decide_eq_true h6)
    change Rw Int at r
    have hr1 : l.getD v Rw.nil = r := hr1
    obtain ⟨⟨g1, g2, g3⟩, g4⟩ := hr r (row_mem h3 hnl hr1)
    change Rw Int at r2
    have hr2 : l.getD ((v : Int) - 1).toNat Rw.nil = r2 := hr2
    obtain _ := hr r2 (row_mem (by omega) hnl hr2)
    have hAv : ((l.take n).map blkOf).getD v (0, 0) = blkOf r := by rw [map_at h3 hnl, hr1]
    have hb1 : (blkOf r).1 = r.l.getD 0 0 := by unfold blkOf; rfl
    have hb2 : (blkOf r).2 = r.l.getD 1 0 := by unfold blkOf; rfl
    have h5 : (decide (r.l.getD 0 0 < 0) || decide (64 ≤ r.l.getD 0 0) || !cn (r.l.getD 1 0)) = false := h5
    rw [← hb1, ← hb2] at h5
    have hAp : ((l.take n).map blkOf).getD (v - 1) (0, 0) = blkOf r2 := by
      rw [map_at (by omega) hnl, ← hr2]; congr 2; omega
    have hb3 : (blkOf r2).1 = r2.l.getD 0 0 := by unfold blkOf; rfl
    have h7 : decide (r.l.getD 0 0 ≤ r2.l.getD 0 0) = false := h7
    rw [← hb1, ← hb3] at h7
    simp only [Bool.and_eq_true] at e2
    refine Stands.one (v + 1 : Nat) ⟨⟨by rw [hAl]; exact h3, ?_⟩, ?_, ?_⟩
    · show (okH h && okBs ((l.take n).map blkOf) (v + 1)) = true
      rw [okBs, hAv, e2.1, e2.2]
      rw [hAp]; exact blk_yes h5 (.inr (of_decide_eq_false h7))
    · show ((l.take n).map blkOf).length - (v + 1) < ((l.take n).map blkOf).length - v
      rw [hAl]; omega
    ((conv => (arg 1; reduce)); with_reducible repeat' (first | exact Tr.yes_h | refine Tr.and_h ?_ ?_ | refine Tr.imp_h fun _ => ?_ | refine Tr.all_h fun _ => ?_ | refine Tr.lf_h ?_))
    all_goals (first | first | (show Region.lexB _ _ = true; kernel_rfl) | (show planned _ _ = true; kernel_rfl) | exact rfl | exact True.intro | ((try dsimp only [imp, C0, cG, cInt, cPl, cSlot, cPg, rwCodec, cRaw] at *); (try refine inR64 ?_ ?_) <;> (try simp only [List.length_set, List.length_append, List.length_take, List.length_drop]) <;> omega))
  · rename_i b0 h0 v hv h3 r hr1 h5 h6
    change Nat at v
    obtain ⟨e1, e2⟩ : v ≤ ((l.take n).map blkOf).length ∧ (okH h && okBs ((l.take n).map blkOf) v) = true := hv
    have h3 : v < n := Int.ofNat_lt.1 (of_decide_eq_true h3)
    rw [hAl] at e1
    exact inR64 (by show _ ≤ (v : Int) + 1; omega) (by show (v : Int) + 1 ≤ _; omega)
  · rename_i b0 h0 v hv h3 r hr1 h5 h6
    change Nat at v
    obtain ⟨e1, e2⟩ : v ≤ ((l.take n).map blkOf).length ∧ (okH h && okBs ((l.take n).map blkOf) v) = true := hv
    have h3 : v < n := Int.ofNat_lt.1 (of_decide_eq_true h3)
    rw [hAl] at e1
    have h6 : ¬ 0 < v := fun hq => of_decide_eq_false h6 (Int.ofNat_lt.2 hq)
    change Rw Int at r
    have hr1 : l.getD v Rw.nil = r := hr1
    obtain ⟨⟨g1, g2, g3⟩, g4⟩ := hr r (row_mem h3 hnl hr1)
    have hAv : ((l.take n).map blkOf).getD v (0, 0) = blkOf r := by rw [map_at h3 hnl, hr1]
    have hb1 : (blkOf r).1 = r.l.getD 0 0 := by unfold blkOf; rfl
    have hb2 : (blkOf r).2 = r.l.getD 1 0 := by unfold blkOf; rfl
    have h5 : (decide (r.l.getD 0 0 < 0) || decide (64 ≤ r.l.getD 0 0) || !cn (r.l.getD 1 0)) = false := h5
    rw [← hb1, ← hb2] at h5
    simp only [Bool.and_eq_true] at e2
    refine Stands.one (v + 1 : Nat) ⟨⟨by rw [hAl]; exact h3, ?_⟩, ?_, ?_⟩
    · show (okH h && okBs ((l.take n).map blkOf) (v + 1)) = true
      rw [okBs, hAv, e2.1, e2.2]
      exact blk_yes h5 (.inl (by omega))
    · show ((l.take n).map blkOf).length - (v + 1) < ((l.take n).map blkOf).length - v
      rw [hAl]; omega
    ((conv => (arg 1; reduce)); with_reducible repeat' (first | exact Tr.yes_h | refine Tr.and_h ?_ ?_ | refine Tr.imp_h fun _ => ?_ | refine Tr.all_h fun _ => ?_ | refine Tr.lf_h ?_))
    all_goals (first | first | (show Region.lexB _ _ = true; kernel_rfl) | (show planned _ _ = true; kernel_rfl) | exact rfl | exact True.intro | ((try dsimp only [imp, C0, cG, cInt, cPl, cSlot, cPg, rwCodec, cRaw] at *); (try refine inR64 ?_ ?_) <;> (try simp only [List.length_set, List.length_append, List.length_take, List.length_drop]) <;> omega))
  · rename_i b0 h0 v hv h3
    change Nat at v
    obtain ⟨e1, e2⟩ : v ≤ ((l.take n).map blkOf).length ∧ (okH h && okBs ((l.take n).map blkOf) v) = true := hv
    have h3 : ¬ v < n := fun hq => of_decide_eq_false h3 (Int.ofNat_lt.2 hq)
    rw [hAl] at e1
    obtain rfl : v = n := by omega
    refine Stands.one (0 : Nat) ⟨⟨Nat.zero_le _, by rw [okSs, hAl]; exact e2⟩, ?_⟩
    ((conv => (arg 1; reduce)); with_reducible repeat' (first | exact Tr.yes_h | refine Tr.and_h ?_ ?_ | refine Tr.imp_h fun _ => ?_ | refine Tr.all_h fun _ => ?_ | refine Tr.lf_h ?_))
    all_goals (first | first | (show Region.lexB _ _ = true; kernel_rfl) | (show planned _ _ = true; kernel_rfl) | exact rfl | exact True.intro | ((try dsimp only [imp, C0, cG, cInt, cPl, cSlot, cPg, rwCodec, cRaw] at *); (try refine inR64 ?_ ?_) <;> (try simp only [List.length_set, List.length_append, List.length_take, List.length_drop]) <;> omega))
  · rename_i b0 h0 v hv h3 w hw h4
    change Nat at w
    obtain ⟨f1, f2⟩ : w ≤ (l2.take n2).length ∧ okSs ((l.take n).map blkOf) (okH h && okBs ((l.take n).map blkOf) ((l.take n).map blkOf).length) (l2.take n2) w = true := hw
    have h4 : w < n2 := Int.ofNat_lt.1 (of_decide_eq_true h4)
    have hBw : (l2.take n2).getD w slot0 = l2.getD w slot0 := tk_at h4
    exact on_of h2.2.2 (Nat.lt_of_le_of_lt (Nat.zero_le _) h4)
  · rename_i b0 h0 v hv h3 w hw h4
    change Nat at w
    obtain ⟨f1, f2⟩ : w ≤ (l2.take n2).length ∧ okSs ((l.take n).map blkOf) (okH h && okBs ((l.take n).map blkOf) ((l.take n).map blkOf).length) (l2.take n2) w = true := hw
    have h4 : w < n2 := Int.ofNat_lt.1 (of_decide_eq_true h4)
    have hBw : (l2.take n2).getD w slot0 = l2.getD w slot0 := tk_at h4
    exact Int.ofNat_lt.2 h4
  · rename_i b0 h0 v hv h3 w hw h4
    change Nat at w
    obtain ⟨f1, f2⟩ : w ≤ (l2.take n2).length ∧ okSs ((l.take n).map blkOf) (okH h && okBs ((l.take n).map blkOf) ((l.take n).map blkOf).length) (l2.take n2) w = true := hw
    have h4 : w < n2 := Int.ofNat_lt.1 (of_decide_eq_true h4)
    have hBw : (l2.take n2).getD w slot0 = l2.getD w slot0 := tk_at h4
    exact on_of h2.2.2 (Nat.lt_of_le_of_lt (Nat.zero_le _) h4)
  · rename_i b0 h0 v hv h3 w hw h4
    change Nat at w
    obtain ⟨f1, f2⟩ : w ≤ (l2.take n2).length ∧ okSs ((l.take n).map blkOf) (okH h && okBs ((l.take n).map blkOf) ((l.take n).map blkOf).length) (l2.take n2) w = true := hw
    have h4 : w < n2 := Int.ofNat_lt.1 (of_decide_eq_true h4)
    have hBw : (l2.take n2).getD w slot0 = l2.getD w slot0 := tk_at h4
    show (w : Int).toNat + 0 < l2.length
    omega
  · rename_i b0 h0 v hv h3 w hw h4 bs
    change Nat at w
    obtain ⟨f1, f2⟩ : w ≤ (l2.take n2).length ∧ okSs ((l.take n).map blkOf) (okH h && okBs ((l.take n).map blkOf) ((l.take n).map blkOf).length) (l2.take n2) w = true := hw
    have h4 : w < n2 := Int.ofNat_lt.1 (of_decide_eq_true h4)
    have hBw : (l2.take n2).getD w slot0 = l2.getD w slot0 := tk_at h4
    refine Stands.one (0, false, w) ⟨⟨Nat.zero_le _, anyF_zero.symm⟩, ?_⟩
    ((conv => (arg 1; reduce)); with_reducible repeat' (first | exact Tr.yes_h | refine Tr.and_h ?_ ?_ | refine Tr.imp_h fun _ => ?_ | refine Tr.all_h fun _ => ?_ | refine Tr.lf_h ?_))
    all_goals (first | first | (show Region.lexB _ _ = true; kernel_rfl) | (show planned _ _ = true; kernel_rfl) | exact rfl | exact True.intro | ((try dsimp only [imp, C0, cG, cInt, cPl, cSlot, cPg, rwCodec, cRaw] at *); (try refine inR64 ?_ ?_) <;> (try simp only [List.length_set, List.length_append, List.length_take, List.length_drop]) <;> omega))
  · rename_i b0 h0 v hv h3 w hw h4 bs k hk hl h5 h6
    change Nat at w
    obtain ⟨f1, f2⟩ : w ≤ (l2.take n2).length ∧ okSs ((l.take n).map blkOf) (okH h && okBs ((l.take n).map blkOf) ((l.take n).map blkOf).length) (l2.take n2) w = true := hw
    have h4 : w < n2 := Int.ofNat_lt.1 (of_decide_eq_true h4)
    have hBw : (l2.take n2).getD w slot0 = l2.getD w slot0 := tk_at h4
    obtain ⟨k, nd, w2⟩ := k
    obtain rfl : w = w2 := Int.ofNat_inj.1 hl
    obtain ⟨k1, k2⟩ : k ≤ ((l.take n).map blkOf).length ∧ nd = anyF (fun b => decide (b.1 = ((l2.take n2).getD w slot0).pl.1)) (((l.take n).map blkOf).take k) := hk
    rw [hBw] at k2
    have h5n : k < n := Int.ofNat_lt.1 (of_decide_eq_true h5)
    exact on_of h1.2.2 (Nat.lt_of_le_of_lt (Nat.zero_le _) h5n)
  · rename_i b0 h0 v hv h3 w hw h4 bs k hk hl h5 h6
    change Nat at w
    obtain ⟨f1, f2⟩ : w ≤ (l2.take n2).length ∧ okSs ((l.take n).map blkOf) (okH h && okBs ((l.take n).map blkOf) ((l.take n).map blkOf).length) (l2.take n2) w = true := hw
    have h4 : w < n2 := Int.ofNat_lt.1 (of_decide_eq_true h4)
    have hBw : (l2.take n2).getD w slot0 = l2.getD w slot0 := tk_at h4
    obtain ⟨k, nd, w2⟩ := k
    obtain rfl : w = w2 := Int.ofNat_inj.1 hl
    obtain ⟨k1, k2⟩ : k ≤ ((l.take n).map blkOf).length ∧ nd = anyF (fun b => decide (b.1 = ((l2.take n2).getD w slot0).pl.1)) (((l.take n).map blkOf).take k) := hk
    rw [hBw] at k2
    have h5n : k < n := Int.ofNat_lt.1 (of_decide_eq_true h5)
    exact Int.ofNat_lt.2 h5n
  · rename_i b0 h0 v hv h3 w hw h4 bs k hk hl h5 h6
    change Nat at w
    obtain ⟨f1, f2⟩ : w ≤ (l2.take n2).length ∧ okSs ((l.take n).map blkOf) (okH h && okBs ((l.take n).map blkOf) ((l.take n).map blkOf).length) (l2.take n2) w = true := hw
    have h4 : w < n2 := Int.ofNat_lt.1 (of_decide_eq_true h4)
    have hBw : (l2.take n2).getD w slot0 = l2.getD w slot0 := tk_at h4
    obtain ⟨k, nd, w2⟩ := k
    obtain rfl : w = w2 := Int.ofNat_inj.1 hl
    obtain ⟨k1, k2⟩ : k ≤ ((l.take n).map blkOf).length ∧ nd = anyF (fun b => decide (b.1 = ((l2.take n2).getD w slot0).pl.1)) (((l.take n).map blkOf).take k) := hk
    rw [hBw] at k2
    have h5n : k < n := Int.ofNat_lt.1 (of_decide_eq_true h5)
    exact inR64 (by show _ ≤ (k : Int) + 1; omega) (by show (k : Int) + 1 ≤ _; omega)
  · rename_i b0 h0 v hv h3 w hw h4 bs k hk hl h5 h6
    change Nat at w
    obtain ⟨f1, f2⟩ : w ≤ (l2.take n2).length ∧ okSs ((l.take n).map blkOf) (okH h && okBs ((l.take n).map blkOf) ((l.take n).map blkOf).length) (l2.take n2) w = true := hw
    have h4 : w < n2 := Int.ofNat_lt.1 (of_decide_eq_true h4)
    have hBw : (l2.take n2).getD w slot0 = l2.getD w slot0 := tk_at h4
    obtain ⟨k, nd, w2⟩ := k
    obtain rfl : w = w2 := Int.ofNat_inj.1 hl
    obtain ⟨k1, k2⟩ : k ≤ ((l.take n).map blkOf).length ∧ nd = anyF (fun b => decide (b.1 = ((l2.take n2).getD w slot0).pl.1)) (((l.take n).map blkOf).take k) := hk
    rw [hBw] at k2
    have h5n : k < n := Int.ofNat_lt.1 (of_decide_eq_true h5)
    have h6 : nd = true := h6
    subst h6
    refine Stands.one (k + 1, true, w) ⟨⟨by rw [hAl]; exact h5n, ?_⟩, ?_, ?_⟩
    · show _ = anyF (fun b => decide (b.1 = ((l2.take n2).getD w slot0).pl.1)) (((l.take n).map blkOf).take (k + 1))
      rw [hBw, anyF_snoc (d := (0, 0)) (by rw [hAl]; exact h5n), ← k2]
      rfl
    · show ((l.take n).map blkOf).length - (k + 1) < ((l.take n).map blkOf).length - k
      rw [hAl]; omega
    ((conv => (arg 1; reduce)); with_reducible repeat' (first | exact Tr.yes_h | refine Tr.and_h ?_ ?_ | refine Tr.imp_h fun _ => ?_ | refine Tr.all_h fun _ => ?_ | refine Tr.lf_h ?_))
    all_goals (first | first | (show Region.lexB _ _ = true; kernel_rfl) | (show planned _ _ = true; kernel_rfl) | exact rfl | exact True.intro | ((try dsimp only [imp, C0, cG, cInt, cPl, cSlot, cPg, rwCodec, cRaw] at *); (try refine inR64 ?_ ?_) <;> (try simp only [List.length_set, List.length_append, List.length_take, List.length_drop]) <;> omega))
  · rename_i b0 h0 v hv h3 w hw h4 bs k hk hl h5 h6
    change Nat at w
    obtain ⟨f1, f2⟩ : w ≤ (l2.take n2).length ∧ okSs ((l.take n).map blkOf) (okH h && okBs ((l.take n).map blkOf) ((l.take n).map blkOf).length) (l2.take n2) w = true := hw
    have h4 : w < n2 := Int.ofNat_lt.1 (of_decide_eq_true h4)
    have hBw : (l2.take n2).getD w slot0 = l2.getD w slot0 := tk_at h4
    obtain ⟨k, nd, w2⟩ := k
    obtain rfl : w = w2 := Int.ofNat_inj.1 hl
    obtain ⟨k1, k2⟩ : k ≤ ((l.take n).map blkOf).length ∧ nd = anyF (fun b => decide (b.1 = ((l2.take n2).getD w slot0).pl.1)) (((l.take n).map blkOf).take k) := hk
    rw [hBw] at k2
    have h5n : k < n := Int.ofNat_lt.1 (of_decide_eq_true h5)
    exact on_of h1.2.2 (Nat.lt_of_le_of_lt (Nat.zero_le _) h5n)
  · rename_i b0 h0 v hv h3 w hw h4 bs k hk hl h5 h6
    change Nat at w
    obtain ⟨f1, f2⟩ : w ≤ (l2.take n2).length ∧ okSs ((l.take n).map blkOf) (okH h && okBs ((l.take n).map blkOf) ((l.take n).map blkOf).length) (l2.take n2) w = true := hw
    have h4 : w < n2 := Int.ofNat_lt.1 (of_decide_eq_true h4)
    have hBw : (l2.take n2).getD w slot0 = l2.getD w slot0 := tk_at h4
    obtain ⟨k, nd, w2⟩ := k
    obtain rfl : w = w2 := Int.ofNat_inj.1 hl
    obtain ⟨k1, k2⟩ : k ≤ ((l.take n).map blkOf).length ∧ nd = anyF (fun b => decide (b.1 = ((l2.take n2).getD w slot0).pl.1)) (((l.take n).map blkOf).take k) := hk
    rw [hBw] at k2
    have h5n : k < n := Int.ofNat_lt.1 (of_decide_eq_true h5)
    show (k : Int).toNat + 0 < l.length
    omega
  · rename_i b0 h0 v hv h3 w hw h4 bs k hk hl h5 h6 r hr1
    change Nat at w
    obtain ⟨f1, f2⟩ : w ≤ (l2.take n2).length ∧ okSs ((l.take n).map blkOf) (okH h && okBs ((l.take n).map blkOf) ((l.take n).map blkOf).length) (l2.take n2) w = true := hw
    have h4 : w < n2 := Int.ofNat_lt.1 (of_decide_eq_true h4)
    have hBw : (l2.take n2).getD w slot0 = l2.getD w slot0 := tk_at h4
    obtain ⟨k, nd, w2⟩ := k
    obtain rfl : w = w2 := Int.ofNat_inj.1 hl
    obtain ⟨k1, k2⟩ : k ≤ ((l.take n).map blkOf).length ∧ nd = anyF (fun b => decide (b.1 = ((l2.take n2).getD w slot0).pl.1)) (((l.take n).map blkOf).take k) := hk
    rw [hBw] at k2
    have h5n : k < n := Int.ofNat_lt.1 (of_decide_eq_true h5)
    change Rw Int at r
    have hr1n : l.getD k Rw.nil = r := hr1
    obtain ⟨⟨g1, g2, g3⟩, g4⟩ := hr r (row_mem h5n hnl hr1n)
    exact on_of g1 (by omega)
  · rename_i b0 h0 v hv h3 w hw h4 bs k hk hl h5 h6 r hr1
    change Nat at w
    obtain ⟨f1, f2⟩ : w ≤ (l2.take n2).length ∧ okSs ((l.take n).map blkOf) (okH h && okBs ((l.take n).map blkOf) ((l.take n).map blkOf).length) (l2.take n2) w = true := hw
    have h4 : w < n2 := Int.ofNat_lt.1 (of_decide_eq_true h4)
    have hBw : (l2.take n2).getD w slot0 = l2.getD w slot0 := tk_at h4
    obtain ⟨k, nd, w2⟩ := k
    obtain rfl : w = w2 := Int.ofNat_inj.1 hl
    obtain ⟨k1, k2⟩ : k ≤ ((l.take n).map blkOf).length ∧ nd = anyF (fun b => decide (b.1 = ((l2.take n2).getD w slot0).pl.1)) (((l.take n).map blkOf).take k) := hk
    rw [hBw] at k2
    have h5n : k < n := Int.ofNat_lt.1 (of_decide_eq_true h5)
    change Rw Int at r
    have hr1n : l.getD k Rw.nil = r := hr1
    obtain ⟨⟨g1, g2, g3⟩, g4⟩ := hr r (row_mem h5n hnl hr1n)
    show (0 : Int) < ((r.l.length : Nat) : Int)
    rw [g4]; decide
  · rename_i b0 h0 v hv h3 w hw h4 bs k hk hl h5 h6 r hr1
    change Nat at w
    obtain ⟨f1, f2⟩ : w ≤ (l2.take n2).length ∧ okSs ((l.take n).map blkOf) (okH h && okBs ((l.take n).map blkOf) ((l.take n).map blkOf).length) (l2.take n2) w = true := hw
    have h4 : w < n2 := Int.ofNat_lt.1 (of_decide_eq_true h4)
    have hBw : (l2.take n2).getD w slot0 = l2.getD w slot0 := tk_at h4
    obtain ⟨k, nd, w2⟩ := k
    obtain rfl : w = w2 := Int.ofNat_inj.1 hl
    obtain ⟨k1, k2⟩ : k ≤ ((l.take n).map blkOf).length ∧ nd = anyF (fun b => decide (b.1 = ((l2.take n2).getD w slot0).pl.1)) (((l.take n).map blkOf).take k) := hk
    rw [hBw] at k2
    have h5n : k < n := Int.ofNat_lt.1 (of_decide_eq_true h5)
    change Rw Int at r
    have hr1n : l.getD k Rw.nil = r := hr1
    obtain ⟨⟨g1, g2, g3⟩, g4⟩ := hr r (row_mem h5n hnl hr1n)
    exact on_of g1 (by omega)
  · rename_i b0 h0 v hv h3 w hw h4 bs k hk hl h5 h6 r hr1
    change Nat at w
    obtain ⟨f1, f2⟩ : w ≤ (l2.take n2).length ∧ okSs ((l.take n).map blkOf) (okH h && okBs ((l.take n).map blkOf) ((l.take n).map blkOf).length) (l2.take n2) w = true := hw
    have h4 : w < n2 := Int.ofNat_lt.1 (of_decide_eq_true h4)
    have hBw : (l2.take n2).getD w slot0 = l2.getD w slot0 := tk_at h4
    obtain ⟨k, nd, w2⟩ := k
    obtain rfl : w = w2 := Int.ofNat_inj.1 hl
    obtain ⟨k1, k2⟩ : k ≤ ((l.take n).map blkOf).length ∧ nd = anyF (fun b => decide (b.1 = ((l2.take n2).getD w slot0).pl.1)) (((l.take n).map blkOf).take k) := hk
    rw [hBw] at k2
    have h5n : k < n := Int.ofNat_lt.1 (of_decide_eq_true h5)
    change Rw Int at r
    have hr1n : l.getD k Rw.nil = r := hr1
    obtain ⟨⟨g1, g2, g3⟩, g4⟩ := hr r (row_mem h5n hnl hr1n)
    show (0 : Int).toNat + 0 < r.l.length
    rw [g4]; decide
  · rename_i b0 h0 v hv h3 w hw h4 bs k hk hl h5 h6 r hr1
    change Nat at w
    obtain ⟨f1, f2⟩ : w ≤ (l2.take n2).length ∧ okSs ((l.take n).map blkOf) (okH h && okBs ((l.take n).map blkOf) ((l.take n).map blkOf).length) (l2.take n2) w = true := hw
    have h4 : w < n2 := Int.ofNat_lt.1 (of_decide_eq_true h4)
    have hBw : (l2.take n2).getD w slot0 = l2.getD w slot0 := tk_at h4
    obtain ⟨k, nd, w2⟩ := k
    obtain rfl : w = w2 := Int.ofNat_inj.1 hl
    obtain ⟨k1, k2⟩ : k ≤ ((l.take n).map blkOf).length ∧ nd = anyF (fun b => decide (b.1 = ((l2.take n2).getD w slot0).pl.1)) (((l.take n).map blkOf).take k) := hk
    rw [hBw] at k2
    have h5n : k < n := Int.ofNat_lt.1 (of_decide_eq_true h5)
    exact inR64 (by show _ ≤ (k : Int) + 1; omega) (by show (k : Int) + 1 ≤ _; omega)
  · rename_i b0 h0 v hv h3 w hw h4 bs k hk hl h5 h6 r hr1
    change Nat at w
    obtain ⟨f1, f2⟩ : w ≤ (l2.take n2).length ∧ okSs ((l.take n).map blkOf) (okH h && okBs ((l.take n).map blkOf) ((l.take n).map blkOf).length) (l2.take n2) w = true := hw
    have h4 : w < n2 := Int.ofNat_lt.1 (of_decide_eq_true h4)
    have hBw : (l2.take n2).getD w slot0 = l2.getD w slot0 := tk_at h4
    obtain ⟨k, nd, w2⟩ := k
    obtain rfl : w = w2 := Int.ofNat_inj.1 hl
    obtain ⟨k1, k2⟩ : k ≤ ((l.take n).map blkOf).length ∧ nd = anyF (fun b => decide (b.1 = ((l2.take n2).getD w slot0).pl.1)) (((l.take n).map blkOf).take k) := hk
    rw [hBw] at k2
    have h5n : k < n := Int.ofNat_lt.1 (of_decide_eq_true h5)
    change Rw Int at r
    have hr1n : l.getD k Rw.nil = r := hr1
    obtain ⟨⟨g1, g2, g3⟩, g4⟩ := hr r (row_mem h5n hnl hr1n)
    have h6 : nd = false := h6
    subst h6
    refine Stands.one (k + 1, decide (r.l.getD 0 0 = (l2.getD w slot0).pl.1), w) ⟨⟨by rw [hAl]; exact h5n, ?_⟩, ?_, ?_⟩
    · show _ = anyF (fun b => decide (b.1 = ((l2.take n2).getD w slot0).pl.1)) (((l.take n).map blkOf).take (k + 1))
      rw [hBw, anyF_snoc (d := (0, 0)) (by rw [hAl]; exact h5n), ← k2]
      rw [map_at h5n hnl, hr1n, Bool.false_or]
      unfold blkOf; rfl
    · show ((l.take n).map blkOf).length - (k + 1) < ((l.take n).map blkOf).length - k
      rw [hAl]; omega
    ((conv => (arg 1; reduce)); with_reducible repeat' (first | exact Tr.yes_h | refine Tr.and_h ?_ ?_ | refine Tr.imp_h fun _ => ?_ | refine Tr.all_h fun _ => ?_ | refine Tr.lf_h ?_))
    all_goals (first | first | (show Region.lexB _ _ = true; kernel_rfl) | (show planned _ _ = true; kernel_rfl) | exact rfl | exact True.intro | ((try dsimp only [imp, C0, cG, cInt, cPl, cSlot, cPg, rwCodec, cRaw] at *); (try refine inR64 ?_ ?_) <;> (try simp only [List.length_set, List.length_append, List.length_take, List.length_drop]) <;> omega))
  · rename_i b0 h0 v hv h3 w hw h4 bs k hk hl h5 h6
    change Nat at w
    obtain ⟨f1, f2⟩ : w ≤ (l2.take n2).length ∧ okSs ((l.take n).map blkOf) (okH h && okBs ((l.take n).map blkOf) ((l.take n).map blkOf).length) (l2.take n2) w = true := hw
    have h4 : w < n2 := Int.ofNat_lt.1 (of_decide_eq_true h4)
    have hBw : (l2.take n2).getD w slot0 = l2.getD w slot0 := tk_at h4
    obtain ⟨k, nd, w2⟩ := k
    obtain rfl : w = w2 := Int.ofNat_inj.1 hl
    obtain ⟨k1, k2⟩ : k ≤ ((l.take n).map blkOf).length ∧ nd = anyF (fun b => decide (b.1 = ((l2.take n2).getD w slot0).pl.1)) (((l.take n).map blkOf).take k) := hk
    rw [hBw] at k2
    have h5 : ¬ k < n := fun hq => of_decide_eq_false h5 (Int.ofNat_lt.2 hq)
    rw [hAl] at k1
    rw [List.take_of_length_le (l := (l.take n).map blkOf) (by rw [hAl]; omega)] at k2
    have h6 : (!nd || decide ((l2.getD w slot0).pl.2 < 0) || decide (64 ≤ (l2.getD w slot0).pl.2) || !cn (l2.getD w slot0).key || !okMe (l2.getD w slot0).me) = true := h6
    rw [k2] at h6
    refine (okP_noS (i := w + 1) ?_ (by rw [tk_len hnl2]; omega)).symm
    rw [okSs, hBw]
    exact slt_no1 h6
  · rename_i b0 h0 v hv h3 w hw h4 bs k hk hl h5 h6 h7
    change Nat at w
    obtain ⟨f1, f2⟩ : w ≤ (l2.take n2).length ∧ okSs ((l.take n).map blkOf) (okH h && okBs ((l.take n).map blkOf) ((l.take n).map blkOf).length) (l2.take n2) w = true := hw
    have h4 : w < n2 := Int.ofNat_lt.1 (of_decide_eq_true h4)
    have hBw : (l2.take n2).getD w slot0 = l2.getD w slot0 := tk_at h4
    obtain ⟨k, nd, w2⟩ := k
    obtain rfl : w = w2 := Int.ofNat_inj.1 hl
    obtain ⟨k1, k2⟩ : k ≤ ((l.take n).map blkOf).length ∧ nd = anyF (fun b => decide (b.1 = ((l2.take n2).getD w slot0).pl.1)) (((l.take n).map blkOf).take k) := hk
    rw [hBw] at k2
    have h7 : 0 < w := Int.ofNat_lt.1 (of_decide_eq_true h7)
    exact inR64 (by show _ ≤ (w : Int) - 1; omega) (by show (w : Int) - 1 ≤ _; omega)
  · rename_i b0 h0 v hv h3 w hw h4 bs k hk hl h5 h6 h7
    change Nat at w
    obtain ⟨f1, f2⟩ : w ≤ (l2.take n2).length ∧ okSs ((l.take n).map blkOf) (okH h && okBs ((l.take n).map blkOf) ((l.take n).map blkOf).length) (l2.take n2) w = true := hw
    have h4 : w < n2 := Int.ofNat_lt.1 (of_decide_eq_true h4)
    have hBw : (l2.take n2).getD w slot0 = l2.getD w slot0 := tk_at h4
    obtain ⟨k, nd, w2⟩ := k
    obtain rfl : w = w2 := Int.ofNat_inj.1 hl
    obtain ⟨k1, k2⟩ : k ≤ ((l.take n).map blkOf).length ∧ nd = anyF (fun b => decide (b.1 = ((l2.take n2).getD w slot0).pl.1)) (((l.take n).map blkOf).take k) := hk
    rw [hBw] at k2
    exact on_of h2.2.2 (Nat.lt_of_le_of_lt (Nat.zero_le _) h4)
  · rename_i b0 h0 v hv h3 w hw h4 bs k hk hl h5 h6 h7
    change Nat at w
    obtain ⟨f1, f2⟩ : w ≤ (l2.take n2).length ∧ okSs ((l.take n).map blkOf) (okH h && okBs ((l.take n).map blkOf) ((l.take n).map blkOf).length) (l2.take n2) w = true := hw
    have h4 : w < n2 := Int.ofNat_lt.1 (of_decide_eq_true h4)
    have hBw : (l2.take n2).getD w slot0 = l2.getD w slot0 := tk_at h4
    obtain ⟨k, nd, w2⟩ := k
    obtain rfl : w = w2 := Int.ofNat_inj.1 hl
    obtain ⟨k1, k2⟩ : k ≤ ((l.take n).map blkOf).length ∧ nd = anyF (fun b => decide (b.1 = ((l2.take n2).getD w slot0).pl.1)) (((l.take n).map blkOf).take k) := hk
    rw [hBw] at k2
    have h7 : 0 < w := Int.ofNat_lt.1 (of_decide_eq_true h7)
    show (0 : Int) ≤ (w : Int) - 1
    omega
  · rename_i b0 h0 v hv h3 w hw h4 bs k hk hl h5 h6 h7
    change Nat at w
    obtain ⟨f1, f2⟩ : w ≤ (l2.take n2).length ∧ okSs ((l.take n).map blkOf) (okH h && okBs ((l.take n).map blkOf) ((l.take n).map blkOf).length) (l2.take n2) w = true := hw
    have h4 : w < n2 := Int.ofNat_lt.1 (of_decide_eq_true h4)
    have hBw : (l2.take n2).getD w slot0 = l2.getD w slot0 := tk_at h4
    obtain ⟨k, nd, w2⟩ := k
    obtain rfl : w = w2 := Int.ofNat_inj.1 hl
    obtain ⟨k1, k2⟩ : k ≤ ((l.take n).map blkOf).length ∧ nd = anyF (fun b => decide (b.1 = ((l2.take n2).getD w slot0).pl.1)) (((l.take n).map blkOf).take k) := hk
    rw [hBw] at k2
    have h7 : 0 < w := Int.ofNat_lt.1 (of_decide_eq_true h7)
    show (w : Int) - 1 < (n2 : Int)
    omega
  · rename_i b0 h0 v hv h3 w hw h4 bs k hk hl h5 h6 h7
    change Nat at w
    obtain ⟨f1, f2⟩ : w ≤ (l2.take n2).length ∧ okSs ((l.take n).map blkOf) (okH h && okBs ((l.take n).map blkOf) ((l.take n).map blkOf).length) (l2.take n2) w = true := hw
    have h4 : w < n2 := Int.ofNat_lt.1 (of_decide_eq_true h4)
    have hBw : (l2.take n2).getD w slot0 = l2.getD w slot0 := tk_at h4
    obtain ⟨k, nd, w2⟩ := k
    obtain rfl : w = w2 := Int.ofNat_inj.1 hl
    obtain ⟨k1, k2⟩ : k ≤ ((l.take n).map blkOf).length ∧ nd = anyF (fun b => decide (b.1 = ((l2.take n2).getD w slot0).pl.1)) (((l.take n).map blkOf).take k) := hk
    rw [hBw] at k2
    exact on_of h2.2.2 (Nat.lt_of_le_of_lt (Nat.zero_le _) h4)
  · rename_i b0 h0 v hv h3 w hw h4 bs k hk hl h5 h6 h7
    change Nat at w
    obtain ⟨f1, f2⟩ : w ≤ (l2.take n2).length ∧ okSs ((l.take n).map blkOf) (okH h && okBs ((l.take n).map blkOf) ((l.take n).map blkOf).length) (l2.take n2) w = true := hw
    have h4 : w < n2 := Int.ofNat_lt.1 (of_decide_eq_true h4)
    have hBw : (l2.take n2).getD w slot0 = l2.getD w slot0 := tk_at h4
    obtain ⟨k, nd, w2⟩ := k
    obtain rfl : w = w2 := Int.ofNat_inj.1 hl
    obtain ⟨k1, k2⟩ : k ≤ ((l.take n).map blkOf).length ∧ nd = anyF (fun b => decide (b.1 = ((l2.take n2).getD w slot0).pl.1)) (((l.take n).map blkOf).take k) := hk
    rw [hBw] at k2
    have h7 : 0 < w := Int.ofNat_lt.1 (of_decide_eq_true h7)
    show ((w : Int) - 1).toNat + 0 < l2.length
    omega
  · rename_i b0 h0 v hv h3 w hw h4 bs k hk hl h5 h6 h7 bq h8
    change Nat at w
    obtain ⟨f1, f2⟩ : w ≤ (l2.take n2).length ∧ okSs ((l.take n).map blkOf) (okH h && okBs ((l.take n).map blkOf) ((l.take n).map blkOf).length) (l2.take n2) w = true := hw
    have h4 : w < n2 := Int.ofNat_lt.1 (of_decide_eq_true h4)
    have hBw : (l2.take n2).getD w slot0 = l2.getD w slot0 := tk_at h4
    obtain ⟨k, nd, w2⟩ := k
    obtain rfl : w = w2 := Int.ofNat_inj.1 hl
    obtain ⟨k1, k2⟩ : k ≤ ((l.take n).map blkOf).length ∧ nd = anyF (fun b => decide (b.1 = ((l2.take n2).getD w slot0).pl.1)) (((l.take n).map blkOf).take k) := hk
    rw [hBw] at k2
    have h5 : ¬ k < n := fun hq => of_decide_eq_false h5 (Int.ofNat_lt.2 hq)
    rw [hAl] at k1
    rw [List.take_of_length_le (l := (l.take n).map blkOf) (by rw [hAl]; omega)] at k2
    have h6 : (!nd || decide ((l2.getD w slot0).pl.2 < 0) || decide (64 ≤ (l2.getD w slot0).pl.2) || !cn (l2.getD w slot0).key || !okMe (l2.getD w slot0).me) = false := h6
    rw [k2] at h6
    have h7 : 0 < w := Int.ofNat_lt.1 (of_decide_eq_true h7)
    have h8 : (decide ((l2.getD w slot0).pl.1 < (l2.getD (((w : Int) - 1).toNat + 0) slot0).pl.1) || (decide ((l2.getD (((w : Int) - 1).toNat + 0) slot0).pl.1 = (l2.getD w slot0).pl.1) && decide ((l2.getD w slot0).pl.2 ≤ (l2.getD (((w : Int) - 1).toNat + 0) slot0).pl.2))) = true := h8
    rw [pred_nat] at h8
    have hBp : (l2.take n2).getD (w - 1) slot0 = l2.getD (w - 1) slot0 := tk_at (by omega)
    refine (okP_noS (i := w + 1) ?_ (by rw [tk_len hnl2]; omega)).symm
    rw [okSs, hBw]
    rw [hBp]
    exact slt_no2 h7 h8
  · rename_i b0 h0 v hv h3 w hw h4 bs k hk hl h5 h6 h7 bq h8
    change Nat at w
    obtain ⟨f1, f2⟩ : w ≤ (l2.take n2).length ∧ okSs ((l.take n).map blkOf) (okH h && okBs ((l.take n).map blkOf) ((l.take n).map blkOf).length) (l2.take n2) w = true := hw
    have h4 : w < n2 := Int.ofNat_lt.1 (of_decide_eq_true h4)
    have hBw : (l2.take n2).getD w slot0 = l2.getD w slot0 := tk_at h4
    obtain ⟨k, nd, w2⟩ := k
    obtain rfl : w = w2 := Int.ofNat_inj.1 hl
    obtain ⟨k1, k2⟩ : k ≤ ((l.take n).map blkOf).length ∧ nd = anyF (fun b => decide (b.1 = ((l2.take n2).getD w slot0).pl.1)) (((l.take n).map blkOf).take k) := hk
    rw [hBw] at k2
    exact inR64 (by show _ ≤ (w : Int) + 1; omega) (by show (w : Int) + 1 ≤ _; omega)
  · rename_i b0 h0 v hv h3 w hw h4 bs k hk hl h5 h6 h7 bq h8
    change Nat at w
    obtain ⟨f1, f2⟩ : w ≤ (l2.take n2).length ∧ okSs ((l.take n).map blkOf) (okH h && okBs ((l.take n).map blkOf) ((l.take n).map blkOf).length) (l2.take n2) w = true := hw
    have h4 : w < n2 := Int.ofNat_lt.1 (of_decide_eq_true h4)
    have hBw : (l2.take n2).getD w slot0 = l2.getD w slot0 := tk_at h4
    obtain ⟨k, nd, w2⟩ := k
    obtain rfl : w = w2 := Int.ofNat_inj.1 hl
    obtain ⟨k1, k2⟩ : k ≤ ((l.take n).map blkOf).length ∧ nd = anyF (fun b => decide (b.1 = ((l2.take n2).getD w slot0).pl.1)) (((l.take n).map blkOf).take k) := hk
    rw [hBw] at k2
    have h5 : ¬ k < n := fun hq => of_decide_eq_false h5 (Int.ofNat_lt.2 hq)
    rw [hAl] at k1
    rw [List.take_of_length_le (l := (l.take n).map blkOf) (by rw [hAl]; omega)] at k2
    have h6 : (!nd || decide ((l2.getD w slot0).pl.2 < 0) || decide (64 ≤ (l2.getD w slot0).pl.2) || !cn (l2.getD w slot0).key || !okMe (l2.getD w slot0).me) = false := h6
    rw [k2] at h6
    have h7 : 0 < w := Int.ofNat_lt.1 (of_decide_eq_true h7)
    have h8 : (decide ((l2.getD w slot0).pl.1 < (l2.getD (((w : Int) - 1).toNat + 0) slot0).pl.1) || (decide ((l2.getD (((w : Int) - 1).toNat + 0) slot0).pl.1 = (l2.getD w slot0).pl.1) && decide ((l2.getD w slot0).pl.2 ≤ (l2.getD (((w : Int) - 1).toNat + 0) slot0).pl.2))) = false := h8
    rw [pred_nat] at h8
    have hBp : (l2.take n2).getD (w - 1) slot0 = l2.getD (w - 1) slot0 := tk_at (by omega)
    refine Stands.one (w + 1 : Nat) ⟨⟨by rw [tk_len hnl2]; exact h4, ?_⟩, ?_, ?_⟩
    · show okSs _ _ _ (w + 1) = true
      rw [okSs, hBw, f2]
      rw [hBp]; exact slt_yes h6 (.inr h8)
    · show (l2.take n2).length - (w + 1) < (l2.take n2).length - w
      rw [tk_len hnl2]; omega
    ((conv => (arg 1; reduce)); with_reducible repeat' (first | exact Tr.yes_h | refine Tr.and_h ?_ ?_ | refine Tr.imp_h fun _ => ?_ | refine Tr.all_h fun _ => ?_ | refine Tr.lf_h ?_))
    all_goals (first | first | (show Region.lexB _ _ = true; kernel_rfl) | (show planned _ _ = true; kernel_rfl) | exact rfl | exact True.intro | ((try dsimp only [imp, C0, cG, cInt, cPl, cSlot, cPg, rwCodec, cRaw] at *); (try refine inR64 ?_ ?_) <;> (try simp only [List.length_set, List.length_append, List.length_take, List.length_drop]) <;> omega))
  · rename_i b0 h0 v hv h3 w hw h4 bs k hk hl h5 h6 h7
    change Nat at w
    obtain ⟨f1, f2⟩ : w ≤ (l2.take n2).length ∧ okSs ((l.take n).map blkOf) (okH h && okBs ((l.take n).map blkOf) ((l.take n).map blkOf).length) (l2.take n2) w = true := hw
    have h4 : w < n2 := Int.ofNat_lt.1 (of_decide_eq_true h4)
    have hBw : (l2.take n2).getD w slot0 = l2.getD w slot0 := tk_at h4
    obtain ⟨k, nd, w2⟩ := k
    obtain rfl : w = w2 := Int.ofNat_inj.1 hl
    obtain ⟨k1, k2⟩ : k ≤ ((l.take n).map blkOf).length ∧ nd = anyF (fun b => decide (b.1 = ((l2.take n2).getD w slot0).pl.1)) (((l.take n).map blkOf).take k) := hk
    rw [hBw] at k2
    exact inR64 (by show _ ≤ (w : Int) + 1; omega) (by show (w : Int) + 1 ≤ _; omega)
  · rename_i b0 h0 v hv h3 w hw h4 bs k hk hl h5 h6 h7
    change Nat at w
    obtain ⟨f1, f2⟩ : w ≤ (l2.take n2).length ∧ okSs ((l.take n).map blkOf) (okH h && okBs ((l.take n).map blkOf) ((l.take n).map blkOf).length) (l2.take n2) w = true := hw
    have h4 : w < n2 := Int.ofNat_lt.1 (of_decide_eq_true h4)
    have hBw : (l2.take n2).getD w slot0 = l2.getD w slot0 := tk_at h4
    obtain ⟨k, nd, w2⟩ := k
    obtain rfl : w = w2 := Int.ofNat_inj.1 hl
    obtain ⟨k1, k2⟩ : k ≤ ((l.take n).map blkOf).length ∧ nd = anyF (fun b => decide (b.1 = ((l2.take n2).getD w slot0).pl.1)) (((l.take n).map blkOf).take k) := hk
    rw [hBw] at k2
    have h5 : ¬ k < n := fun hq => of_decide_eq_false h5 (Int.ofNat_lt.2 hq)
    rw [hAl] at k1
    rw [List.take_of_length_le (l := (l.take n).map blkOf) (by rw [hAl]; omega)] at k2
    have h6 : (!nd || decide ((l2.getD w slot0).pl.2 < 0) || decide (64 ≤ (l2.getD w slot0).pl.2) || !cn (l2.getD w slot0).key || !okMe (l2.getD w slot0).me) = false := h6
    rw [k2] at h6
    have h7 : ¬ 0 < w := fun hq => of_decide_eq_false h7 (Int.ofNat_lt.2 hq)
    refine Stands.one (w + 1 : Nat) ⟨⟨by rw [tk_len hnl2]; exact h4, ?_⟩, ?_, ?_⟩
    · show okSs _ _ _ (w + 1) = true
      rw [okSs, hBw, f2]
      exact slt_yes h6 (.inl (by omega))
    · show (l2.take n2).length - (w + 1) < (l2.take n2).length - w
      rw [tk_len hnl2]; omega
    ((conv => (arg 1; reduce)); with_reducible repeat' (first | exact Tr.yes_h | refine Tr.and_h ?_ ?_ | refine Tr.imp_h fun _ => ?_ | refine Tr.all_h fun _ => ?_ | refine Tr.lf_h ?_))
    all_goals (first | first | (show Region.lexB _ _ = true; kernel_rfl) | (show planned _ _ = true; kernel_rfl) | exact rfl | exact True.intro | ((try dsimp only [imp, C0, cG, cInt, cPl, cSlot, cPg, rwCodec, cRaw] at *); (try refine inR64 ?_ ?_) <;> (try simp only [List.length_set, List.length_append, List.length_take, List.length_drop]) <;> omega))
  · rename_i b0 h0 v hv h3 w hw h4
    change Nat at w
    obtain ⟨f1, f2⟩ : w ≤ (l2.take n2).length ∧ okSs ((l.take n).map blkOf) (okH h && okBs ((l.take n).map blkOf) ((l.take n).map blkOf).length) (l2.take n2) w = true := hw
    have h4 : ¬ w < n2 := fun hq => of_decide_eq_false h4 (Int.ofNat_lt.2 hq)
    have hw2 : w = (l2.take n2).length := by rw [tk_len hnl2] at f1 ⊢; omega
    show true = okP _ _ _
    unfold okP
    rw [← hw2, f2]
def pcRpmay : Pc Tryd.prog C0 where
  tg := .fn 12
  X := Hd × Sq (Rw Int) × Sq Slot
  args := fun (h, (o, b, q, l, n, c), (o2, b2, q2, l2, n2, c2)) => [ptv h (.sl 0 0 n c) (.sl 1 0 n2 c2)]
  mem := fun (h, (o, b, q, l, n, c), (o2, b2, q2, l2, n2, c2)) => [⟨b, q, 1, false, some o, .rows 71 l⟩, ⟨b2, q2, 9, false, some o2, .rows 74 l2⟩]
  pre := fun (h, (o, b, q, l, n, c), (o2, b2, q2, l2, n2, c2)) => Sq.ok (o, b, q, l, n, c) ∧ Sq.ok (o2, b2, q2, l2, n2, c2) ∧ (∀ r ∈ l.take n, Rok r ∧ r.l.length = 2) ∧ n ≤ 1000000 ∧ n2 ≤ 1000000
  res := fun (h, (o, b, q, l, n, c), (o2, b2, q2, l2, n2, c2)) => .bool (.tm (okP h ((l.take n).map blkOf) (l2.take n2)))
  mat vs m := match vs with
    | [.agg [.int _ h1, .int _ h2, .int _ h3, .int _ h4, .sl a 0 n c, .sl a' 0 n' c']] => match nth m a, nth m a' with
      | ⟨b, q, _, _, g, .rows 71 l⟩, ⟨b', q', _, _, g', .rows 74 l'⟩ => some (((h1, h2, h3, h4), (onOf g, b, q, l, n, c), (onOf g', b', q', l', n', c')), [a, a'])
      | _, _ => none
    | _ => none
  ok := fun (h, (o, b, q, l, n, c), (o2, b2, q2, l2, n2, c2)) x => rpmay_ok h o b q l n c o2 b2 q2 l2 n2 c2 x.1 x.2.1 x.2.2.1 x.2.2.2.1 x.2.2.2.2
end Go.Vx
set_option linter.unusedSectionVars false
set_option maxRecDepth 100000
set_option linter.unusedVariables false
set_option linter.unusedSimpArgs false
namespace Go.Vx
open Go Go.Proofs
variable [Gl]

theorem fr1 {N : List Int} {x : Int} {g g' : List Int} {k c c' : Nat} (h : Gr (fours N) g k c) (hy : Gr (g.take k ++ four x) g' (k + 4) c') : Gr (fours (N ++ [x])) g' (k + 4) c' := by
  rw [fours_app, fours_one, ← h.2.1]; exact hy
theorem fpre {N : List Int} {g : List Int} {k c : Nat} (h : Gr (fours N) g k c) (hk : k < 140737488355000) : k ≤ c ∧ c ≤ g.length ∧ k < 140737488355000 ∧ (true = false → k = 0 ∧ c = 0) := ⟨h.2.2.1, h.2.2.2, hk, fun h => Bool.noConfusion h⟩
theorem blk_lst (r : Rw Int) : lst (blkOf r) = [r.l.getD 0 0, r.l.getD 1 0] := by unfold blkOf; rfl
theorem slot_lst (s : Slot) : slotN s = [s.key] ++ [s.pl.1] ++ [s.pl.2] ++ [s.me.kind] ++ [s.me.key] ++ [s.me.seq] ++ [s.me.stamp] ++ [s.me.batch] ++ [s.me.floor] := rfl
abbrev Fx := Nat × Nat × List Int × Nat
def Pb4 (h : Hd) (A : List Pl) : Inv' C0 := ⟨4, Nat × Fx, fun x => [(4, .int .i64 (x.1 : Int)), (3, .sl 8 0 (20 + 8 * x.1) x.2.2.2.2), (23, .junk)], fun x m => match m with
  | [a0, a1, bx, d1, d2, d3, d4, d5, y] => [a0, a1, bx, d1, d2, d3, d4, d5, ⟨x.2.1, x.2.2.1, 1, true, none, .rows 5 x.2.2.2.1⟩]
  | m => m, fun x => x.1 ≤ A.length ∧ Gr (fours (hdN h A.length ++ (A.take x.1).flatMap lst)) x.2.2.2.1 (20 + 8 * x.1) x.2.2.2.2, fun x => A.length - x.1⟩
def Pb9 (h : Hd) (A : List Pl) (B : List Slot) : Inv' C0 := ⟨9, Nat × Fx, fun x => [(5, .int .i64 (x.1 : Int)), (3, .sl 9 0 (24 + 8 * A.length + 36 * x.1) x.2.2.2.2), (52, .junk)], fun x m => match m with
  | [a0, a1, bx, d1, d2, d3, d4, d5, d6, y] => [a0, a1, bx, d1, d2, d3, d4, d5, d6, ⟨x.2.1, x.2.2.1, 1, true, none, .rows 5 x.2.2.2.1⟩]
  | m => m, fun x => x.1 ≤ B.length ∧ Gr (fours (hdN h A.length ++ A.flatMap lst ++ [(B.length : Int)] ++ (B.take x.1).flatMap slotN)) x.2.2.2.1 (24 + 8 * A.length + 36 * x.1) x.2.2.2.2, fun x => B.length - x.1⟩
set_option maxHeartbeats 16000000 in
theorem pbytes_ok (h : Hd) (o : Bool) (b q : Nat) (l : List (Rw Int)) (n c : Nat) (o2 : Bool) (b2 q2 : Nat) (l2 : List Slot) (n2 c2 : Nat)
    (h1 : Sq.ok (o, b, q, l, n, c)) (h2 : Sq.ok (o2, b2, q2, l2, n2, c2)) (hr : ∀ r ∈ l.take n, Rok r ∧ r.l.length = 2) (hn : n ≤ 1000000) (hn2 : n2 ≤ 1000000) :
    Does (C := C0) Tryd.prog (.fn 15) [⟨b, q, 1, false, some o, .rows 71 l⟩, ⟨b2, q2, 9, false, some o2, .rows 74 l2⟩] [ptv h (.sl 0 0 n c) (.sl 1 0 n2 c2)]
    [⟨Fx, fun y => Gr (bytesP h ((l.take n).map blkOf) (l2.take n2)) y.2.2.1 (bytesP h ((l.take n).map blkOf) (l2.take n2)).length y.2.2.2, fun y => .sl 2 0 (bytesP h ((l.take n).map blkOf) (l2.take n2)).length y.2.2.2,
      fun y => [⟨b, q, 1, false, some o, .rows 71 l⟩, ⟨b2, q2, 9, false, some o2, .rows 74 l2⟩, ⟨y.1, y.2.1, 1, true, none, .rows 5 y.2.2.1⟩]⟩] := by
  have hnl : n ≤ l.length := h1.2.1
  have hnl2 : n2 ≤ l2.length := h2.2.1
  have hAl : ((l.take n).map blkOf).length = n := by rw [List.length_map]; exact tk_len hnl
  refine loc_fn (P := Tryd.prog) (E := ⟨[fcFour], [pcRcrc], 107, [(1, [2], [.p 0, .p 1, .p 3, .p 4, .p 6, .p 7, .p 9, .p 10, .e 2, .e 5, .e 8, .e 11, .p 12]),
    (6, [0, 2], [.p 0, .p 1, .p 2, .p 3, .p 4, .p 5, .p 6, .p 7, .p 9, .p 10, .p 11, .p 12, .p 13, .p 14, .p 15, .e 8, .e 16, .p 17]),
    (12, [10], [.p 0, .p 1, .p 2, .p 4, .p 5, .p 6, .p 8, .p 9, .p 10, .e 3, .e 7, .e 11, .p 12]),
    (13, [10], [.p 0, .p 1, .p 2, .p 3, .p 5, .p 6, .p 7, .p 9, .p 10, .p 11, .e 4, .e 8, .e 12, .p 13]),
    (14, [10], [.p 0, .p 1, .p 2, .p 3, .p 5, .p 6, .p 7, .p 9, .p 10, .p 11, .e 4, .e 8, .e 12, .p 13])], [fI], []⟩) (L := [Pb4 h ((l.take n).map blkOf), Pb9 h ((l.take n).map blkOf) (l2.take n2)]) mix Tryd.func15 rfl (by kernel_rfl) (by kernel_rfl) rfl rfl ?_
  ((conv => (arg 1; reduce)); with_reducible repeat' (first | exact Tr.yes_h | refine Tr.and_h ?_ ?_ | refine Tr.imp_h fun _ => ?_ | refine Tr.all_h fun _ => ?_ | refine Tr.lf_h ?_))
  all_goals try (first | first | (show Region.lexB _ _ = true; kernel_rfl) | (show planned _ _ = true; kernel_rfl) | exact rfl | exact True.intro | ((try dsimp only [imp, C0, cG, cInt, cPl, cSlot, cPg, rwCodec, cRaw] at *); (try refine inR64 ?_ ?_) <;> (try simp only [List.length_set, List.length_append, List.length_take, List.length_drop]) <;> omega))
  · exact ⟨Nat.le_refl _, Nat.le_refl _, by decide, fun _ => ⟨rfl, rfl⟩⟩
  · rename_i b0 y1 hy1
    have f0 : Gr (fours []) [] 0 0 := by rw [fours_nil]; exact ⟨rfl, rfl, Nat.le_refl _, Nat.le_refl _⟩
    have f1 := fr1 f0 hy1
    exact fpre f1 (by decide)
  · rename_i b0 y1 hy1 y2 hy2
    have f0 : Gr (fours []) [] 0 0 := by rw [fours_nil]; exact ⟨rfl, rfl, Nat.le_refl _, Nat.le_refl _⟩
    have f1 := fr1 f0 hy1
    have f2 := fr1 f1 hy2
    exact fpre f2 (by decide)
  · rename_i b0 y1 hy1 y2 hy2 y3 hy3
    have f0 : Gr (fours []) [] 0 0 := by rw [fours_nil]; exact ⟨rfl, rfl, Nat.le_refl _, Nat.le_refl _⟩
    have f1 := fr1 f0 hy1
    have f2 := fr1 f1 hy2
    have f3 := fr1 f2 hy3
    exact fpre f3 (by decide)
  · rename_i b0 y1 hy1 y2 hy2 y3 hy3 y4 hy4
    have f0 : Gr (fours []) [] 0 0 := by rw [fours_nil]; exact ⟨rfl, rfl, Nat.le_refl _, Nat.le_refl _⟩
    have f1 := fr1 f0 hy1
    have f2 := fr1 f1 hy2
    have f3 := fr1 f2 hy3
    have f4 := fr1 f3 hy4
    exact fpre f4 (by decide)
  · rename_i b0 y1 hy1 y2 hy2 y3 hy3 y4 hy4 y5 hy5
    have f0 : Gr (fours []) [] 0 0 := by rw [fours_nil]; exact ⟨rfl, rfl, Nat.le_refl _, Nat.le_refl _⟩
    have f1 := fr1 f0 hy1
    have f2 := fr1 f1 hy2
    have f3 := fr1 f2 hy3
    have f4 := fr1 f3 hy4
    have f5 := fr1 f4 hy5
    refine Stands.one (0, y5) ⟨⟨Nat.zero_le _, ?_⟩, ?_⟩
    · show Gr (fours (hdN h ((l.take n).map blkOf).length ++ [])) _ _ _
      rw [hAl]
      exact f5
    ((conv => (arg 1; reduce)); with_reducible repeat' (first | exact Tr.yes_h | refine Tr.and_h ?_ ?_ | refine Tr.imp_h fun _ => ?_ | refine Tr.all_h fun _ => ?_ | refine Tr.lf_h ?_))
    all_goals (first | first | (show Region.lexB _ _ = true; kernel_rfl) | (show planned _ _ = true; kernel_rfl) | exact rfl | exact True.intro | ((try dsimp only [imp, C0, cG, cInt, cPl, cSlot, cPg, rwCodec, cRaw] at *); (try refine inR64 ?_ ?_) <;> (try simp only [List.length_set, List.length_append, List.length_take, List.length_drop]) <;> omega))
  · rename_i b0 y1 hy1 y2 hy2 y3 hy3 y4 hy4 y5 hy5 v hv h3
    obtain ⟨v, y⟩ := v
    obtain ⟨e1, e2⟩ : v ≤ ((l.take n).map blkOf).length ∧ Gr (fours (hdN h ((l.take n).map blkOf).length ++ (((l.take n).map blkOf).take v).flatMap lst)) y.2.2.1 (20 + 8 * v) y.2.2.2 := hv
    have h3n : v < n := Int.ofNat_lt.1 (of_decide_eq_true h3)
    exact on_of h1.2.2 (Nat.lt_of_le_of_lt (Nat.zero_le _) h3n)
  · rename_i b0 y1 hy1 y2 hy2 y3 hy3 y4 hy4 y5 hy5 v hv h3
    obtain ⟨v, y⟩ := v
    obtain ⟨e1, e2⟩ : v ≤ ((l.take n).map blkOf).length ∧ Gr (fours (hdN h ((l.take n).map blkOf).length ++ (((l.take n).map blkOf).take v).flatMap lst)) y.2.2.1 (20 + 8 * v) y.2.2.2 := hv
    have h3n : v < n := Int.ofNat_lt.1 (of_decide_eq_true h3)
    exact Int.ofNat_lt.2 h3n
  · rename_i b0 y1 hy1 y2 hy2 y3 hy3 y4 hy4 y5 hy5 v hv h3
    obtain ⟨v, y⟩ := v
    obtain ⟨e1, e2⟩ : v ≤ ((l.take n).map blkOf).length ∧ Gr (fours (hdN h ((l.take n).map blkOf).length ++ (((l.take n).map blkOf).take v).flatMap lst)) y.2.2.1 (20 + 8 * v) y.2.2.2 := hv
    have h3n : v < n := Int.ofNat_lt.1 (of_decide_eq_true h3)
    exact on_of h1.2.2 (Nat.lt_of_le_of_lt (Nat.zero_le _) h3n)
  · rename_i b0 y1 hy1 y2 hy2 y3 hy3 y4 hy4 y5 hy5 v hv h3
    obtain ⟨v, y⟩ := v
    obtain ⟨e1, e2⟩ : v ≤ ((l.take n).map blkOf).length ∧ Gr (fours (hdN h ((l.take n).map blkOf).length ++ (((l.take n).map blkOf).take v).flatMap lst)) y.2.2.1 (20 + 8 * v) y.2.2.2 := hv
    have h3n : v < n := Int.ofNat_lt.1 (of_decide_eq_true h3)
    show (v : Int).toNat + 0 < l.length
    omega
  · rename_i b0 y1 hy1 y2 hy2 y3 hy3 y4 hy4 y5 hy5 v hv h3 r hr1
    obtain ⟨v, y⟩ := v
    obtain ⟨e1, e2⟩ : v ≤ ((l.take n).map blkOf).length ∧ Gr (fours (hdN h ((l.take n).map blkOf).length ++ (((l.take n).map blkOf).take v).flatMap lst)) y.2.2.1 (20 + 8 * v) y.2.2.2 := hv
    have h3n : v < n := Int.ofNat_lt.1 (of_decide_eq_true h3)
    change Rw Int at r
    have hr1 : l.getD v Rw.nil = r := hr1
    obtain ⟨⟨g1, g2, g3⟩, g4⟩ := hr r (row_mem h3n hnl hr1)
    exact on_of g1 (by omega)
  · rename_i b0 y1 hy1 y2 hy2 y3 hy3 y4 hy4 y5 hy5 v hv h3 r hr1
    obtain ⟨v, y⟩ := v
    obtain ⟨e1, e2⟩ : v ≤ ((l.take n).map blkOf).length ∧ Gr (fours (hdN h ((l.take n).map blkOf).length ++ (((l.take n).map blkOf).take v).flatMap lst)) y.2.2.1 (20 + 8 * v) y.2.2.2 := hv
    have h3n : v < n := Int.ofNat_lt.1 (of_decide_eq_true h3)
    change Rw Int at r
    have hr1 : l.getD v Rw.nil = r := hr1
    obtain ⟨⟨g1, g2, g3⟩, g4⟩ := hr r (row_mem h3n hnl hr1)
    show (0 : Int) < ((r.l.length : Nat) : Int)
    rw [g4]; decide
  · rename_i b0 y1 hy1 y2 hy2 y3 hy3 y4 hy4 y5 hy5 v hv h3 r hr1
    obtain ⟨v, y⟩ := v
    obtain ⟨e1, e2⟩ : v ≤ ((l.take n).map blkOf).length ∧ Gr (fours (hdN h ((l.take n).map blkOf).length ++ (((l.take n).map blkOf).take v).flatMap lst)) y.2.2.1 (20 + 8 * v) y.2.2.2 := hv
    have h3n : v < n := Int.ofNat_lt.1 (of_decide_eq_true h3)
    change Rw Int at r
    have hr1 : l.getD v Rw.nil = r := hr1
    obtain ⟨⟨g1, g2, g3⟩, g4⟩ := hr r (row_mem h3n hnl hr1)
    exact on_of g1 (by omega)
  · rename_i b0 y1 hy1 y2 hy2 y3 hy3 y4 hy4 y5 hy5 v hv h3 r hr1
    obtain ⟨v, y⟩ := v
    obtain ⟨e1, e2⟩ : v ≤ ((l.take n).map blkOf).length ∧ Gr (fours (hdN h ((l.take n).map blkOf).length ++ (((l.take n).map blkOf).take v).flatMap lst)) y.2.2.1 (20 + 8 * v) y.2.2.2 := hv
    have h3n : v < n := Int.ofNat_lt.1 (of_decide_eq_true h3)
    change Rw Int at r
    have hr1 : l.getD v Rw.nil = r := hr1
    obtain ⟨⟨g1, g2, g3⟩, g4⟩ := hr r (row_mem h3n hnl hr1)
    show (0 : Int).toNat + 0 < r.l.length
    rw [g4]; decide
  · rename_i b0 y1 hy1 y2 hy2 y3 hy3 y4 hy4 y5 hy5 v hv h3 r hr1
    obtain ⟨v, y⟩ := v
    obtain ⟨e1, e2⟩ : v ≤ ((l.take n).map blkOf).length ∧ Gr (fours (hdN h ((l.take n).map blkOf).length ++ (((l.take n).map blkOf).take v).flatMap lst)) y.2.2.1 (20 + 8 * v) y.2.2.2 := hv
    have h3n : v < n := Int.ofNat_lt.1 (of_decide_eq_true h3)
    exact on_of h1.2.2 (Nat.lt_of_le_of_lt (Nat.zero_le _) h3n)
  · rename_i b0 y1 hy1 y2 hy2 y3 hy3 y4 hy4 y5 hy5 v hv h3 r hr1
    obtain ⟨v, y⟩ := v
    obtain ⟨e1, e2⟩ : v ≤ ((l.take n).map blkOf).length ∧ Gr (fours (hdN h ((l.take n).map blkOf).length ++ (((l.take n).map blkOf).take v).flatMap lst)) y.2.2.1 (20 + 8 * v) y.2.2.2 := hv
    have h3n : v < n := Int.ofNat_lt.1 (of_decide_eq_true h3)
    exact Int.ofNat_lt.2 h3n
  · rename_i b0 y1 hy1 y2 hy2 y3 hy3 y4 hy4 y5 hy5 v hv h3 r hr1
    obtain ⟨v, y⟩ := v
    obtain ⟨e1, e2⟩ : v ≤ ((l.take n).map blkOf).length ∧ Gr (fours (hdN h ((l.take n).map blkOf).length ++ (((l.take n).map blkOf).take v).flatMap lst)) y.2.2.1 (20 + 8 * v) y.2.2.2 := hv
    have h3n : v < n := Int.ofNat_lt.1 (of_decide_eq_true h3)
    exact on_of h1.2.2 (Nat.lt_of_le_of_lt (Nat.zero_le _) h3n)
  · rename_i b0 y1 hy1 y2 hy2 y3 hy3 y4 hy4 y5 hy5 v hv h3 r hr1
    obtain ⟨v, y⟩ := v
    obtain ⟨e1, e2⟩ : v ≤ ((l.take n).map blkOf).length ∧ Gr (fours (hdN h ((l.take n).map blkOf).length ++ (((l.take n).map blkOf).take v).flatMap lst)) y.2.2.1 (20 + 8 * v) y.2.2.2 := hv
    have h3n : v < n := Int.ofNat_lt.1 (of_decide_eq_true h3)
    show (v : Int).toNat + 0 < l.length
    omega
  · rename_i b0 y1 hy1 y2 hy2 y3 hy3 y4 hy4 y5 hy5 v hv h3 r hr1 r2 hr2
    obtain ⟨v, y⟩ := v
    obtain ⟨e1, e2⟩ : v ≤ ((l.take n).map blkOf).length ∧ Gr (fours (hdN h ((l.take n).map blkOf).length ++ (((l.take n).map blkOf).take v).flatMap lst)) y.2.2.1 (20 + 8 * v) y.2.2.2 := hv
    have h3n : v < n := Int.ofNat_lt.1 (of_decide_eq_true h3)
    change Rw Int at r2
    have hr2 : l.getD v Rw.nil = r2 := hr2
    obtain ⟨⟨g1, g2, g3⟩, g4⟩ := hr r2 (row_mem h3n hnl hr2)
    exact on_of g1 (by omega)
  · rename_i b0 y1 hy1 y2 hy2 y3 hy3 y4 hy4 y5 hy5 v hv h3 r hr1 r2 hr2
    obtain ⟨v, y⟩ := v
    obtain ⟨e1, e2⟩ : v ≤ ((l.take n).map blkOf).length ∧ Gr (fours (hdN h ((l.take n).map blkOf).length ++ (((l.take n).map blkOf).take v).flatMap lst)) y.2.2.1 (20 + 8 * v) y.2.2.2 := hv
    have h3n : v < n := Int.ofNat_lt.1 (of_decide_eq_true h3)
    change Rw Int at r2
    have hr2 : l.getD v Rw.nil = r2 := hr2
    obtain ⟨⟨g1, g2, g3⟩, g4⟩ := hr r2 (row_mem h3n hnl hr2)
    show (1 : Int) < ((r2.l.length : Nat) : Int)
    rw [g4]; decide
  · rename_i b0 y1 hy1 y2 hy2 y3 hy3 y4 hy4 y5 hy5 v hv h3 r hr1 r2 hr2
    obtain ⟨v, y⟩ := v
    obtain ⟨e1, e2⟩ : v ≤ ((l.take n).map blkOf).length ∧ Gr (fours (hdN h ((l.take n).map blkOf).length ++ (((l.take n).map blkOf).take v).flatMap lst)) y.2.2.1 (20 + 8 * v) y.2.2.2 := hv
    have h3n : v < n := Int.ofNat_lt.1 (of_decide_eq_true h3)
    change Rw Int at r2
    have hr2 : l.getD v Rw.nil = r2 := hr2
    obtain ⟨⟨g1, g2, g3⟩, g4⟩ := hr r2 (row_mem h3n hnl hr2)
    exact on_of g1 (by omega)
  · rename_i b0 y1 hy1 y2 hy2 y3 hy3 y4 hy4 y5 hy5 v hv h3 r hr1 r2 hr2
    obtain ⟨v, y⟩ := v
    obtain ⟨e1, e2⟩ : v ≤ ((l.take n).map blkOf).length ∧ Gr (fours (hdN h ((l.take n).map blkOf).length ++ (((l.take n).map blkOf).take v).flatMap lst)) y.2.2.1 (20 + 8 * v) y.2.2.2 := hv
    have h3n : v < n := Int.ofNat_lt.1 (of_decide_eq_true h3)
    change Rw Int at r2
    have hr2 : l.getD v Rw.nil = r2 := hr2
    obtain ⟨⟨g1, g2, g3⟩, g4⟩ := hr r2 (row_mem h3n hnl hr2)
    show (1 : Int).toNat + 0 < r2.l.length
    rw [g4]; decide
  · rename_i b0 y1 hy1 y2 hy2 y3 hy3 y4 hy4 y5 hy5 v hv h3 r hr1 r2 hr2
    obtain ⟨v, y⟩ := v
    obtain ⟨e1, e2⟩ : v ≤ ((l.take n).map blkOf).length ∧ Gr (fours (hdN h ((l.take n).map blkOf).length ++ (((l.take n).map blkOf).take v).flatMap lst)) y.2.2.1 (20 + 8 * v) y.2.2.2 := hv
    have h3n : v < n := Int.ofNat_lt.1 (of_decide_eq_true h3)
    exact fpre e2 (by omega)
  · rename_i b0 y1 hy1 y2 hy2 y3 hy3 y4 hy4 y5 hy5 v hv h3 r hr1 r2 hr2 z1 hz1
    obtain ⟨v, y⟩ := v
    obtain ⟨e1, e2⟩ : v ≤ ((l.take n).map blkOf).length ∧ Gr (fours (hdN h ((l.take n).map blkOf).length ++ (((l.take n).map blkOf).take v).flatMap lst)) y.2.2.1 (20 + 8 * v) y.2.2.2 := hv
    have h3n : v < n := Int.ofNat_lt.1 (of_decide_eq_true h3)
    have k1 := fr1 e2 hz1
    exact fpre k1 (by omega)
  · rename_i b0 y1 hy1 y2 hy2 y3 hy3 y4 hy4 y5 hy5 v hv h3 r hr1 r2 hr2 z1 hz1 z2 hz2
    obtain ⟨v, y⟩ := v
    obtain ⟨e1, e2⟩ : v ≤ ((l.take n).map blkOf).length ∧ Gr (fours (hdN h ((l.take n).map blkOf).length ++ (((l.take n).map blkOf).take v).flatMap lst)) y.2.2.1 (20 + 8 * v) y.2.2.2 := hv
    have h3n : v < n := Int.ofNat_lt.1 (of_decide_eq_true h3)
    exact inR64 (by show _ ≤ (v : Int) + 1; omega) (by show (v : Int) + 1 ≤ _; omega)
  · rename_i b0 y1 hy1 y2 hy2 y3 hy3 y4 hy4 y5 hy5 v hv h3 r hr1 r2 hr2 z1 hz1 z2 hz2
    obtain ⟨v, y⟩ := v
    obtain ⟨e1, e2⟩ : v ≤ ((l.take n).map blkOf).length ∧ Gr (fours (hdN h ((l.take n).map blkOf).length ++ (((l.take n).map blkOf).take v).flatMap lst)) y.2.2.1 (20 + 8 * v) y.2.2.2 := hv
    have h3n : v < n := Int.ofNat_lt.1 (of_decide_eq_true h3)
    change Rw Int at r
    change Rw Int at r2
    have hr1 : l.getD v Rw.nil = r := hr1
    have hr2 : l.getD v Rw.nil = r2 := hr2
    have hrr : r2 = r := hr2.symm.trans hr1
    subst hrr
    have k1 := fr1 (x := r2.l.getD 0 0) e2 hz1
    have k2 := fr1 (x := r2.l.getD 1 0) k1 hz2
    refine Stands.one (v + 1, z2) ⟨⟨by rw [hAl]; omega, ?_⟩, ?_, ?_⟩
    · show Gr (fours (_ ++ (((l.take n).map blkOf).take (v + 1)).flatMap lst)) _ (20 + 8 * (v + 1)) _
      rw [take_snoc (d := (0, 0)) (by rw [hAl]; exact h3n), map_at h3n hnl, hr2, List.flatMap_append, List.flatMap_singleton, blk_lst, ← List.append_assoc]
      rw [List.append_assoc _ [_] [_]] at k2
      exact k2
    · show ((l.take n).map blkOf).length - (v + 1) < ((l.take n).map blkOf).length - v
      rw [hAl]; omega
    ((conv => (arg 1; reduce)); with_reducible repeat' (first | exact Tr.yes_h | refine Tr.and_h ?_ ?_ | refine Tr.imp_h fun _ => ?_ | refine Tr.all_h fun _ => ?_ | refine Tr.lf_h ?_))
    all_goals (first | first | (show Region.lexB _ _ = true; kernel_rfl) | (show planned _ _ = true; kernel_rfl) | exact rfl | exact True.intro | ((try dsimp only [imp, C0, cG, cInt, cPl, cSlot, cPg, rwCodec, cRaw] at *); (try refine inR64 ?_ ?_) <;> (try simp only [List.length_set, List.length_append, List.length_take, List.length_drop]) <;> omega))
  · rename_i b0 y1 hy1 y2 hy2 y3 hy3 y4 hy4 y5 hy5 v hv h3
    obtain ⟨v, y⟩ := v
    obtain ⟨e1, e2⟩ : v ≤ ((l.take n).map blkOf).length ∧ Gr (fours (hdN h ((l.take n).map blkOf).length ++ (((l.take n).map blkOf).take v).flatMap lst)) y.2.2.1 (20 + 8 * v) y.2.2.2 := hv
    have h3n : ¬ v < n := fun hq => of_decide_eq_false h3 (Int.ofNat_lt.2 hq)
    have hv2 : v = ((l.take n).map blkOf).length := by rw [hAl] at e1 ⊢; omega
    rw [List.take_of_length_le (l := (l.take n).map blkOf) (by omega)] at e2
    exact fpre e2 (by omega)
  · rename_i b0 y1 hy1 y2 hy2 y3 hy3 y4 hy4 y5 hy5 v hv h3 w1 hw1
    obtain ⟨v, y⟩ := v
    obtain ⟨e1, e2⟩ : v ≤ ((l.take n).map blkOf).length ∧ Gr (fours (hdN h ((l.take n).map blkOf).length ++ (((l.take n).map blkOf).take v).flatMap lst)) y.2.2.1 (20 + 8 * v) y.2.2.2 := hv
    have h3n : ¬ v < n := fun hq => of_decide_eq_false h3 (Int.ofNat_lt.2 hq)
    have hv2 : v = ((l.take n).map blkOf).length := by rw [hAl] at e1 ⊢; omega
    rw [List.take_of_length_le (l := (l.take n).map blkOf) (by omega)] at e2
    have k1 := fr1 e2 hw1
    refine Stands.one (0, w1) ⟨⟨Nat.zero_le _, ?_⟩, ?_⟩
    · show Gr (fours (_ ++ [((l2.take n2).length : Int)] ++ [])) _ (24 + 8 * ((l.take n).map blkOf).length + 36 * 0) _
      rw [List.append_nil, tk_len hnl2, show 24 + 8 * ((l.take n).map blkOf).length + 36 * 0 = 20 + 8 * v + 4 by omega]
      exact k1
    ((conv => (arg 1; reduce)); with_reducible repeat' (first | exact Tr.yes_h | refine Tr.and_h ?_ ?_ | refine Tr.imp_h fun _ => ?_ | refine Tr.all_h fun _ => ?_ | refine Tr.lf_h ?_))
    all_goals (first | first | (show Region.lexB _ _ = true; kernel_rfl) | (show planned _ _ = true; kernel_rfl) | exact rfl | exact True.intro | ((try dsimp only [imp, C0, cG, cInt, cPl, cSlot, cPg, rwCodec, cRaw] at *); (try refine inR64 ?_ ?_) <;> (try simp only [List.length_set, List.length_append, List.length_take, List.length_drop]) <;> omega))
  · rename_i b0 y1 hy1 y2 hy2 y3 hy3 y4 hy4 y5 hy5 v hv h3 w1 hw1 u hu h4
    obtain ⟨u, x⟩ := u
    obtain ⟨e1, e2⟩ : u ≤ (l2.take n2).length ∧ Gr (fours (hdN h ((l.take n).map blkOf).length ++ ((l.take n).map blkOf).flatMap lst ++ [((l2.take n2).length : Int)] ++ ((l2.take n2).take u).flatMap slotN)) x.2.2.1 (24 + 8 * ((l.take n).map blkOf).length + 36 * u) x.2.2.2 := hu
    have h4n : u < n2 := Int.ofNat_lt.1 (of_decide_eq_true h4)
    exact on_of h2.2.2 (Nat.lt_of_le_of_lt (Nat.zero_le _) h4n)
  · rename_i b0 y1 hy1 y2 hy2 y3 hy3 y4 hy4 y5 hy5 v hv h3 w1 hw1 u hu h4
    obtain ⟨u, x⟩ := u
    obtain ⟨e1, e2⟩ : u ≤ (l2.take n2).length ∧ Gr (fours (hdN h ((l.take n).map blkOf).length ++ ((l.take n).map blkOf).flatMap lst ++ [((l2.take n2).length : Int)] ++ ((l2.take n2).take u).flatMap slotN)) x.2.2.1 (24 + 8 * ((l.take n).map blkOf).length + 36 * u) x.2.2.2 := hu
    have h4n : u < n2 := Int.ofNat_lt.1 (of_decide_eq_true h4)
    exact Int.ofNat_lt.2 h4n
  · rename_i b0 y1 hy1 y2 hy2 y3 hy3 y4 hy4 y5 hy5 v hv h3 w1 hw1 u hu h4
    obtain ⟨u, x⟩ := u
    obtain ⟨e1, e2⟩ : u ≤ (l2.take n2).length ∧ Gr (fours (hdN h ((l.take n).map blkOf).length ++ ((l.take n).map blkOf).flatMap lst ++ [((l2.take n2).length : Int)] ++ ((l2.take n2).take u).flatMap slotN)) x.2.2.1 (24 + 8 * ((l.take n).map blkOf).length + 36 * u) x.2.2.2 := hu
    have h4n : u < n2 := Int.ofNat_lt.1 (of_decide_eq_true h4)
    exact on_of h2.2.2 (Nat.lt_of_le_of_lt (Nat.zero_le _) h4n)
  · rename_i b0 y1 hy1 y2 hy2 y3 hy3 y4 hy4 y5 hy5 v hv h3 w1 hw1 u hu h4
    obtain ⟨u, x⟩ := u
    obtain ⟨e1, e2⟩ : u ≤ (l2.take n2).length ∧ Gr (fours (hdN h ((l.take n).map blkOf).length ++ ((l.take n).map blkOf).flatMap lst ++ [((l2.take n2).length : Int)] ++ ((l2.take n2).take u).flatMap slotN)) x.2.2.1 (24 + 8 * ((l.take n).map blkOf).length + 36 * u) x.2.2.2 := hu
    have h4n : u < n2 := Int.ofNat_lt.1 (of_decide_eq_true h4)
    show (u : Int).toNat + 0 < l2.length
    omega
  · rename_i b0 y1 hy1 y2 hy2 y3 hy3 y4 hy4 y5 hy5 v hv h3 w1 hw1 u hu h4 bs
    obtain ⟨u, x⟩ := u
    obtain ⟨e1, e2⟩ : u ≤ (l2.take n2).length ∧ Gr (fours (hdN h ((l.take n).map blkOf).length ++ ((l.take n).map blkOf).flatMap lst ++ [((l2.take n2).length : Int)] ++ ((l2.take n2).take u).flatMap slotN)) x.2.2.1 (24 + 8 * ((l.take n).map blkOf).length + 36 * u) x.2.2.2 := hu
    have h4n : u < n2 := Int.ofNat_lt.1 (of_decide_eq_true h4)
    exact fpre e2 (by omega)
  · rename_i b0 y1 hy1 y2 hy2 y3 hy3 y4 hy4 y5 hy5 v hv h3 w1 hw1 u hu h4 bs z1 hz1
    obtain ⟨u, x⟩ := u
    obtain ⟨e1, e2⟩ : u ≤ (l2.take n2).length ∧ Gr (fours (hdN h ((l.take n).map blkOf).length ++ ((l.take n).map blkOf).flatMap lst ++ [((l2.take n2).length : Int)] ++ ((l2.take n2).take u).flatMap slotN)) x.2.2.1 (24 + 8 * ((l.take n).map blkOf).length + 36 * u) x.2.2.2 := hu
    have h4n : u < n2 := Int.ofNat_lt.1 (of_decide_eq_true h4)
    have k1 := fr1 (x := (l2.getD u slot0).key) e2 hz1
    exact fpre k1 (by omega)
  · rename_i b0 y1 hy1 y2 hy2 y3 hy3 y4 hy4 y5 hy5 v hv h3 w1 hw1 u hu h4 bs z1 hz1 z2 hz2
    obtain ⟨u, x⟩ := u
    obtain ⟨e1, e2⟩ : u ≤ (l2.take n2).length ∧ Gr (fours (hdN h ((l.take n).map blkOf).length ++ ((l.take n).map blkOf).flatMap lst ++ [((l2.take n2).length : Int)] ++ ((l2.take n2).take u).flatMap slotN)) x.2.2.1 (24 + 8 * ((l.take n).map blkOf).length + 36 * u) x.2.2.2 := hu
    have h4n : u < n2 := Int.ofNat_lt.1 (of_decide_eq_true h4)
    have k1 := fr1 (x := (l2.getD u slot0).key) e2 hz1
    have k2 := fr1 (x := (l2.getD u slot0).pl.1) k1 hz2
    exact fpre k2 (by omega)
  · rename_i b0 y1 hy1 y2 hy2 y3 hy3 y4 hy4 y5 hy5 v hv h3 w1 hw1 u hu h4 bs z1 hz1 z2 hz2 z3 hz3
    obtain ⟨u, x⟩ := u
    obtain ⟨e1, e2⟩ : u ≤ (l2.take n2).length ∧ Gr (fours (hdN h ((l.take n).map blkOf).length ++ ((l.take n).map blkOf).flatMap lst ++ [((l2.take n2).length : Int)] ++ ((l2.take n2).take u).flatMap slotN)) x.2.2.1 (24 + 8 * ((l.take n).map blkOf).length + 36 * u) x.2.2.2 := hu
    have h4n : u < n2 := Int.ofNat_lt.1 (of_decide_eq_true h4)
    have k1 := fr1 (x := (l2.getD u slot0).key) e2 hz1
    have k2 := fr1 (x := (l2.getD u slot0).pl.1) k1 hz2
    have k3 := fr1 (x := (l2.getD u slot0).pl.2) k2 hz3
    exact fpre k3 (by omega)
  · rename_i b0 y1 hy1 y2 hy2 y3 hy3 y4 hy4 y5 hy5 v hv h3 w1 hw1 u hu h4 bs z1 hz1 z2 hz2 z3 hz3 z4 hz4
    obtain ⟨u, x⟩ := u
    obtain ⟨e1, e2⟩ : u ≤ (l2.take n2).length ∧ Gr (fours (hdN h ((l.take n).map blkOf).length ++ ((l.take n).map blkOf).flatMap lst ++ [((l2.take n2).length : Int)] ++ ((l2.take n2).take u).flatMap slotN)) x.2.2.1 (24 + 8 * ((l.take n).map blkOf).length + 36 * u) x.2.2.2 := hu
    have h4n : u < n2 := Int.ofNat_lt.1 (of_decide_eq_true h4)
    have k1 := fr1 (x := (l2.getD u slot0).key) e2 hz1
    have k2 := fr1 (x := (l2.getD u slot0).pl.1) k1 hz2
    have k3 := fr1 (x := (l2.getD u slot0).pl.2) k2 hz3
    have k4 := fr1 (x := (l2.getD u slot0).me.kind) k3 hz4
    exact fpre k4 (by omega)
  · rename_i b0 y1 hy1 y2 hy2 y3 hy3 y4 hy4 y5 hy5 v hv h3 w1 hw1 u hu h4 bs z1 hz1 z2 hz2 z3 hz3 z4 hz4 z5 hz5
    obtain ⟨u, x⟩ := u
    obtain ⟨e1, e2⟩ : u ≤ (l2.take n2).length ∧ Gr (fours (hdN h ((l.take n).map blkOf).length ++ ((l.take n).map blkOf).flatMap lst ++ [((l2.take n2).length : Int)] ++ ((l2.take n2).take u).flatMap slotN)) x.2.2.1 (24 + 8 * ((l.take n).map blkOf).length + 36 * u) x.2.2.2 := hu
    have h4n : u < n2 := Int.ofNat_lt.1 (of_decide_eq_true h4)
    have k1 := fr1 (x := (l2.getD u slot0).key) e2 hz1
    have k2 := fr1 (x := (l2.getD u slot0).pl.1) k1 hz2
    have k3 := fr1 (x := (l2.getD u slot0).pl.2) k2 hz3
    have k4 := fr1 (x := (l2.getD u slot0).me.kind) k3 hz4
    have k5 := fr1 (x := (l2.getD u slot0).me.key) k4 hz5
    exact fpre k5 (by omega)
  · rename_i b0 y1 hy1 y2 hy2 y3 hy3 y4 hy4 y5 hy5 v hv h3 w1 hw1 u hu h4 bs z1 hz1 z2 hz2 z3 hz3 z4 hz4 z5 hz5 z6 hz6
    obtain ⟨u, x⟩ := u
    obtain ⟨e1, e2⟩ : u ≤ (l2.take n2).length ∧ Gr (fours (hdN h ((l.take n).map blkOf).length ++ ((l.take n).map blkOf).flatMap lst ++ [((l2.take n2).length : Int)] ++ ((l2.take n2).take u).flatMap slotN)) x.2.2.1 (24 + 8 * ((l.take n).map blkOf).length + 36 * u) x.2.2.2 := hu
    have h4n : u < n2 := Int.ofNat_lt.1 (of_decide_eq_true h4)
    have k1 := fr1 (x := (l2.getD u slot0).key) e2 hz1
    have k2 := fr1 (x := (l2.getD u slot0).pl.1) k1 hz2
    have k3 := fr1 (x := (l2.getD u slot0).pl.2) k2 hz3
    have k4 := fr1 (x := (l2.getD u slot0).me.kind) k3 hz4
    have k5 := fr1 (x := (l2.getD u slot0).me.key) k4 hz5
    have k6 := fr1 (x := (l2.getD u slot0).me.seq) k5 hz6
    exact fpre k6 (by omega)
  · rename_i b0 y1 hy1 y2 hy2 y3 hy3 y4 hy4 y5 hy5 v hv h3 w1 hw1 u hu h4 bs z1 hz1 z2 hz2 z3 hz3 z4 hz4 z5 hz5 z6 hz6 z7 hz7
    obtain ⟨u, x⟩ := u
    obtain ⟨e1, e2⟩ : u ≤ (l2.take n2).length ∧ Gr (fours (hdN h ((l.take n).map blkOf).length ++ ((l.take n).map blkOf).flatMap lst ++ [((l2.take n2).length : Int)] ++ ((l2.take n2).take u).flatMap slotN)) x.2.2.1 (24 + 8 * ((l.take n).map blkOf).length + 36 * u) x.2.2.2 := hu
    have h4n : u < n2 := Int.ofNat_lt.1 (of_decide_eq_true h4)
    have k1 := fr1 (x := (l2.getD u slot0).key) e2 hz1
    have k2 := fr1 (x := (l2.getD u slot0).pl.1) k1 hz2
    have k3 := fr1 (x := (l2.getD u slot0).pl.2) k2 hz3
    have k4 := fr1 (x := (l2.getD u slot0).me.kind) k3 hz4
    have k5 := fr1 (x := (l2.getD u slot0).me.key) k4 hz5
    have k6 := fr1 (x := (l2.getD u slot0).me.seq) k5 hz6
    have k7 := fr1 (x := (l2.getD u slot0).me.stamp) k6 hz7
    exact fpre k7 (by omega)
  · rename_i b0 y1 hy1 y2 hy2 y3 hy3 y4 hy4 y5 hy5 v hv h3 w1 hw1 u hu h4 bs z1 hz1 z2 hz2 z3 hz3 z4 hz4 z5 hz5 z6 hz6 z7 hz7 z8 hz8
    obtain ⟨u, x⟩ := u
    obtain ⟨e1, e2⟩ : u ≤ (l2.take n2).length ∧ Gr (fours (hdN h ((l.take n).map blkOf).length ++ ((l.take n).map blkOf).flatMap lst ++ [((l2.take n2).length : Int)] ++ ((l2.take n2).take u).flatMap slotN)) x.2.2.1 (24 + 8 * ((l.take n).map blkOf).length + 36 * u) x.2.2.2 := hu
    have h4n : u < n2 := Int.ofNat_lt.1 (of_decide_eq_true h4)
    have k1 := fr1 (x := (l2.getD u slot0).key) e2 hz1
    have k2 := fr1 (x := (l2.getD u slot0).pl.1) k1 hz2
    have k3 := fr1 (x := (l2.getD u slot0).pl.2) k2 hz3
    have k4 := fr1 (x := (l2.getD u slot0).me.kind) k3 hz4
    have k5 := fr1 (x := (l2.getD u slot0).me.key) k4 hz5
    have k6 := fr1 (x := (l2.getD u slot0).me.seq) k5 hz6
    have k7 := fr1 (x := (l2.getD u slot0).me.stamp) k6 hz7
    have k8 := fr1 (x := (l2.getD u slot0).me.batch) k7 hz8
    exact fpre k8 (by omega)
  · rename_i b0 y1 hy1 y2 hy2 y3 hy3 y4 hy4 y5 hy5 v hv h3 w1 hw1 u hu h4 bs z1 hz1 z2 hz2 z3 hz3 z4 hz4 z5 hz5 z6 hz6 z7 hz7 z8 hz8 z9 hz9
    obtain ⟨u, x⟩ := u
    obtain ⟨e1, e2⟩ : u ≤ (l2.take n2).length ∧ Gr (fours (hdN h ((l.take n).map blkOf).length ++ ((l.take n).map blkOf).flatMap lst ++ [((l2.take n2).length : Int)] ++ ((l2.take n2).take u).flatMap slotN)) x.2.2.1 (24 + 8 * ((l.take n).map blkOf).length + 36 * u) x.2.2.2 := hu
    have h4n : u < n2 := Int.ofNat_lt.1 (of_decide_eq_true h4)
    exact inR64 (by show _ ≤ (u : Int) + 1; omega) (by show (u : Int) + 1 ≤ _; omega)
  · rename_i b0 y1 hy1 y2 hy2 y3 hy3 y4 hy4 y5 hy5 v hv h3 w1 hw1 u hu h4 bs z1 hz1 z2 hz2 z3 hz3 z4 hz4 z5 hz5 z6 hz6 z7 hz7 z8 hz8 z9 hz9
    obtain ⟨u, x⟩ := u
    obtain ⟨e1, e2⟩ : u ≤ (l2.take n2).length ∧ Gr (fours (hdN h ((l.take n).map blkOf).length ++ ((l.take n).map blkOf).flatMap lst ++ [((l2.take n2).length : Int)] ++ ((l2.take n2).take u).flatMap slotN)) x.2.2.1 (24 + 8 * ((l.take n).map blkOf).length + 36 * u) x.2.2.2 := hu
    have h4n : u < n2 := Int.ofNat_lt.1 (of_decide_eq_true h4)
    have k1 := fr1 (x := (l2.getD u slot0).key) e2 hz1
    have k2 := fr1 (x := (l2.getD u slot0).pl.1) k1 hz2
    have k3 := fr1 (x := (l2.getD u slot0).pl.2) k2 hz3
    have k4 := fr1 (x := (l2.getD u slot0).me.kind) k3 hz4
    have k5 := fr1 (x := (l2.getD u slot0).me.key) k4 hz5
    have k6 := fr1 (x := (l2.getD u slot0).me.seq) k5 hz6
    have k7 := fr1 (x := (l2.getD u slot0).me.stamp) k6 hz7
    have k8 := fr1 (x := (l2.getD u slot0).me.batch) k7 hz8
    have k9 := fr1 (x := (l2.getD u slot0).me.floor) k8 hz9
    refine Stands.one (u + 1, z9) ⟨⟨by rw [tk_len hnl2]; omega, ?_⟩, ?_, ?_⟩
    · show Gr (fours (_ ++ ((l2.take n2).take (u + 1)).flatMap slotN)) _ (24 + 8 * ((l.take n).map blkOf).length + 36 * (u + 1)) _
      rw [take_snoc (d := slot0) (by rw [tk_len hnl2]; exact h4n), tk_at h4n, List.flatMap_append, List.flatMap_singleton, slot_lst, show 24 + 8 * ((l.take n).map blkOf).length + 36 * (u + 1) = 24 + 8 * ((l.take n).map blkOf).length + 36 * u + 4 + 4 + 4 + 4 + 4 + 4 + 4 + 4 + 4 by omega]
      simp only [← List.append_assoc]
      exact k9
    · show (l2.take n2).length - (u + 1) < (l2.take n2).length - u
      rw [tk_len hnl2]; omega
    ((conv => (arg 1; reduce)); with_reducible repeat' (first | exact Tr.yes_h | refine Tr.and_h ?_ ?_ | refine Tr.imp_h fun _ => ?_ | refine Tr.all_h fun _ => ?_ | refine Tr.lf_h ?_))
    all_goals (first | first | (show Region.lexB _ _ = true; kernel_rfl) | (show planned _ _ = true; kernel_rfl) | exact rfl | exact True.intro | ((try dsimp only [imp, C0, cG, cInt, cPl, cSlot, cPg, rwCodec, cRaw] at *); (try refine inR64 ?_ ?_) <;> (try simp only [List.length_set, List.length_append, List.length_take, List.length_drop]) <;> omega))
  · rename_i b0 y1 hy1 y2 hy2 y3 hy3 y4 hy4 y5 hy5 v hv h3 w1 hw1 u hu h4
    obtain ⟨u, x⟩ := u
    obtain ⟨e1, e2⟩ : u ≤ (l2.take n2).length ∧ Gr (fours (hdN h ((l.take n).map blkOf).length ++ ((l.take n).map blkOf).flatMap lst ++ [((l2.take n2).length : Int)] ++ ((l2.take n2).take u).flatMap slotN)) x.2.2.1 (24 + 8 * ((l.take n).map blkOf).length + 36 * u) x.2.2.2 := hu
    have h4n : ¬ u < n2 := fun hq => of_decide_eq_false h4 (Int.ofNat_lt.2 hq)
    have hu2 : u = (l2.take n2).length := by rw [tk_len hnl2] at e1 ⊢; omega
    rw [List.take_of_length_le (l := l2.take n2) (by omega)] at e2
    have hnn := tk_len hnl2
    have e3 : Gr (fours (nums h ((l.take n).map blkOf) (l2.take n2))) x.2.2.1 (24 + 8 * ((l.take n).map blkOf).length + 36 * u) x.2.2.2 := by unfold nums; exact e2
    exact ⟨by show 0 + (24 + 8 * ((l.take n).map blkOf).length + 36 * u) ≤ x.2.2.1.length; have := e3.2.2; omega, by show _ < (4611686018427387904 : Nat); omega, fun hq => Bool.noConfusion hq⟩
  · rename_i b0 y1 hy1 y2 hy2 y3 hy3 y4 hy4 y5 hy5 v hv h3 w1 hw1 u hu h4
    obtain ⟨u, x⟩ := u
    obtain ⟨e1, e2⟩ : u ≤ (l2.take n2).length ∧ Gr (fours (hdN h ((l.take n).map blkOf).length ++ ((l.take n).map blkOf).flatMap lst ++ [((l2.take n2).length : Int)] ++ ((l2.take n2).take u).flatMap slotN)) x.2.2.1 (24 + 8 * ((l.take n).map blkOf).length + 36 * u) x.2.2.2 := hu
    have h4n : ¬ u < n2 := fun hq => of_decide_eq_false h4 (Int.ofNat_lt.2 hq)
    have hu2 : u = (l2.take n2).length := by rw [tk_len hnl2] at e1 ⊢; omega
    rw [List.take_of_length_le (l := l2.take n2) (by omega)] at e2
    have hnn := tk_len hnl2
    have e3 : Gr (fours (nums h ((l.take n).map blkOf) (l2.take n2))) x.2.2.1 (24 + 8 * ((l.take n).map blkOf).length + 36 * u) x.2.2.2 := by unfold nums; exact e2
    exact fpre e3 (by omega)
  · rename_i b0 y1 hy1 y2 hy2 y3 hy3 y4 hy4 y5 hy5 v hv h3 w1 hw1 u hu h4 z hz
    obtain ⟨u, x⟩ := u
    obtain ⟨e1, e2⟩ : u ≤ (l2.take n2).length ∧ Gr (fours (hdN h ((l.take n).map blkOf).length ++ ((l.take n).map blkOf).flatMap lst ++ [((l2.take n2).length : Int)] ++ ((l2.take n2).take u).flatMap slotN)) x.2.2.1 (24 + 8 * ((l.take n).map blkOf).length + 36 * u) x.2.2.2 := hu
    have h4n : ¬ u < n2 := fun hq => of_decide_eq_false h4 (Int.ofNat_lt.2 hq)
    have hu2 : u = (l2.take n2).length := by rw [tk_len hnl2] at e1 ⊢; omega
    rw [List.take_of_length_le (l := l2.take n2) (by omega)] at e2
    have hnn := tk_len hnl2
    have e3 : Gr (fours (nums h ((l.take n).map blkOf) (l2.take n2))) x.2.2.1 (24 + 8 * ((l.take n).map blkOf).length + 36 * u) x.2.2.2 := by unfold nums; exact e2
    have hz : Gr (x.2.2.1.take (24 + 8 * ((l.take n).map blkOf).length + 36 * u) ++ four (crc (x.2.2.1.take (24 + 8 * ((l.take n).map blkOf).length + 36 * u)))) z.2.2.1 (24 + 8 * ((l.take n).map blkOf).length + 36 * u + 4) z.2.2.2 := hz
    rw [e3.2.1] at hz
    have hz : Gr (bytesP h ((l.take n).map blkOf) (l2.take n2)) z.2.2.1 (24 + 8 * ((l.take n).map blkOf).length + 36 * u + 4) z.2.2.2 := by unfold bytesP; exact hz
    have hlen := hz.1
    rw [hlen] at hz
    refine Ends.one z hz ?_
    ((conv => (arg 1; reduce)); with_reducible repeat' (first | exact Tr.yes_h | refine Tr.and_h ?_ ?_ | refine Tr.imp_h fun _ => ?_ | refine Tr.all_h fun _ => ?_ | refine Tr.lf_h ?_))
    all_goals (first | first | (show Region.lexB _ _ = true; kernel_rfl) | (show planned _ _ = true; kernel_rfl) | exact rfl | exact True.intro | ((try dsimp only [imp, C0, cG, cInt, cPl, cSlot, cPg, rwCodec, cRaw] at *); (try refine inR64 ?_ ?_) <;> (try simp only [List.length_set, List.length_append, List.length_take, List.length_drop]) <;> omega))
def fcPb : Fc Tryd.prog C0 where
  tg := .fn 15
  X := Hd × Sq (Rw Int) × Sq Slot
  args := fun (h, (o, b, q, l, n, c), (o2, b2, q2, l2, n2, c2)) => [ptv h (.sl 0 0 n c) (.sl 1 0 n2 c2)]
  mem := fun (h, (o, b, q, l, n, c), (o2, b2, q2, l2, n2, c2)) => [⟨b, q, 1, false, some o, .rows 71 l⟩, ⟨b2, q2, 9, false, some o2, .rows 74 l2⟩]
  pre := fun (h, (o, b, q, l, n, c), (o2, b2, q2, l2, n2, c2)) => Sq.ok (o, b, q, l, n, c) ∧ Sq.ok (o2, b2, q2, l2, n2, c2) ∧ (∀ r ∈ l.take n, Rok r ∧ r.l.length = 2) ∧ n ≤ 1000000 ∧ n2 ≤ 1000000
  alts := fun (h, (o, b, q, l, n, c), (o2, b2, q2, l2, n2, c2)) => [⟨Fx, fun y => Gr (bytesP h ((l.take n).map blkOf) (l2.take n2)) y.2.2.1 (bytesP h ((l.take n).map blkOf) (l2.take n2)).length y.2.2.2, fun y => .sl 2 0 (bytesP h ((l.take n).map blkOf) (l2.take n2)).length y.2.2.2,
      fun y => [⟨b, q, 1, false, some o, .rows 71 l⟩, ⟨b2, q2, 9, false, some o2, .rows 74 l2⟩, ⟨y.1, y.2.1, 1, true, none, .rows 5 y.2.2.1⟩]⟩]
  mat vs m := match vs with
    | [.agg [.int _ h1, .int _ h2, .int _ h3, .int _ h4, .sl a 0 n c, .sl a' 0 n' c']] => match nth m a, nth m a' with
      | ⟨b, q, _, _, g, .rows 71 l⟩, ⟨b', q', _, _, g', .rows 74 l'⟩ => some (((h1, h2, h3, h4), (onOf g, b, q, l, n, c), (onOf g', b', q', l', n', c')), [a, a'])
      | _, _ => none
    | _ => none
  ok := fun (h, (o, b, q, l, n, c), (o2, b2, q2, l2, n2, c2)) x => pbytes_ok h o b q l n c o2 b2 q2 l2 n2 c2 x.1 x.2.1 x.2.2.1 x.2.2.2.1 x.2.2.2.2
end Go.Vx
