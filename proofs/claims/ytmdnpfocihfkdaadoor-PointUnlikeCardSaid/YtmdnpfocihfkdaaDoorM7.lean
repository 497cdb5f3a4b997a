/-
  Round 23: a point that may be, az the document has it.
  Round 23: a point's bytes, az the document has them.
  Round 23: the point of bytes, az the document has it.
  Conditions: none.
-/
import Derived.Test.YtmdnpfocihfkdaaDoorM5
import Derived.Test.YtmdnpfocihfkdaaDoorM6
set_option linter.unusedSectionVars false
set_option maxRecDepth 100000
set_option linter.unusedVariables false
set_option linter.unusedSimpArgs false
namespace Go.Vx
open Go Go.Proofs
variable [Gl]

theorem map_at {l : List (Rw Int)} {n v : Nat} (hv : v < n) (h : n ≤ l.length) : ((l.take n).map blkOf).getD v (0, 0) = blkOf (l.getD v Rw.nil) := by
  rw [List.getD_eq_getElem?_getD, List.getElem?_map, List.getElem?_take_of_lt hv, List.getD_eq_getElem?_getD, List.getElem?_eq_getElem (by omega)]; rfl
theorem okBs_no {A : List Pl} {i : Nat} (h : okBs A i = false) : ∀ k, okBs A (i + k) = false
  | 0 => h
  | k + 1 => by
    show okBs A (i + k + 1) = false
    rw [okBs, okBs_no h k]; rfl
theorem okSs_no {A : List Pl} {ok : Bool} {B : List Slot} {i : Nat} (h : okSs A ok B i = false) : ∀ k, okSs A ok B (i + k) = false
  | 0 => h
  | k + 1 => by
    show okSs A ok B (i + k + 1) = false
    rw [okSs, okSs_no h k]; rfl
theorem okP_noS {h : Hd} {A : List Pl} {B : List Slot} {i : Nat} (hh : okSs A (okH h && okBs A A.length) B i = false) (hi : i ≤ B.length) : okP h A B = false := by
  have := okSs_no hh (B.length - i)
  rw [show i + (B.length - i) = B.length by omega] at this
  unfold okP; exact this
theorem okP_noB {h : Hd} {A : List Pl} {B : List Slot} {i : Nat} (hh : okBs A i = false) (hi : i ≤ A.length) : okP h A B = false := by
  have := okBs_no hh (A.length - i)
  rw [show i + (A.length - i) = A.length by omega] at this
  exact okP_noS (i := 0) (by rw [okSs, this, Bool.and_false]) (Nat.zero_le _)
theorem okP_noH {h : Hd} {A : List Pl} {B : List Slot} (hh : okH h = false) : okP h A B = false := okP_noS (i := 0) (by rw [okSs, hh]; rfl) (Nat.zero_le _)
theorem blk_no1 {ok : Bool} {i : Nat} {p b : Pl} (h : (decide (b.1 < 0) || decide (64 ≤ b.1) || !cn b.2) = true) : okB ok i p b = false := by
  unfold okB
  cases hk : cn b.2 with
  | false => simp
  | true =>
    rw [hk] at h
    simp only [Bool.not_true, Bool.or_false, Bool.or_eq_true, decide_eq_true_iff] at h
    rcases h with h | h
    · have : cn b.1 = false := by
        cases hc : cn b.1 with
        | false => rfl
        | true => have := cn_iff.1 hc; omega
      rw [this]; simp
    · rw [decide_eq_false (by omega : ¬ b.1 < 64)]; simp
theorem blk_no2 {ok : Bool} {i : Nat} {p b : Pl} (hi : 0 < i) (h : b.1 ≤ p.1) : okB ok i p b = false := by
  unfold okB
  rw [decide_eq_false (by omega : ¬ i = 0), decide_eq_false (by omega : ¬ p.1 < b.1)]; simp
theorem blk_yes {i : Nat} {p b : Pl} (h : (decide (b.1 < 0) || decide (64 ≤ b.1) || !cn b.2) = false) (h2 : i = 0 ∨ ¬ b.1 ≤ p.1) : (true && okB true i p b) = true := by
  simp only [Bool.or_eq_false_iff, decide_eq_false_iff_not, Bool.not_eq_false'] at h
  obtain ⟨⟨g1, g2⟩, g3⟩ := h
  unfold okB
  rw [g3, cn_iff.2 ⟨by omega, by omega⟩, decide_eq_true (by omega : b.1 < 64)]
  rcases h2 with h2 | h2
  · rw [decide_eq_true h2]; simp
  · rw [decide_eq_true (by omega : p.1 < b.1)]; simp
theorem slt_no1 {A : List Pl} {ok : Bool} {i : Nat} {p s : Slot} (h : (!anyF (fun x => decide (x.1 = s.pl.1)) A || decide (s.pl.2 < 0) || decide (64 ≤ s.pl.2) || !cn s.key || !okMe s.me) = true) : okS A ok i p s = false := by
  unfold okS
  cases h1 : anyF (fun x => decide (x.1 = s.pl.1)) A with
  | false => simp
  | true =>
    cases h2 : cn s.key with
    | false => simp
    | true =>
      cases h3 : okMe s.me with
      | false => simp
      | true =>
        rw [h1, h2, h3] at h
        simp only [Bool.not_true, Bool.or_false, Bool.false_or, Bool.or_eq_true, decide_eq_true_iff] at h
        rcases h with h | h
        · have : cn s.pl.2 = false := by
            cases hc : cn s.pl.2 with
            | false => rfl
            | true => have := cn_iff.1 hc; omega
          rw [this]; simp
        · rw [decide_eq_false (by omega : ¬ s.pl.2 < 64)]; simp
theorem slt_no2 {A : List Pl} {ok : Bool} {i : Nat} {p s : Slot} (hi : 0 < i) (h : (decide (s.pl.1 < p.pl.1) || (decide (p.pl.1 = s.pl.1) && decide (s.pl.2 ≤ p.pl.2))) = true) : okS A ok i p s = false := by
  simp only [Bool.or_eq_true, Bool.and_eq_true, decide_eq_true_iff] at h
  unfold okS
  have : (decide (i = 0) || (decide (p.pl.1 < s.pl.1) || (decide (p.pl.1 = s.pl.1) && decide (p.pl.2 < s.pl.2)))) = false := by
    simp only [Bool.or_eq_false_iff, Bool.and_eq_false_iff, decide_eq_false_iff_not]
    omega
  rw [this]; simp
theorem slt_yes {A : List Pl} {i : Nat} {p s : Slot} (h : (!anyF (fun x => decide (x.1 = s.pl.1)) A || decide (s.pl.2 < 0) || decide (64 ≤ s.pl.2) || !cn s.key || !okMe s.me) = false)
    (h2 : i = 0 ∨ (decide (s.pl.1 < p.pl.1) || (decide (p.pl.1 = s.pl.1) && decide (s.pl.2 ≤ p.pl.2))) = false) : okS A true i p s = true := by
  simp only [Bool.or_eq_false_iff, decide_eq_false_iff_not, Bool.not_eq_false'] at h
  obtain ⟨⟨⟨⟨g1, g2⟩, g3⟩, g4⟩, g5⟩ := h
  unfold okS
  have : (decide (i = 0) || (decide (p.pl.1 < s.pl.1) || (decide (p.pl.1 = s.pl.1) && decide (p.pl.2 < s.pl.2)))) = true := by
    simp only [Bool.or_eq_false_iff, Bool.and_eq_false_iff, decide_eq_false_iff_not] at h2
    simp only [Bool.or_eq_true, Bool.and_eq_true, decide_eq_true_iff]
    omega
  rw [this, g1, g4, g5, cn_iff.2 ⟨by omega, by omega⟩, decide_eq_true (by omega : s.pl.2 < 64)]
  rfl
def Mr4 (h : Hd) (A : List Pl) : Inv' C0 := ⟨4, Nat, fun i => [(3, .int .i64 (i : Int))], fun _ m => m, fun i => i ≤ A.length ∧ (okH h && okBs A i) = true, fun i => A.length - i⟩
def Mr10 (h : Hd) (A : List Pl) (B : List Slot) : Inv' C0 := ⟨10, Nat, fun i => [(5, .int .i64 (i : Int))], fun _ m => m, fun i => i ≤ B.length ∧ okSs A (okH h && okBs A A.length) B i = true, fun i => B.length - i⟩
def Mr15 (A : List Pl) (B : List Slot) : Inv' C0 := ⟨15, Nat × Bool × Nat, fun x => [(8, .int .i64 (x.1 : Int)), (7, .bool (.tm x.2.1)), (5, .int .i64 (x.2.2 : Int))], fun _ m => m, fun x => x.1 ≤ A.length ∧ x.2.1 = anyF (fun b => decide (b.1 = (B.getD x.2.2 slot0).pl.1)) (A.take x.1), fun x => A.length - x.1⟩
set_option maxHeartbeats 8000000 in
theorem rpmay_ok (h : Hd) (o : Bool) (b q : Nat) (l : List (Rw Int)) (n c : Nat) (o2 : Bool) (b2 q2 : Nat) (l2 : List Slot) (n2 c2 : Nat)
    (h1 : Sq.ok (o, b, q, l, n, c)) (h2 : Sq.ok (o2, b2, q2, l2, n2, c2)) (hr : ∀ r ∈ l.take n, Rok r ∧ r.l.length = 2) (hn : n ≤ 1000000) (hn2 : n2 ≤ 1000000) :
    Tells (C := C0) Tryd.prog (.fn 12) [⟨b, q, 1, false, some o, .rows 71 l⟩, ⟨b2, q2, 9, false, some o2, .rows 74 l2⟩] [ptv h (.sl 0 0 n c) (.sl 1 0 n2 c2)] (.bool (.tm (okP h ((l.take n).map blkOf) (l2.take n2)))) := by
  have hnl : n ≤ l.length := h1.2.1
  have hnl2 : n2 ≤ l2.length := h2.2.1
  have hAl : ((l.take n).map blkOf).length = n := by rw [List.length_map]; exact tk_len hnl
  refine loc_pc (P := Tryd.prog) (E := ⟨[], [pcCount, pcRmay], 169, [], [fI], []⟩) (L := [Mr4 h ((l.take n).map blkOf), Mr10 h ((l.take n).map blkOf) (l2.take n2), Mr15 ((l.take n).map blkOf) (l2.take n2)]) mix Tryd.func12 rfl (by kernel_rfl) (by kernel_rfl) rfl rfl ?_
  ((conv => (arg 1; reduce)); with_reducible repeat' (first | exact Tr.yes_h | refine Tr.and_h ?_ ?_ | refine Tr.imp_h fun _ => ?_ | refine Tr.all_h fun _ => ?_ | refine Tr.lf_h ?_))
  all_goals try (first | first | (show Region.lexB _ _ = true; kernel_rfl) | (show planned _ _ = true; kernel_rfl) | exact rfl | exact True.intro | ((try dsimp only [imp, C0, cG, cInt, cPl, cSlot, cPg, rwCodec, cRaw] at *); (try refine inR64 ?_ ?_) <;> (try simp only [List.length_set, List.length_append, List.length_take, List.length_drop]) <;> omega))
  · rename_i b0 h0
    have h0 : (!cn h.1 || !cn h.2.1 || !cn h.2.2.1 || !cn h.2.2.2) = true := h0
    refine (okP_noH ?_).symm
    unfold okH
    rw [← Bool.not_eq_true', Bool.not_and, Bool.not_and, Bool.not_and]
    exact h0
  · rename_i b0 h0
    have h0 : (!cn h.1 || !cn h.2.1 || !cn h.2.2.1 || !cn h.2.2.2) = false := h0
    have hH : okH h = true := by
      unfold okH
      rw [← Bool.not_eq_false', Bool.not_and, Bool.not_and, Bool.not_and]
      exact h0
    refine Stands.one (0 : Nat) ⟨⟨Nat.zero_le _, by rw [hH]; rfl⟩, ?_⟩
    ((conv => (arg 1; reduce)); with_reducible repeat' (first | exact Tr.yes_h | refine Tr.and_h ?_ ?_ | refine Tr.imp_h fun _ => ?_ | refine Tr.all_h fun _ => ?_ | refine Tr.lf_h ?_))
    all_goals (first | first | (show Region.lexB _ _ = true; kernel_rfl) | (show planned _ _ = true; kernel_rfl) | exact rfl | exact True.intro | ((try dsimp only [imp, C0, cG, cInt, cPl, cSlot, cPg, rwCodec, cRaw] at *); (try refine inR64 ?_ ?_) <;> (try simp only [List.length_set, List.length_append, List.length_take, List.length_drop]) <;> omega))
  · rename_i b0 h0 v hv h3
    change Nat at v
    obtain ⟨e1, e2⟩ : v ≤ ((l.take n).map blkOf).length ∧ (okH h && okBs ((l.take n).map blkOf) v) = true := hv
    have h3 : v < n := Int.ofNat_lt.1 (of_decide_eq_true h3)
    rw [hAl] at e1
    exact on_of h1.2.2 (Nat.lt_of_le_of_lt (Nat.zero_le _) h3)
  · rename_i b0 h0 v hv h3
    change Nat at v
    obtain ⟨e1, e2⟩ : v ≤ ((l.take n).map blkOf).length ∧ (okH h && okBs ((l.take n).map blkOf) v) = true := hv
    have h3 : v < n := Int.ofNat_lt.1 (of_decide_eq_true h3)
    rw [hAl] at e1
    exact Int.ofNat_lt.2 h3
  · rename_i b0 h0 v hv h3
    change Nat at v
    obtain ⟨e1, e2⟩ : v ≤ ((l.take n).map blkOf).length ∧ (okH h && okBs ((l.take n).map blkOf) v) = true := hv
    have h3 : v < n := Int.ofNat_lt.1 (of_decide_eq_true h3)
    rw [hAl] at e1
    exact on_of h1.2.2 (Nat.lt_of_le_of_lt (Nat.zero_le _) h3)
  · rename_i b0 h0 v hv h3
    change Nat at v
    obtain ⟨e1, e2⟩ : v ≤ ((l.take n).map blkOf).length ∧ (okH h && okBs ((l.take n).map blkOf) v) = true := hv
    have h3 : v < n := Int.ofNat_lt.1 (of_decide_eq_true h3)
    rw [hAl] at e1
    show (v : Int).toNat + 0 < l.length
    omega
  · rename_i b0 h0 v hv h3 r hr1
    change Nat at v
    obtain ⟨e1, e2⟩ : v ≤ ((l.take n).map blkOf).length ∧ (okH h && okBs ((l.take n).map blkOf) v) = true := hv
    have h3 : v < n := Int.ofNat_lt.1 (of_decide_eq_true h3)
    rw [hAl] at e1
    change Rw Int at r
    have hr1 : l.getD v Rw.nil = r := hr1
    obtain ⟨⟨g1, g2, g3⟩, g4⟩ := hr r (row_mem h3 hnl hr1)
    exact on_of g1 (by omega)
  · rename_i b0 h0 v hv h3 r hr1
    change Nat at v
    obtain ⟨e1, e2⟩ : v ≤ ((l.take n).map blkOf).length ∧ (okH h && okBs ((l.take n).map blkOf) v) = true := hv
    have h3 : v < n := Int.ofNat_lt.1 (of_decide_eq_true h3)
    rw [hAl] at e1
    change Rw Int at r
    have hr1 : l.getD v Rw.nil = r := hr1
    obtain ⟨⟨g1, g2, g3⟩, g4⟩ := hr r (row_mem h3 hnl hr1)
    show (0 : Int) < ((r.l.length : Nat) : Int)
    rw [g4]; decide
  · rename_i b0 h0 v hv h3 r hr1
    change Nat at v
    obtain ⟨e1, e2⟩ : v ≤ ((l.take n).map blkOf).length ∧ (okH h && okBs ((l.take n).map blkOf) v) = true := hv
    have h3 : v < n := Int.ofNat_lt.1 (of_decide_eq_true h3)
    rw [hAl] at e1
    change Rw Int at r
    have hr1 : l.getD v Rw.nil = r := hr1
    obtain ⟨⟨g1, g2, g3⟩, g4⟩ := hr r (row_mem h3 hnl hr1)
    exact on_of g1 (by omega)
  · rename_i b0 h0 v hv h3 r hr1
    change Nat at v
    obtain ⟨e1, e2⟩ : v ≤ ((l.take n).map blkOf).length ∧ (okH h && okBs ((l.take n).map blkOf) v) = true := hv
    have h3 : v < n := Int.ofNat_lt.1 (of_decide_eq_true h3)
    rw [hAl] at e1
    change Rw Int at r
    have hr1 : l.getD v Rw.nil = r := hr1
    obtain ⟨⟨g1, g2, g3⟩, g4⟩ := hr r (row_mem h3 hnl hr1)
    show (0 : Int).toNat + 0 < r.l.length
    rw [g4]; decide
  · rename_i b0 h0 v hv h3 r hr1 h5
    change Nat at v
    obtain ⟨e1, e2⟩ : v ≤ ((l.take n).map blkOf).length ∧ (okH h && okBs ((l.take n).map blkOf) v) = true := hv
    have h3 : v < n := Int.ofNat_lt.1 (of_decide_eq_true h3)
    rw [hAl] at e1
    change Rw Int at r
    have hr1 : l.getD v Rw.nil = r := hr1
    obtain ⟨⟨g1, g2, g3⟩, g4⟩ := hr r (row_mem h3 hnl hr1)
    exact on_of g1 (by omega)
  · rename_i b0 h0 v hv h3 r hr1 h5
    change Nat at v
    obtain ⟨e1, e2⟩ : v ≤ ((l.take n).map blkOf).length ∧ (okH h && okBs ((l.take n).map blkOf) v) = true := hv
    have h3 : v < n := Int.ofNat_lt.1 (of_decide_eq_true h3)
    rw [hAl] at e1
    change Rw Int at r
    have hr1 : l.getD v Rw.nil = r := hr1
    obtain ⟨⟨g1, g2, g3⟩, g4⟩ := hr r (row_mem h3 hnl hr1)
    show (0 : Int) < ((r.l.length : Nat) : Int)
    rw [g4]; decide
  · rename_i b0 h0 v hv h3 r hr1 h5
    change Nat at v
    obtain ⟨e1, e2⟩ : v ≤ ((l.take n).map blkOf).length ∧ (okH h && okBs ((l.take n).map blkOf) v) = true := hv
    have h3 : v < n := Int.ofNat_lt.1 (of_decide_eq_true h3)
    rw [hAl] at e1
    change Rw Int at r
    have hr1 : l.getD v Rw.nil = r := hr1
    obtain ⟨⟨g1, g2, g3⟩, g4⟩ := hr r (row_mem h3 hnl hr1)
    exact on_of g1 (by omega)
  · rename_i b0 h0 v hv h3 r hr1 h5
    change Nat at v
    obtain ⟨e1, e2⟩ : v ≤ ((l.take n).map blkOf).length ∧ (okH h && okBs ((l.take n).map blkOf) v) = true := hv
    have h3 : v < n := Int.ofNat_lt.1 (of_decide_eq_true h3)
    rw [hAl] at e1
    change Rw Int at r
    have hr1 : l.getD v Rw.nil = r := hr1
    obtain ⟨⟨g1, g2, g3⟩, g4⟩ := hr r (row_mem h3 hnl hr1)
    show (0 : Int).toNat + 0 < r.l.length
    rw [g4]; decide
  · rename_i b0 h0 v hv h3 r hr1 h5
    change Nat at v
    obtain ⟨e1, e2⟩ : v ≤ ((l.take n).map blkOf).length ∧ (okH h && okBs ((l.take n).map blkOf) v) = true := hv
    have h3 : v < n := Int.ofNat_lt.1 (of_decide_eq_true h3)
    rw [hAl] at e1
    change Rw Int at r
    have hr1 : l.getD v Rw.nil = r := hr1
    obtain ⟨⟨g1, g2, g3⟩, g4⟩ := hr r (row_mem h3 hnl hr1)
    exact on_of g1 (by omega)
  · rename_i b0 h0 v hv h3 r hr1 h5
    change Nat at v
    obtain ⟨e1, e2⟩ : v ≤ ((l.take n).map blkOf).length ∧ (okH h && okBs ((l.take n).map blkOf) v) = true := hv
    have h3 : v < n := Int.ofNat_lt.1 (of_decide_eq_true h3)
    rw [hAl] at e1
    change Rw Int at r
    have hr1 : l.getD v Rw.nil = r := hr1
    obtain ⟨⟨g1, g2, g3⟩, g4⟩ := hr r (row_mem h3 hnl hr1)
    show (1 : Int) < ((r.l.length : Nat) : Int)
    rw [g4]; decide
  · rename_i b0 h0 v hv h3 r hr1 h5
    change Nat at v
    obtain ⟨e1, e2⟩ : v ≤ ((l.take n).map blkOf).length ∧ (okH h && okBs ((l.take n).map blkOf) v) = true := hv
    have h3 : v < n := Int.ofNat_lt.1 (of_decide_eq_true h3)
    rw [hAl] at e1
    change Rw Int at r
    have hr1 : l.getD v Rw.nil = r := hr1
    obtain ⟨⟨g1, g2, g3⟩, g4⟩ := hr r (row_mem h3 hnl hr1)
    exact on_of g1 (by omega)
  · rename_i b0 h0 v hv h3 r hr1 h5
    change Nat at v
    obtain ⟨e1, e2⟩ : v ≤ ((l.take n).map blkOf).length ∧ (okH h && okBs ((l.take n).map blkOf) v) = true := hv
    have h3 : v < n := Int.ofNat_lt.1 (of_decide_eq_true h3)
    rw [hAl] at e1
    change Rw Int at r
    have hr1 : l.getD v Rw.nil = r := hr1
    obtain ⟨⟨g1, g2, g3⟩, g4⟩ := hr r (row_mem h3 hnl hr1)
    show (1 : Int).toNat + 0 < r.l.length
    rw [g4]; decide
  · rename_i b0 h0 v hv h3 r hr1 h5 h6
    change Nat at v
    obtain ⟨e1, e2⟩ : v ≤ ((l.take n).map blkOf).length ∧ (okH h && okBs ((l.take n).map blkOf) v) = true := hv
    have h3 : v < n := Int.ofNat_lt.1 (of_decide_eq_true h3)
    rw [hAl] at e1
    have h6 : 0 < v := Int.ofNat_lt.1 (of_decide_eq_true h6)
    exact inR64 (by show _ ≤ (v : Int) - 1; omega) (by show (v : Int) - 1 ≤ _; omega)
  · rename_i b0 h0 v hv h3 r hr1 h5 h6
    change Nat at v
    obtain ⟨e1, e2⟩ : v ≤ ((l.take n).map blkOf).length ∧ (okH h && okBs ((l.take n).map blkOf) v) = true := hv
    have h3 : v < n := Int.ofNat_lt.1 (of_decide_eq_true h3)
    rw [hAl] at e1
    exact on_of h1.2.2 (Nat.lt_of_le_of_lt (Nat.zero_le _) h3)
  · rename_i b0 h0 v hv h3 r hr1 h5 h6
    change Nat at v
    obtain ⟨e1, e2⟩ : v ≤ ((l.take n).map blkOf).length ∧ (okH h && okBs ((l.take n).map blkOf) v) = true := hv
    have h3 : v < n := Int.ofNat_lt.1 (of_decide_eq_true h3)
    rw [hAl] at e1
    have h6 : 0 < v := Int.ofNat_lt.1 (of_decide_eq_true h6)
    show (0 : Int) ≤ (v : Int) - 1
    omega
  · rename_i b0 h0 v hv h3 r hr1 h5 h6
    change Nat at v
    obtain ⟨e1, e2⟩ : v ≤ ((l.take n).map blkOf).length ∧ (okH h && okBs ((l.take n).map blkOf) v) = true := hv
    have h3 : v < n := Int.ofNat_lt.1 (of_decide_eq_true h3)
    rw [hAl] at e1
    have h6 : 0 < v := Int.ofNat_lt.1 (of_decide_eq_true h6)
    show (v : Int) - 1 < (n : Int)
    omega
  · rename_i b0 h0 v hv h3 r hr1 h5
    change Nat at v
    obtain ⟨e1, e2⟩ : v ≤ ((l.take n).map blkOf).length ∧ (okH h && okBs ((l.take n).map blkOf) v) = true := hv
    have h3 : v < n := Int.ofNat_lt.1 (of_decide_eq_true h3)
    rw [hAl] at e1
    change Rw Int at r
    have hr1 : l.getD v Rw.nil = r := hr1
    obtain ⟨⟨g1, g2, g3⟩, g4⟩ := hr r (row_mem h3 hnl hr1)
    have hAv : ((l.take n).map blkOf).getD v (0, 0) = blkOf r := by rw [map_at h3 hnl, hr1]
    have hb1 : (blkOf r).1 = r.l.getD 0 0 := by unfold blkOf; rfl
    have hb2 : (blkOf r).2 = r.l.getD 1 0 := by unfold blkOf; rfl
    have h5 : (decide (r.l.getD 0 0 < 0) || decide (64 ≤ r.l.getD 0 0) || !cn (r.l.getD 1 0)) = true := h5
    rw [← hb1, ← hb2] at h5
    refine (okP_noB (i := v + 1) ?_ (by rw [hAl]; omega)).symm
    rw [okBs, hAv]
    exact blk_no1 h5
  · rename_i b0 h0 v hv h3 r hr1 h5 h6
    change Nat at v
    obtain ⟨e1, e2⟩ : v ≤ ((l.take n).map blkOf).length ∧ (okH h && okBs ((l.take n).map blkOf) v) = true := hv
    have h3 : v < n := Int.ofNat_lt.1 (of_decide_eq_true h3)
    rw [hAl] at e1
    exact on_of h1.2.2 (Nat.lt_of_le_of_lt (Nat.zero_le _) h3)
  · rename_i b0 h0 v hv h3 r hr1 h5 h6
    change Nat at v
    obtain ⟨e1, e2⟩ : v ≤ ((l.take n).map blkOf).length ∧ (okH h && okBs ((l.take n).map blkOf) v) = true := hv
    have h3 : v < n := Int.ofNat_lt.1 (of_decide_eq_true h3)
    rw [hAl] at e1
    have h6 : 0 < v := Int.ofNat_lt.1 (of_decide_eq_true h6)
    show ((v : Int) - 1).toNat + 0 < l.length
    omega
  · rename_i b0 h0 v hv h3 r hr1 h5 h6 r2 hr2
    change Nat at v
    obtain ⟨e1, e2⟩ : v ≤ ((l.take n).map blkOf).length ∧ (okH h && okBs ((l.take n).map blkOf) v) = true := hv
    have h3 : v < n := Int.ofNat_lt.1 (of_decide_eq_true h3)
    rw [hAl] at e1
    have h6 : 0 < v := Int.ofNat_lt.1 (of_decide_eq_true h6)
    change Rw Int at r2
    have hr2 : l.getD ((v : Int) - 1).toNat Rw.nil = r2 := hr2
    obtain ⟨⟨g1, g2, g3⟩, g4⟩ := hr r2 (row_mem (by omega) hnl hr2)
    exact on_of g1 (by omega)
  · rename_i b0 h0 v hv h3 r hr1 h5 h6 r2 hr2
    change Nat at v
    obtain ⟨e1, e2⟩ : v ≤ ((l.take n).map blkOf).length ∧ (okH h && okBs ((l.take n).map blkOf) v) = true := hv
    have h3 : v < n := Int.ofNat_lt.1 (of_decide_eq_true h3)
    rw [hAl] at e1
    have h6 : 0 < v := Int.ofNat_lt.1 (of_decide_eq_true h6)
    change Rw Int at r2
    have hr2 : l.getD ((v : Int) - 1).toNat Rw.nil = r2 := hr2
    obtain ⟨⟨g1, g2, g3⟩, g4⟩ := hr r2 (row_mem (by omega) hnl hr2)
    show (0 : Int) < ((r2.l.length : Nat) : Int)
    rw [g4]; decide
  · rename_i b0 h0 v hv h3 r hr1 h5 h6 r2 hr2
    change Nat at v
    obtain ⟨e1, e2⟩ : v ≤ ((l.take n).map blkOf).length ∧ (okH h && okBs ((l.take n).map blkOf) v) = true := hv
    have h3 : v < n := Int.ofNat_lt.1 (of_decide_eq_true h3)
    rw [hAl] at e1
    have h6 : 0 < v := Int.ofNat_lt.1 (of_decide_eq_true h6)
    change Rw Int at r2
    have hr2 : l.getD ((v : Int) - 1).toNat Rw.nil = r2 := hr2
    obtain ⟨⟨g1, g2, g3⟩, g4⟩ := hr r2 (row_mem (by omega) hnl hr2)
    exact on_of g1 (by omega)
  · rename_i b0 h0 v hv h3 r hr1 h5 h6 r2 hr2
    change Nat at v
    obtain ⟨e1, e2⟩ : v ≤ ((l.take n).map blkOf).length ∧ (okH h && okBs ((l.take n).map blkOf) v) = true := hv
    have h3 : v < n := Int.ofNat_lt.1 (of_decide_eq_true h3)
    rw [hAl] at e1
    have h6 : 0 < v := Int.ofNat_lt.1 (of_decide_eq_true h6)
    change Rw Int at r2
    have hr2 : l.getD ((v : Int) - 1).toNat Rw.nil = r2 := hr2
    obtain ⟨⟨g1, g2, g3⟩, g4⟩ := hr r2 (row_mem (by omega) hnl hr2)
    show (0 : Int).toNat + 0 < r2.l.length
    rw [g4]; decide
  · rename_i b0 h0 v hv h3 r hr1 h5 h6 r2 hr2
    change Nat at v
    obtain ⟨e1, e2⟩ : v ≤ ((l.take n).map blkOf).length ∧ (okH h && okBs ((l.take n).map blkOf) v) = true := hv
    have h3 : v < n := Int.ofNat_lt.1 (of_decide_eq_true h3)
    rw [hAl] at e1
    change Rw Int at r
    have hr1 : l.getD v Rw.nil = r := hr1
    obtain ⟨⟨g1, g2, g3⟩, g4⟩ := hr r (row_mem h3 hnl hr1)
    exact on_of g1 (by omega)
  · rename_i b0 h0 v hv h3 r hr1 h5 h6 r2 hr2
    change Nat at v
    obtain ⟨e1, e2⟩ : v ≤ ((l.take n).map blkOf).length ∧ (okH h && okBs ((l.take n).map blkOf) v) = true := hv
    have h3 : v < n := Int.ofNat_lt.1 (of_decide_eq_true h3)
    rw [hAl] at e1
    change Rw Int at r
    have hr1 : l.getD v Rw.nil = r := hr1
    obtain ⟨⟨g1, g2, g3⟩, g4⟩ := hr r (row_mem h3 hnl hr1)
    show (0 : Int) < ((r.l.length : Nat) : Int)
    rw [g4]; decide
  · rename_i b0 h0 v hv h3 r hr1 h5 h6 r2 hr2
    change Nat at v
    obtain ⟨e1, e2⟩ : v ≤ ((l.take n).map blkOf).length ∧ (okH h && okBs ((l.take n).map blkOf) v) = true := hv
    have h3 : v < n := Int.ofNat_lt.1 (of_decide_eq_true h3)
    rw [hAl] at e1
    change Rw Int at r
    have hr1 : l.getD v Rw.nil = r := hr1
    obtain ⟨⟨g1, g2, g3⟩, g4⟩ := hr r (row_mem h3 hnl hr1)
    exact on_of g1 (by omega)
  · rename_i b0 h0 v hv h3 r hr1 h5 h6 r2 hr2
    change Nat at v
    obtain ⟨e1, e2⟩ : v ≤ ((l.take n).map blkOf).length ∧ (okH h && okBs ((l.take n).map blkOf) v) = true := hv
    have h3 : v < n := Int.ofNat_lt.1 (of_decide_eq_true h3)
    rw [hAl] at e1
    change Rw Int at r
    have hr1 : l.getD v Rw.nil = r := hr1
    obtain ⟨⟨g1, g2, g3⟩, g4⟩ := hr r (row_mem h3 hnl hr1)
    show (0 : Int).toNat + 0 < r.l.length
    rw [g4]; decide
  · rename_i b0 h0 v hv h3 r hr1 h5 h6 r2 hr2 h7
    change Nat at v
    obtain ⟨e1, e2⟩ : v ≤ ((l.take n).map blkOf).length ∧ (okH h && okBs ((l.take n).map blkOf) v) = true := hv
    have h3 : v < n := Int.ofNat_lt.1 (of_decide_eq_true h3)
    rw [hAl] at e1
    have h6 : 0 < v := Int.ofNat_lt.1 (of_decide_eq_true h6)
    change Rw Int at r
    have hr1 : l.getD v Rw.nil = r := hr1
    obtain ⟨⟨g1, g2, g3⟩, g4⟩ := hr r (row_mem h3 hnl hr1)
    change Rw Int at r2
    have hr2 : l.getD ((v : Int) - 1).toNat Rw.nil = r2 := hr2
    obtain _ := hr r2 (row_mem (by omega) hnl hr2)
    have hAv : ((l.take n).map blkOf).getD v (0, 0) = blkOf r := by rw [map_at h3 hnl, hr1]
    have hb1 : (blkOf r).1 = r.l.getD 0 0 := by unfold blkOf; rfl
    have hb2 : (blkOf r).2 = r.l.getD 1 0 := by unfold blkOf; rfl
    have h5 : (decide (r.l.getD 0 0 < 0) || decide (64 ≤ r.l.getD 0 0) || !cn (r.l.getD 1 0)) = false := h5
    rw [← hb1, ← hb2] at h5
    have hAp : ((l.take n).map blkOf).getD (v - 1) (0, 0) = blkOf r2 := by
      rw [map_at (by omega) hnl, ← hr2]; congr 2; omega
    have hb3 : (blkOf r2).1 = r2.l.getD 0 0 := by unfold blkOf; rfl
    have h7 : decide (r.l.getD 0 0 ≤ r2.l.getD 0 0) = true := h7
    rw [← hb1, ← hb3] at h7
    refine (okP_noB (i := v + 1) ?_ (by rw [hAl]; omega)).symm
    rw [okBs, hAv]
    rw [hAp]
    exact blk_no2 h6 (of_decide_eq_true h7)
  · rename_i b0 h0 v hv h3 r hr1 h5 h6 r2 hr2 h7
    change Nat at v
    obtain ⟨e1, e2⟩ : v ≤ ((l.take n).map blkOf).length ∧ (okH h && okBs ((l.take n).map blkOf) v) = true := hv
    have h3 : v < n := Int.ofNat_lt.1 (of_decide_eq_true h3)
    rw [hAl] at e1
    exact inR64 (by show _ ≤ (v : Int) + 1; omega) (by show (v : Int) + 1 ≤ _; omega)
  · rename_i b0 h0 v hv h3 r hr1 h5 h6 r2 hr2 h7
    change Nat at v
    obtain ⟨e1, e2⟩ : v ≤ ((l.take n).map blkOf).length ∧ (okH h && okBs ((l.take n).map blkOf) v) = true := hv
    have h3 : v < n := Int.ofNat_lt.1 (of_decide_eq_true h3)
    rw [hAl] at e1
    have h6 : 0 < v := Int.ofNat_lt.1 (of_decide_eq_true h6)
    change Rw Int at r
    have hr1 : l.getD v Rw.nil = r := hr1
    obtain ⟨⟨g1, g2, g3⟩, g4⟩ := hr r (row_mem h3 hnl hr1)
    change Rw Int at r2
    have hr2 : l.getD ((v : Int) - 1).toNat Rw.nil = r2 := hr2
    obtain _ := hr r2 (row_mem (by omega) hnl hr2)
    have hAv : ((l.take n).map blkOf).getD v (0, 0) = blkOf r := by rw [map_at h3 hnl, hr1]
    have hb1 : (blkOf r).1 = r.l.getD 0 0 := by unfold blkOf; rfl
    have hb2 : (blkOf r).2 = r.l.getD 1 0 := by unfold blkOf; rfl
    have h5 : (decide (r.l.getD 0 0 < 0) || decide (64 ≤ r.l.getD 0 0) || !cn (r.l.getD 1 0)) = false := h5
    rw [← hb1, ← hb2] at h5
    have hAp : ((l.take n).map blkOf).getD (v - 1) (0, 0) = blkOf r2 := by
      rw [map_at (by omega) hnl, ← hr2]; congr 2; omega
    have hb3 : (blkOf r2).1 = r2.l.getD 0 0 := by unfold blkOf; rfl
    have h7 : decide (r.l.getD 0 0 ≤ r2.l.getD 0 0) = false := h7
    rw [← hb1, ← hb3] at h7
    simp only [Bool.and_eq_true] at e2
    refine Stands.one (v + 1 : Nat) ⟨⟨by rw [hAl]; exact h3, ?_⟩, ?_, ?_⟩
    · show (okH h && okBs ((l.take n).map blkOf) (v + 1)) = true
      rw [okBs, hAv, e2.1, e2.2]
      rw [hAp]; exact blk_yes h5 (.inr (of_decide_eq_false h7))
    · show ((l.take n).map blkOf).length - (v + 1) < ((l.take n).map blkOf).length - v
      rw [hAl]; omega
    ((conv => (arg 1; reduce)); with_reducible repeat' (first | exact Tr.yes_h | refine Tr.and_h ?_ ?_ | refine Tr.imp_h fun _ => ?_ | refine Tr.all_h fun _ => ?_ | refine Tr.lf_h ?_))
    all_goals (first | first | (show Region.lexB _ _ = true; kernel_rfl) | (show planned _ _ = true; kernel_rfl) | exact rfl | exact True.intro | ((try dsimp only [imp, C0, cG, cInt, cPl, cSlot, cPg, rwCodec, cRaw] at *); (try refine inR64 ?_ ?_) <;> (try simp only [List.length_set, List.length_append, List.length_take, List.length_drop]) <;> omega))
  · rename_i b0 h0 v hv h3 r hr1 h5 h6
    change Nat at v
    obtain ⟨e1, e2⟩ : v ≤ ((l.take n).map blkOf).length ∧ (okH h && okBs ((l.take n).map blkOf) v) = true := hv
    have h3 : v < n := Int.ofNat_lt.1 (of_decide_eq_true h3)
    rw [hAl] at e1
    exact inR64 (by show _ ≤ (v : Int) + 1; omega) (by show (v : Int) + 1 ≤ _; omega)
  · rename_i b0 h0 v hv h3 r hr1 h5 h6
    change Nat at v
    obtain ⟨e1, e2⟩ : v ≤ ((l.take n).map blkOf).length ∧ (okH h && okBs ((l.take n).map blkOf) v) = true := hv
    have h3 : v < n := Int.ofNat_lt.1 (of_decide_eq_true h3)
    rw [hAl] at e1
    have h6 : ¬ 0 < v := fun hq => of_decide_eq_false h6 (Int.ofNat_lt.2 hq)
    change Rw Int at r
    have hr1 : l.getD v Rw.nil = r := hr1
    obtain ⟨⟨g1, g2, g3⟩, g4⟩ := hr r (row_mem h3 hnl hr1)
    have hAv : ((l.take n).map blkOf).getD v (0, 0) = blkOf r := by rw [map_at h3 hnl, hr1]
    have hb1 : (blkOf r).1 = r.l.getD 0 0 := by unfold blkOf; rfl
    have hb2 : (blkOf r).2 = r.l.getD 1 0 := by unfold blkOf; rfl
    have h5 : (decide (r.l.getD 0 0 < 0) || decide (64 ≤ r.l.getD 0 0) || !cn (r.l.getD 1 0)) = false := h5
    rw [← hb1, ← hb2] at h5
    simp only [Bool.and_eq_true] at e2
    refine Stands.one (v + 1 : Nat) ⟨⟨by rw [hAl]; exact h3, ?_⟩, ?_, ?_⟩
    · show (okH h && okBs ((l.take n).map blkOf) (v + 1)) = true
      rw [okBs, hAv, e2.1, e2.2]
      exact blk_yes h5 (.inl (by omega))
    · show ((l.take n).map blkOf).length - (v + 1) < ((l.take n).map blkOf).length - v
      rw [hAl]; omega
    ((conv => (arg 1; reduce)); with_reducible repeat' (first | exact Tr.yes_h | refine Tr.and_h ?_ ?_ | refine Tr.imp_h fun _ => ?_ | refine Tr.all_h fun _ => ?_ | refine Tr.lf_h ?_))
    all_goals (first | first | (show Region.lexB _ _ = true; kernel_rfl) | (show planned _ _ = true; kernel_rfl) | exact rfl | exact True.intro | ((try dsimp only [imp, C0, cG, cInt, cPl, cSlot, cPg, rwCodec, cRaw] at *); (try refine inR64 ?_ ?_) <;> (try simp only [List.length_set, List.length_append, List.length_take, List.length_drop]) <;> omega))
  · rename_i b0 h0 v hv h3
    change Nat at v
    obtain ⟨e1, e2⟩ : v ≤ ((l.take n).map blkOf).length ∧ (okH h && okBs ((l.take n).map blkOf) v) = true := hv
    have h3 : ¬ v < n := fun hq => of_decide_eq_false h3 (Int.ofNat_lt.2 hq)
    rw [hAl] at e1
    obtain rfl : v = n := by omega
    refine Stands.one (0 : Nat) ⟨⟨Nat.zero_le _, by rw [okSs, hAl]; exact e2⟩, ?_⟩
    ((conv => (arg 1; reduce)); with_reducible repeat' (first | exact Tr.yes_h | refine Tr.and_h ?_ ?_ | refine Tr.imp_h fun _ => ?_ | refine Tr.all_h fun _ => ?_ | refine Tr.lf_h ?_))
    all_goals (first | first | (show Region.lexB _ _ = true; kernel_rfl) | (show planned _ _ = true; kernel_rfl) | exact rfl | exact True.intro | ((try dsimp only [imp, C0, cG, cInt, cPl, cSlot, cPg, rwCodec, cRaw] at *); (try refine inR64 ?_ ?_) <;> (try simp only [List.length_set, List.length_append, List.length_take, List.length_drop]) <;> omega))
  · rename_i b0 h0 v hv h3 w hw h4
    change Nat at w
    obtain ⟨f1, f2⟩ : w ≤ (l2.take n2).length ∧ okSs ((l.take n).map blkOf) (okH h && okBs ((l.take n).map blkOf) ((l.take n).map blkOf).length) (l2.take n2) w = true := hw
    have h4 : w < n2 := Int.ofNat_lt.1 (of_decide_eq_true h4)
    have hBw : (l2.take n2).getD w slot0 = l2.getD w slot0 := tk_at h4
    exact on_of h2.2.2 (Nat.lt_of_le_of_lt (Nat.zero_le _) h4)
  · rename_i b0 h0 v hv h3 w hw h4
    change Nat at w
    obtain ⟨f1, f2⟩ : w ≤ (l2.take n2).length ∧ okSs ((l.take n).map blkOf) (okH h && okBs ((l.take n).map blkOf) ((l.take n).map blkOf).length) (l2.take n2) w = true := hw
    have h4 : w < n2 := Int.ofNat_lt.1 (of_decide_eq_true h4)
    have hBw : (l2.take n2).getD w slot0 = l2.getD w slot0 := tk_at h4
    exact Int.ofNat_lt.2 h4
  · rename_i b0 h0 v hv h3 w hw h4
    change Nat at w
    obtain ⟨f1, f2⟩ : w ≤ (l2.take n2).length ∧ okSs ((l.take n).map blkOf) (okH h && okBs ((l.take n).map blkOf) ((l.take n).map blkOf).length) (l2.take n2) w = true := hw
    have h4 : w < n2 := Int.ofNat_lt.1 (of_decide_eq_true h4)
    have hBw : (l2.take n2).getD w slot0 = l2.getD w slot0 := tk_at h4
    exact on_of h2.2.2 (Nat.lt_of_le_of_lt (Nat.zero_le _) h4)
  · rename_i b0 h0 v hv h3 w hw h4
    change Nat at w
    obtain ⟨f1, f2⟩ : w ≤ (l2.take n2).length ∧ okSs ((l.take n).map blkOf) (okH h && okBs ((l.take n).map blkOf) ((l.take n).map blkOf).length) (l2.take n2) w = true := hw
    have h4 : w < n2 := Int.ofNat_lt.1 (of_decide_eq_true h4)
    have hBw : (l2.take n2).getD w slot0 = l2.getD w slot0 := tk_at h4
    show (w : Int).toNat + 0 < l2.length
    omega
  · rename_i b0 h0 v hv h3 w hw h4 bs
    change Nat at w
    obtain ⟨f1, f2⟩ : w ≤ (l2.take n2).length ∧ okSs ((l.take n).map blkOf) (okH h && okBs ((l.take n).map blkOf) ((l.take n).map blkOf).length) (l2.take n2) w = true := hw
    have h4 : w < n2 := Int.ofNat_lt.1 (of_decide_eq_true h4)
    have hBw : (l2.take n2).getD w slot0 = l2.getD w slot0 := tk_at h4
    refine Stands.one (0, false, w) ⟨⟨Nat.zero_le _, anyF_zero.symm⟩, ?_⟩
    ((conv => (arg 1; reduce)); with_reducible repeat' (first | exact Tr.yes_h | refine Tr.and_h ?_ ?_ | refine Tr.imp_h fun _ => ?_ | refine Tr.all_h fun _ => ?_ | refine Tr.lf_h ?_))
    all_goals (first | first | (show Region.lexB _ _ = true; kernel_rfl) | (show planned _ _ = true; kernel_rfl) | exact rfl | exact True.intro | ((try dsimp only [imp, C0, cG, cInt, cPl, cSlot, cPg, rwCodec, cRaw] at *); (try refine inR64 ?_ ?_) <;> (try simp only [List.length_set, List.length_append, List.length_take, List.length_drop]) <;> omega))
  · rename_i b0 h0 v hv h3 w hw h4 bs k hk hl h5 h6
    change Nat at w
    obtain ⟨f1, f2⟩ : w ≤ (l2.take n2).length ∧ okSs ((l.take n).map blkOf) (okH h && okBs ((l.take n).map blkOf) ((l.take n).map blkOf).length) (l2.take n2) w = true := hw
    have h4 : w < n2 := Int.ofNat_lt.1 (of_decide_eq_true h4)
    have hBw : (l2.take n2).getD w slot0 = l2.getD w slot0 := tk_at h4
    obtain ⟨k, nd, w2⟩ := k
    obtain rfl : w = w2 := Int.ofNat_inj.1 hl
    obtain ⟨k1, k2⟩ : k ≤ ((l.take n).map blkOf).length ∧ nd = anyF (fun b => decide (b.1 = ((l2.take n2).getD w slot0).pl.1)) (((l.take n).map blkOf).take k) := hk
    rw [hBw] at k2
    have h5n : k < n := Int.ofNat_lt.1 (of_decide_eq_true h5)
    exact on_of h1.2.2 (Nat.lt_of_le_of_lt (Nat.zero_le _) h5n)
  · rename_i b0 h0 v hv h3 w hw h4 bs k hk hl h5 h6
    change Nat at w
    obtain ⟨f1, f2⟩ : w ≤ (l2.take n2).length ∧ okSs ((l.take n).map blkOf) (okH h && okBs ((l.take n).map blkOf) ((l.take n).map blkOf).length) (l2.take n2) w = true := hw
    have h4 : w < n2 := Int.ofNat_lt.1 (of_decide_eq_true h4)
    have hBw : (l2.take n2).getD w slot0 = l2.getD w slot0 := tk_at h4
    obtain ⟨k, nd, w2⟩ := k
    obtain rfl : w = w2 := Int.ofNat_inj.1 hl
    obtain ⟨k1, k2⟩ : k ≤ ((l.take n).map blkOf).length ∧ nd = anyF (fun b => decide (b.1 = ((l2.take n2).getD w slot0).pl.1)) (((l.take n).map blkOf).take k) := hk
    rw [hBw] at k2
    have h5n : k < n := Int.ofNat_lt.1 (of_decide_eq_true h5)
    exact Int.ofNat_lt.2 h5n
  · rename_i b0 h0 v hv h3 w hw h4 bs k hk hl h5 h6
    change Nat at w
    obtain ⟨f1, f2⟩ : w ≤ (l2.take n2).length ∧ okSs ((l.take n).map blkOf) (okH h && okBs ((l.take n).map blkOf) ((l.take n).map blkOf).length) (l2.take n2) w = true := hw
    have h4 : w < n2 := Int.ofNat_lt.1 (of_decide_eq_true h4)
    have hBw : (l2.take n2).getD w slot0 = l2.getD w slot0 := tk_at h4
    obtain ⟨k, nd, w2⟩ := k
    obtain rfl : w = w2 := Int.ofNat_inj.1 hl
    obtain ⟨k1, k2⟩ : k ≤ ((l.take n).map blkOf).length ∧ nd = anyF (fun b => decide (b.1 = ((l2.take n2).getD w slot0).pl.1)) (((l.take n).map blkOf).take k) := hk
    rw [hBw] at k2
    have h5n : k < n := Int.ofNat_lt.1 (of_decide_eq_true h5)
    exact inR64 (by show _ ≤ (k : Int) + 1; omega) (by show (k : Int) + 1 ≤ _; omega)
  · rename_i b0 h0 v hv h3 w hw h4 bs k hk hl h5 h6
    change Nat at w
    obtain ⟨f1, f2⟩ : w ≤ (l2.take n2).length ∧ okSs ((l.take n).map blkOf) (okH h && okBs ((l.take n).map blkOf) ((l.take n).map blkOf).length) (l2.take n2) w = true := hw
    have h4 : w < n2 := Int.ofNat_lt.1 (of_decide_eq_true h4)
    have hBw : (l2.take n2).getD w slot0 = l2.getD w slot0 := tk_at h4
    obtain ⟨k, nd, w2⟩ := k
    obtain rfl : w = w2 := Int.ofNat_inj.1 hl
    obtain ⟨k1, k2⟩ : k ≤ ((l.take n).map blkOf).length ∧ nd = anyF (fun b => decide (b.1 = ((l2.take n2).getD w slot0).pl.1)) (((l.take n).map blkOf).take k) := hk
    rw [hBw] at k2
    have h5n : k < n := Int.ofNat_lt.1 (of_decide_eq_true h5)
    have h6 : nd = true := h6
    subst h6
    refine Stands.one (k + 1, true, w) ⟨⟨by rw [hAl]; exact h5n, ?_⟩, ?_, ?_⟩
    · show _ = anyF (fun b => decide (b.1 = ((l2.take n2).getD w slot0).pl.1)) (((l.take n).map blkOf).take (k + 1))
      rw [hBw, anyF_snoc (d := (0, 0)) (by rw [hAl]; exact h5n), ← k2]
      rfl
    · show ((l.take n).map blkOf).length - (k + 1) < ((l.take n).map blkOf).length - k
      rw [hAl]; omega
    ((conv => (arg 1; reduce)); with_reducible repeat' (first | exact Tr.yes_h | refine Tr.and_h ?_ ?_ | refine Tr.imp_h fun _ => ?_ | refine Tr.all_h fun _ => ?_ | refine Tr.lf_h ?_))
    all_goals (first | first | (show Region.lexB _ _ = true; kernel_rfl) | (show planned _ _ = true; kernel_rfl) | exact rfl | exact True.intro | ((try dsimp only [imp, C0, cG, cInt, cPl, cSlot, cPg, rwCodec, cRaw] at *); (try refine inR64 ?_ ?_) <;> (try simp only [List.length_set, List.length_append, List.length_take, List.length_drop]) <;> omega))
  · rename_i b0 h0 v hv h3 w hw h4 bs k hk hl h5 h6
    change Nat at w
    obtain ⟨f1, f2⟩ : w ≤ (l2.take n2).length ∧ okSs ((l.take n).map blkOf) (okH h && okBs ((l.take n).map blkOf) ((l.take n).map blkOf).length) (l2.take n2) w = true := hw
    have h4 : w < n2 := Int.ofNat_lt.1 (of_decide_eq_true h4)
    have hBw : (l2.take n2).getD w slot0 = l2.getD w slot0 := tk_at h4
    obtain ⟨k, nd, w2⟩ := k
    obtain rfl : w = w2 := Int.ofNat_inj.1 hl
    obtain ⟨k1, k2⟩ : k ≤ ((l.take n).map blkOf).length ∧ nd = anyF (fun b => decide (b.1 = ((l2.take n2).getD w slot0).pl.1)) (((l.take n).map blkOf).take k) := hk
    rw [hBw] at k2
    have h5n : k < n := Int.ofNat_lt.1 (of_decide_eq_true h5)
    exact on_of h1.2.2 (Nat.lt_of_le_of_lt (Nat.zero_le _) h5n)
  · rename_i b0 h0 v hv h3 w hw h4 bs k hk hl h5 h6
    change Nat at w
    obtain ⟨f1, f2⟩ : w ≤ (l2.take n2).length ∧ okSs ((l.take n).map blkOf) (okH h && okBs ((l.take n).map blkOf) ((l.take n).map blkOf).length) (l2.take n2) w = true := hw
    have h4 : w < n2 := Int.ofNat_lt.1 (of_decide_eq_true h4)
    have hBw : (l2.take n2).getD w slot0 = l2.getD w slot0 := tk_at h4
    obtain ⟨k, nd, w2⟩ := k
    obtain rfl : w = w2 := Int.ofNat_inj.1 hl
    obtain ⟨k1, k2⟩ : k ≤ ((l.take n).map blkOf).length ∧ nd = anyF (fun b => decide (b.1 = ((l2.take n2).getD w slot0).pl.1)) (((l.take n).map blkOf).take k) := hk
    rw [hBw] at k2
    have h5n : k < n := Int.ofNat_lt.1 (of_decide_eq_true h5)
    show (k : Int).toNat + 0 < l.length
    omega
  · rename_i b0 h0 v hv h3 w hw h4 bs k hk hl h5 h6 r hr1
    change Nat at w
    obtain ⟨f1, f2⟩ : w ≤ (l2.take n2).length ∧ okSs ((l.take n).map blkOf) (okH h && okBs ((l.take n).map blkOf) ((l.take n).map blkOf).length) (l2.take n2) w = true := hw
    have h4 : w < n2 := Int.ofNat_lt.1 (of_decide_eq_true h4)
    have hBw : (l2.take n2).getD w slot0 = l2.getD w slot0 := tk_at h4
    obtain ⟨k, nd, w2⟩ := k
    obtain rfl : w = w2 := Int.ofNat_inj.1 hl
    obtain ⟨k1, k2⟩ : k ≤ ((l.take n).map blkOf).length ∧ nd = anyF (fun b => decide (b.1 = ((l2.take n2).getD w slot0).pl.1)) (((l.take n).map blkOf).take k) := hk
    rw [hBw] at k2
    have h5n : k < n := Int.ofNat_lt.1 (of_decide_eq_true h5)
    change Rw Int at r
    have hr1n : l.getD k Rw.nil = r := hr1
    obtain ⟨⟨g1, g2, g3⟩, g4⟩ := hr r (row_mem h5n hnl hr1n)
    exact on_of g1 (by omega)
  · rename_i b0 h0 v hv h3 w hw h4 bs k hk hl h5 h6 r hr1
    change Nat at w
    obtain ⟨f1, f2⟩ : w ≤ (l2.take n2).length ∧ okSs ((l.take n).map blkOf) (okH h && okBs ((l.take n).map blkOf) ((l.take n).map blkOf).length) (l2.take n2) w = true := hw
    have h4 : w < n2 := Int.ofNat_lt.1 (of_decide_eq_true h4)
    have hBw : (l2.take n2).getD w slot0 = l2.getD w slot0 := tk_at h4
    obtain ⟨k, nd, w2⟩ := k
    obtain rfl : w = w2 := Int.ofNat_inj.1 hl
    obtain ⟨k1, k2⟩ : k ≤ ((l.take n).map blkOf).length ∧ nd = anyF (fun b => decide (b.1 = ((l2.take n2).getD w slot0).pl.1)) (((l.take n).map blkOf).take k) := hk
    rw [hBw] at k2
    have h5n : k < n := Int.ofNat_lt.1 (of_decide_eq_true h5)
    change Rw Int at r
    have hr1n : l.getD k Rw.nil = r := hr1
    obtain ⟨⟨g1, g2, g3⟩, g4⟩ := hr r (row_mem h5n hnl hr1n)
    show (0 : Int) < ((r.l.length : Nat) : Int)
    rw [g4]; decide
  · rename_i b0 h0 v hv h3 w hw h4 bs k hk hl h5 h6 r hr1
    change Nat at w
    obtain ⟨f1, f2⟩ : w ≤ (l2.take n2).length ∧ okSs ((l.take n).map blkOf) (okH h && okBs ((l.take n).map blkOf) ((l.take n).map blkOf).length) (l2.take n2) w = true := hw
    have h4 : w < n2 := Int.ofNat_lt.1 (of_decide_eq_true h4)
    have hBw : (l2.take n2).getD w slot0 = l2.getD w slot0 := tk_at h4
    obtain ⟨k, nd, w2⟩ := k
    obtain rfl : w = w2 := Int.ofNat_inj.1 hl
    obtain ⟨k1, k2⟩ : k ≤ ((l.take n).map blkOf).length ∧ nd = anyF (fun b => decide (b.1 = ((l2.take n2).getD w slot0).pl.1)) (((l.take n).map blkOf).take k) := hk
    rw [hBw] at k2
    have h5n : k < n := Int.ofNat_lt.1 (of_decide_eq_true h5)
    change Rw Int at r
    have hr1n : l.getD k Rw.nil = r := hr1
    obtain ⟨⟨g1, g2, g3⟩, g4⟩ := hr r (row_mem h5n hnl hr1n)
    exact on_of g1 (by omega)
  · rename_i b0 h0 v hv h3 w hw h4 bs k hk hl h5 h6 r hr1
    change Nat at w
    obtain ⟨f1, f2⟩ : w ≤ (l2.take n2).length ∧ okSs ((l.take n).map blkOf) (okH h && okBs ((l.take n).map blkOf) ((l.take n).map blkOf).length) (l2.take n2) w = true := hw
    have h4 : w < n2 := Int.ofNat_lt.1 (of_decide_eq_true h4)
    have hBw : (l2.take n2).getD w slot0 = l2.getD w slot0 := tk_at h4
    obtain ⟨k, nd, w2⟩ := k
    obtain rfl : w = w2 := Int.ofNat_inj.1 hl
    obtain ⟨k1, k2⟩ : k ≤ ((l.take n).map blkOf).length ∧ nd = anyF (fun b => decide (b.1 = ((l2.take n2).getD w slot0).pl.1)) (((l.take n).map blkOf).take k) := hk
    rw [hBw] at k2
    have h5n : k < n := Int.ofNat_lt.1 (of_decide_eq_true h5)
    change Rw Int at r
    have hr1n : l.getD k Rw.nil = r := hr1
    obtain ⟨⟨g1, g2, g3⟩, g4⟩ := hr r (row_mem h5n hnl hr1n)
    show (0 : Int).toNat + 0 < r.l.length
    rw [g4]; decide
  · rename_i b0 h0 v hv h3 w hw h4 bs k hk hl h5 h6 r hr1
    change Nat at w
    obtain ⟨f1, f2⟩ : w ≤ (l2.take n2).length ∧ okSs ((l.take n).map blkOf) (okH h && okBs ((l.take n).map blkOf) ((l.take n).map blkOf).length) (l2.take n2) w = true := hw
    have h4 : w < n2 := Int.ofNat_lt.1 (of_decide_eq_true h4)
    have hBw : (l2.take n2).getD w slot0 = l2.getD w slot0 := tk_at h4
    obtain ⟨k, nd, w2⟩ := k
    obtain rfl : w = w2 := Int.ofNat_inj.1 hl
    obtain ⟨k1, k2⟩ : k ≤ ((l.take n).map blkOf).length ∧ nd = anyF (fun b => decide (b.1 = ((l2.take n2).getD w slot0).pl.1)) (((l.take n).map blkOf).take k) := hk
    rw [hBw] at k2
    have h5n : k < n := Int.ofNat_lt.1 (of_decide_eq_true h5)
    exact inR64 (by show _ ≤ (k : Int) + 1; omega) (by show (k : Int) + 1 ≤ _; omega)
  · rename_i b0 h0 v hv h3 w hw h4 bs k hk hl h5 h6 r hr1
    change Nat at w
    obtain ⟨f1, f2⟩ : w ≤ (l2.take n2).length ∧ okSs ((l.take n).map blkOf) (okH h && okBs ((l.take n).map blkOf) ((l.take n).map blkOf).length) (l2.take n2) w = true := hw
    have h4 : w < n2 := Int.ofNat_lt.1 (of_decide_eq_true h4)
    have hBw : (l2.take n2).getD w slot0 = l2.getD w slot0 := tk_at h4
    obtain ⟨k, nd, w2⟩ := k
    obtain rfl : w = w2 := Int.ofNat_inj.1 hl
    obtain ⟨k1, k2⟩ : k ≤ ((l.take n).map blkOf).length ∧ nd = anyF (fun b => decide (b.1 = ((l2.take n2).getD w slot0).pl.1)) (((l.take n).map blkOf).take k) := hk
    rw [hBw] at k2
    have h5n : k < n := Int.ofNat_lt.1 (of_decide_eq_true h5)
    change Rw Int at r
    have hr1n : l.getD k Rw.nil = r := hr1
    obtain ⟨⟨g1, g2, g3⟩, g4⟩ := hr r (row_mem h5n hnl hr1n)
    have h6 : nd = false := h6
    subst h6
    refine Stands.one (k + 1, decide (r.l.getD 0 0 = (l2.getD w slot0).pl.1), w) ⟨⟨by rw [hAl]; exact h5n, ?_⟩, ?_, ?_⟩
    · show _ = anyF (fun b => decide (b.1 = ((l2.take n2).getD w slot0).pl.1)) (((l.take n).map blkOf).take (k + 1))
      rw [hBw, anyF_snoc (d := (0, 0)) (by rw [hAl]; exact h5n), ← k2]
      rw [map_at h5n hnl, hr1n, Bool.false_or]
      unfold blkOf; rfl
    · show ((l.take n).map blkOf).length - (k + 1) < ((l.take n).map blkOf).length - k
      rw [hAl]; omega
    ((conv => (arg 1; reduce)); with_reducible repeat' (first | exact Tr.yes_h | refine Tr.and_h ?_ ?_ | refine Tr.imp_h fun _ => ?_ | refine Tr.all_h fun _ => ?_ | refine Tr.lf_h ?_))
    all_goals (first | first | (show Region.lexB _ _ = true; kernel_rfl) | (show planned _ _ = true; kernel_rfl) | exact rfl | exact True.intro | ((try dsimp only [imp, C0, cG, cInt, cPl, cSlot, cPg, rwCodec, cRaw] at *); (try refine inR64 ?_ ?_) <;> (try simp only [List.length_set, List.length_append, List.length_take, List.length_drop]) <;> omega))
  · rename_i b0 h0 v hv h3 w hw h4 bs k hk hl h5 h6
    change Nat at w
    obtain ⟨f1, f2⟩ : w ≤ (l2.take n2).length ∧ okSs ((l.take n).map blkOf) (okH h && okBs ((l.take n).map blkOf) ((l.take n).map blkOf).length) (l2.take n2) w = true := hw
    have h4 : w < n2 := Int.ofNat_lt.1 (of_decide_eq_true h4)
    have hBw : (l2.take n2).getD w slot0 = l2.getD w slot0 := tk_at h4
    obtain ⟨k, nd, w2⟩ := k
    obtain rfl : w = w2 := Int.ofNat_inj.1 hl
    obtain ⟨k1, k2⟩ : k ≤ ((l.take n).map blkOf).length ∧ nd = anyF (fun b => decide (b.1 = ((l2.take n2).getD w slot0).pl.1)) (((l.take n).map blkOf).take k) := hk
    rw [hBw] at k2
    have h5 : ¬ k < n := fun hq => of_decide_eq_false h5 (Int.ofNat_lt.2 hq)
    rw [hAl] at k1
    rw [List.take_of_length_le (l := (l.take n).map blkOf) (by rw [hAl]; omega)] at k2
    have h6 : (!nd || decide ((l2.getD w slot0).pl.2 < 0) || decide (64 ≤ (l2.getD w slot0).pl.2) || !cn (l2.getD w slot0).key || !okMe (l2.getD w slot0).me) = true := h6
    rw [k2] at h6
    refine (okP_noS (i := w + 1) ?_ (by rw [tk_len hnl2]; omega)).symm
    rw [okSs, hBw]
    exact slt_no1 h6
  · rename_i b0 h0 v hv h3 w hw h4 bs k hk hl h5 h6 h7
    change Nat at w
    obtain ⟨f1, f2⟩ : w ≤ (l2.take n2).length ∧ okSs ((l.take n).map blkOf) (okH h && okBs ((l.take n).map blkOf) ((l.take n).map blkOf).length) (l2.take n2) w = true := hw
    have h4 : w < n2 := Int.ofNat_lt.1 (of_decide_eq_true h4)
    have hBw : (l2.take n2).getD w slot0 = l2.getD w slot0 := tk_at h4
    obtain ⟨k, nd, w2⟩ := k
    obtain rfl : w = w2 := Int.ofNat_inj.1 hl
    obtain ⟨k1, k2⟩ : k ≤ ((l.take n).map blkOf).length ∧ nd = anyF (fun b => decide (b.1 = ((l2.take n2).getD w slot0).pl.1)) (((l.take n).map blkOf).take k) := hk
    rw [hBw] at k2
    have h7 : 0 < w := Int.ofNat_lt.1 (of_decide_eq_true h7)
    exact inR64 (by show _ ≤ (w : Int) - 1; omega) (by show (w : Int) - 1 ≤ _; omega)
  · rename_i b0 h0 v hv h3 w hw h4 bs k hk hl h5 h6 h7
    change Nat at w
    obtain ⟨f1, f2⟩ : w ≤ (l2.take n2).length ∧ okSs ((l.take n).map blkOf) (okH h && okBs ((l.take n).map blkOf) ((l.take n).map blkOf).length) (l2.take n2) w = true := hw
    have h4 : w < n2 := Int.ofNat_lt.1 (of_decide_eq_true h4)
    have hBw : (l2.take n2).getD w slot0 = l2.getD w slot0 := tk_at h4
    obtain ⟨k, nd, w2⟩ := k
    obtain rfl : w = w2 := Int.ofNat_inj.1 hl
    obtain ⟨k1, k2⟩ : k ≤ ((l.take n).map blkOf).length ∧ nd = anyF (fun b => decide (b.1 = ((l2.take n2).getD w slot0).pl.1)) (((l.take n).map blkOf).take k) := hk
    rw [hBw] at k2
    exact on_of h2.2.2 (Nat.lt_of_le_of_lt (Nat.zero_le _) h4)
  · rename_i b0 h0 v hv h3 w hw h4 bs k hk hl h5 h6 h7
    change Nat at w
    obtain ⟨f1, f2⟩ : w ≤ (l2.take n2).length ∧ okSs ((l.take n).map blkOf) (okH h && okBs ((l.take n).map blkOf) ((l.take n).map blkOf).length) (l2.take n2) w = true := hw
    have h4 : w < n2 := Int.ofNat_lt.1 (of_decide_eq_true h4)
    have hBw : (l2.take n2).getD w slot0 = l2.getD w slot0 := tk_at h4
    obtain ⟨k, nd, w2⟩ := k
    obtain rfl : w = w2 := Int.ofNat_inj.1 hl
    obtain ⟨k1, k2⟩ : k ≤ ((l.take n).map blkOf).length ∧ nd = anyF (fun b => decide (b.1 = ((l2.take n2).getD w slot0).pl.1)) (((l.take n).map blkOf).take k) := hk
    rw [hBw] at k2
    have h7 : 0 < w := Int.ofNat_lt.1 (of_decide_eq_true h7)
    show (0 : Int) ≤ (w : Int) - 1
    omega
  · rename_i b0 h0 v hv h3 w hw h4 bs k hk hl h5 h6 h7
    change Nat at w
    obtain ⟨f1, f2⟩ : w ≤ (l2.take n2).length ∧ okSs ((l.take n).map blkOf) (okH h && okBs ((l.take n).map blkOf) ((l.take n).map blkOf).length) (l2.take n2) w = true := hw
    have h4 : w < n2 := Int.ofNat_lt.1 (of_decide_eq_true h4)
    have hBw : (l2.take n2).getD w slot0 = l2.getD w slot0 := tk_at h4
    obtain ⟨k, nd, w2⟩ := k
    obtain rfl : w = w2 := Int.ofNat_inj.1 hl
    obtain ⟨k1, k2⟩ : k ≤ ((l.take n).map blkOf).length ∧ nd = anyF (fun b => decide (b.1 = ((l2.take n2).getD w slot0).pl.1)) (((l.take n).map blkOf).take k) := hk
    rw [hBw] at k2
    have h7 : 0 < w := Int.ofNat_lt.1 (of_decide_eq_true h7)
    show (w : Int) - 1 < (n2 : Int)
    omega
  · rename_i b0 h0 v hv h3 w hw h4 bs k hk hl h5 h6 h7
    change Nat at w
    obtain ⟨f1, f2⟩ : w ≤ (l2.take n2).length ∧ okSs ((l.take n).map blkOf) (okH h && okBs ((l.take n).map blkOf) ((l.take n).map blkOf).length) (l2.take n2) w = true := hw
    have h4 : w < n2 := Int.ofNat_lt.1 (of_decide_eq_true h4)
    have hBw : (l2.take n2).getD w slot0 = l2.getD w slot0 := tk_at h4
    obtain ⟨k, nd, w2⟩ := k
    obtain rfl : w = w2 := Int.ofNat_inj.1 hl
    obtain ⟨k1, k2⟩ : k ≤ ((l.take n).map blkOf).length ∧ nd = anyF (fun b => decide (b.1 = ((l2.take n2).getD w slot0).pl.1)) (((l.take n).map blkOf).take k) := hk
    rw [hBw] at k2
    exact on_of h2.2.2 (Nat.lt_of_le_of_lt (Nat.zero_le _) h4)
  · rename_i b0 h0 v hv h3 w hw h4 bs k hk hl h5 h6 h7
    change Nat at w
    obtain ⟨f1, f2⟩ : w ≤ (l2.take n2).length ∧ okSs ((l.take n).map blkOf) (okH h && okBs ((l.take n).map blkOf) ((l.take n).map blkOf).length) (l2.take n2) w = true := hw
    have h4 : w < n2 := Int.ofNat_lt.1 (of_decide_eq_true h4)
    have hBw : (l2.take n2).getD w slot0 = l2.getD w slot0 := tk_at h4
    obtain ⟨k, nd, w2⟩ := k
    obtain rfl : w = w2 := Int.ofNat_inj.1 hl
    obtain ⟨k1, k2⟩ : k ≤ ((l.take n).map blkOf).length ∧ nd = anyF (fun b => decide (b.1 = ((l2.take n2).getD w slot0).pl.1)) (((l.take n).map blkOf).take k) := hk
    rw [hBw] at k2
    have h7 : 0 < w := Int.ofNat_lt.1 (of_decide_eq_true h7)
    show ((w : Int) - 1).toNat + 0 < l2.length
    omega
  · rename_i b0 h0 v hv h3 w hw h4 bs k hk hl h5 h6 h7 bq h8
    change Nat at w
    obtain ⟨f1, f2⟩ : w ≤ (l2.take n2).length ∧ okSs ((l.take n).map blkOf) (okH h && okBs ((l.take n).map blkOf) ((l.take n).map blkOf).length) (l2.take n2) w = true := hw
    have h4 : w < n2 := Int.ofNat_lt.1 (of_decide_eq_true h4)
    have hBw : (l2.take n2).getD w slot0 = l2.getD w slot0 := tk_at h4
    obtain ⟨k, nd, w2⟩ := k
    obtain rfl : w = w2 := Int.ofNat_inj.1 hl
    obtain ⟨k1, k2⟩ : k ≤ ((l.take n).map blkOf).length ∧ nd = anyF (fun b => decide (b.1 = ((l2.take n2).getD w slot0).pl.1)) (((l.take n).map blkOf).take k) := hk
    rw [hBw] at k2
    have h5 : ¬ k < n := fun hq => of_decide_eq_false h5 (Int.ofNat_lt.2 hq)
    rw [hAl] at k1
    rw [List.take_of_length_le (l := (l.take n).map blkOf) (by rw [hAl]; omega)] at k2
    have h6 : (!nd || decide ((l2.getD w slot0).pl.2 < 0) || decide (64 ≤ (l2.getD w slot0).pl.2) || !cn (l2.getD w slot0).key || !okMe (l2.getD w slot0).me) = false := h6
    rw [k2] at h6
    have h7 : 0 < w := Int.ofNat_lt.1 (of_decide_eq_true h7)
    have h8 : (decide ((l2.getD w slot0).pl.1 < (l2.getD (((w : Int) - 1).toNat + 0) slot0).pl.1) || (decide ((l2.getD (((w : Int) - 1).toNat + 0) slot0).pl.1 = (l2.getD w slot0).pl.1) && decide ((l2.getD w slot0).pl.2 ≤ (l2.getD (((w : Int) - 1).toNat + 0) slot0).pl.2))) = true := h8
    rw [pred_nat] at h8
    have hBp : (l2.take n2).getD (w - 1) slot0 = l2.getD (w - 1) slot0 := tk_at (by omega)
    refine (okP_noS (i := w + 1) ?_ (by rw [tk_len hnl2]; omega)).symm
    rw [okSs, hBw]
    rw [hBp]
    exact slt_no2 h7 h8
  · rename_i b0 h0 v hv h3 w hw h4 bs k hk hl h5 h6 h7 bq h8
    change Nat at w
    obtain ⟨f1, f2⟩ : w ≤ (l2.take n2).length ∧ okSs ((l.take n).map blkOf) (okH h && okBs ((l.take n).map blkOf) ((l.take n).map blkOf).length) (l2.take n2) w = true := hw
    have h4 : w < n2 := Int.ofNat_lt.1 (of_decide_eq_true h4)
    have hBw : (l2.take n2).getD w slot0 = l2.getD w slot0 := tk_at h4
    obtain ⟨k, nd, w2⟩ := k
    obtain rfl : w = w2 := Int.ofNat_inj.1 hl
    obtain ⟨k1, k2⟩ : k ≤ ((l.take n).map blkOf).length ∧ nd = anyF (fun b => decide (b.1 = ((l2.take n2).getD w slot0).pl.1)) (((l.take n).map blkOf).take k) := hk
    rw [hBw] at k2
    exact inR64 (by show _ ≤ (w : Int) + 1; omega) (by show (w : Int) + 1 ≤ _; omega)
  · rename_i b0 h0 v hv h3 w hw h4 bs k hk hl h5 h6 h7 bq h8
    change Nat at w
    obtain ⟨f1, f2⟩ : w ≤ (l2.take n2).length ∧ okSs ((l.take n).map blkOf) (okH h && okBs ((l.take n).map blkOf) ((l.take n).map blkOf).length) (l2.take n2) w = true := hw
    have h4 : w < n2 := Int.ofNat_lt.1 (of_decide_eq_true h4)
    have hBw : (l2.take n2).getD w slot0 = l2.getD w slot0 := tk_at h4
    obtain ⟨k, nd, w2⟩ := k
    obtain rfl : w = w2 := Int.ofNat_inj.1 hl
    obtain ⟨k1, k2⟩ : k ≤ ((l.take n).map blkOf).length ∧ nd = anyF (fun b => decide (b.1 = ((l2.take n2).getD w slot0).pl.1)) (((l.take n).map blkOf).take k) := hk
    rw [hBw] at k2
    have h5 : ¬ k < n := fun hq => of_decide_eq_false h5 (Int.ofNat_lt.2 hq)
    rw [hAl] at k1
    rw [List.take_of_length_le (l := (l.take n).map blkOf) (by rw [hAl]; omega)] at k2
    have h6 : (!nd || decide ((l2.getD w slot0).pl.2 < 0) || decide (64 ≤ (l2.getD w slot0).pl.2) || !cn (l2.getD w slot0).key || !okMe (l2.getD w slot0).me) = false := h6
    rw [k2] at h6
    have h7 : 0 < w := Int.ofNat_lt.1 (of_decide_eq_true h7)
    have h8 : (decide ((l2.getD w slot0).pl.1 < (l2.getD (((w : Int) - 1).toNat + 0) slot0).pl.1) || (decide ((l2.getD (((w : Int) - 1).toNat + 0) slot0).pl.1 = (l2.getD w slot0).pl.1) && decide ((l2.getD w slot0).pl.2 ≤ (l2.getD (((w : Int) - 1).toNat + 0) slot0).pl.2))) = false := h8
    rw [pred_nat] at h8
    have hBp : (l2.take n2).getD (w - 1) slot0 = l2.getD (w - 1) slot0 := tk_at (by omega)
    refine Stands.one (w + 1 : Nat) ⟨⟨by rw [tk_len hnl2]; exact h4, ?_⟩, ?_, ?_⟩
    · show okSs _ _ _ (w + 1) = true
      rw [okSs, hBw, f2]
      rw [hBp]; exact slt_yes h6 (.inr h8)
    · show (l2.take n2).length - (w + 1) < (l2.take n2).length - w
      rw [tk_len hnl2]; omega
    ((conv => (arg 1; reduce)); with_reducible repeat' (first | exact Tr.yes_h | refine Tr.and_h ?_ ?_ | refine Tr.imp_h fun _ => ?_ | refine Tr.all_h fun _ => ?_ | refine Tr.lf_h ?_))
    all_goals (first | first | (show Region.lexB _ _ = true; kernel_rfl) | (show planned _ _ = true; kernel_rfl) | exact rfl | exact True.intro | ((try dsimp only [imp, C0, cG, cInt, cPl, cSlot, cPg, rwCodec, cRaw] at *); (try refine inR64 ?_ ?_) <;> (try simp only [List.length_set, List.length_append, List.length_take, List.length_drop]) <;> omega))
  · rename_i b0 h0 v hv h3 w hw h4 bs k hk hl h5 h6 h7
    change Nat at w
    obtain ⟨f1, f2⟩ : w ≤ (l2.take n2).length ∧ okSs ((l.take n).map blkOf) (okH h && okBs ((l.take n).map blkOf) ((l.take n).map blkOf).length) (l2.take n2) w = true := hw
    have h4 : w < n2 := Int.ofNat_lt.1 (of_decide_eq_true h4)
    have hBw : (l2.take n2).getD w slot0 = l2.getD w slot0 := tk_at h4
    obtain ⟨k, nd, w2⟩ := k
    obtain rfl : w = w2 := Int.ofNat_inj.1 hl
    obtain ⟨k1, k2⟩ : k ≤ ((l.take n).map blkOf).length ∧ nd = anyF (fun b => decide (b.1 = ((l2.take n2).getD w slot0).pl.1)) (((l.take n).map blkOf).take k) := hk
    rw [hBw] at k2
    exact inR64 (by show _ ≤ (w : Int) + 1; omega) (by show (w : Int) + 1 ≤ _; omega)
  · rename_i b0 h0 v hv h3 w hw h4 bs k hk hl h5 h6 h7
    change Nat at w
    obtain ⟨f1, f2⟩ : w ≤ (l2.take n2).length ∧ okSs ((l.take n).map blkOf) (okH h && okBs ((l.take n).map blkOf) ((l.take n).map blkOf).length) (l2.take n2) w = true := hw
    have h4 : w < n2 := Int.ofNat_lt.1 (of_decide_eq_true h4)
    have hBw : (l2.take n2).getD w slot0 = l2.getD w slot0 := tk_at h4
    obtain ⟨k, nd, w2⟩ := k
    obtain rfl : w = w2 := Int.ofNat_inj.1 hl
    obtain ⟨k1, k2⟩ : k ≤ ((l.take n).map blkOf).length ∧ nd = anyF (fun b => decide (b.1 = ((l2.take n2).getD w slot0).pl.1)) (((l.take n).map blkOf).take k) := hk
    rw [hBw] at k2
    have h5 : ¬ k < n := fun hq => of_decide_eq_false h5 (Int.ofNat_lt.2 hq)
    rw [hAl] at k1
    rw [List.take_of_length_le (l := (l.take n).map blkOf) (by rw [hAl]; omega)] at k2
    have h6 : (!nd || decide ((l2.getD w slot0).pl.2 < 0) || decide (64 ≤ (l2.getD w slot0).pl.2) || !cn (l2.getD w slot0).key || !okMe (l2.getD w slot0).me) = false := h6
    rw [k2] at h6
    have h7 : ¬ 0 < w := fun hq => of_decide_eq_false h7 (Int.ofNat_lt.2 hq)
    refine Stands.one (w + 1 : Nat) ⟨⟨by rw [tk_len hnl2]; exact h4, ?_⟩, ?_, ?_⟩
    · show okSs _ _ _ (w + 1) = true
      rw [okSs, hBw, f2]
      exact slt_yes h6 (.inl (by omega))
    · show (l2.take n2).length - (w + 1) < (l2.take n2).length - w
      rw [tk_len hnl2]; omega
    ((conv => (arg 1; reduce)); with_reducible repeat' (first | exact Tr.yes_h | refine Tr.and_h ?_ ?_ | refine Tr.imp_h fun _ => ?_ | refine Tr.all_h fun _ => ?_ | refine Tr.lf_h ?_))
    all_goals (first | first | (show Region.lexB _ _ = true; kernel_rfl) | (show planned _ _ = true; kernel_rfl) | exact rfl | exact True.intro | ((try dsimp only [imp, C0, cG, cInt, cPl, cSlot, cPg, rwCodec, cRaw] at *); (try refine inR64 ?_ ?_) <;> (try simp only [List.length_set, List.length_append, List.length_take, List.length_drop]) <;> omega))
  · rename_i b0 h0 v hv h3 w hw h4
    change Nat at w
    obtain ⟨f1, f2⟩ : w ≤ (l2.take n2).length ∧ okSs ((l.take n).map blkOf) (okH h && okBs ((l.take n).map blkOf) ((l.take n).map blkOf).length) (l2.take n2) w = true := hw
    have h4 : ¬ w < n2 := fun hq => of_decide_eq_false h4 (Int.ofNat_lt.2 hq)
    have hw2 : w = (l2.take n2).length := by rw [tk_len hnl2] at f1 ⊢; omega
    show true = okP _ _ _
    unfold okP
    rw [← hw2, f2]
def pcRpmay : Pc Tryd.prog C0 where
  tg := .fn 12
  X := Hd × Sq (Rw Int) × Sq Slot
  args := fun (h, (o, b, q, l, n, c), (o2, b2, q2, l2, n2, c2)) => [ptv h (.sl 0 0 n c) (.sl 1 0 n2 c2)]
  mem := fun (h, (o, b, q, l, n, c), (o2, b2, q2, l2, n2, c2)) => [⟨b, q, 1, false, some o, .rows 71 l⟩, ⟨b2, q2, 9, false, some o2, .rows 74 l2⟩]
  pre := fun (h, (o, b, q, l, n, c), (o2, b2, q2, l2, n2, c2)) => Sq.ok (o, b, q, l, n, c) ∧ Sq.ok (o2, b2, q2, l2, n2, c2) ∧ (∀ r ∈ l.take n, Rok r ∧ r.l.length = 2) ∧ n ≤ 1000000 ∧ n2 ≤ 1000000
  res := fun (h, (o, b, q, l, n, c), (o2, b2, q2, l2, n2, c2)) => .bool (.tm (okP h ((l.take n).map blkOf) (l2.take n2)))
  mat vs m := match vs with
    | [.agg [.int _ h1, .int _ h2, .int _ h3, .int _ h4, .sl a 0 n c, .sl a' 0 n' c']] => match nth m a, nth m a' with
      | ⟨b, q, _, _, g, .rows 71 l⟩, ⟨b', q', _, _, g', .rows 74 l'⟩ => some (((h1, h2, h3, h4), (onOf g, b, q, l, n, c), (onOf g', b', q', l', n', c')), [a, a'])
      | _, _ => none
    | _ => none
  ok := fun (h, (o, b, q, l, n, c), (o2, b2, q2, l2, n2, c2)) x => rpmay_ok h o b q l n c o2 b2 q2 l2 n2 c2 x.1 x.2.1 x.2.2.1 x.2.2.2.1 x.2.2.2.2
end Go.Vx
set_option linter.unusedSectionVars false
set_option maxRecDepth 100000
set_option linter.unusedVariables false
set_option linter.unusedSimpArgs false
namespace Go.Vx
open Go Go.Proofs
variable [Gl]

theorem fr1 {N : List Int} {x : Int} {g g' : List Int} {k c c' : Nat} (h : Gr (fours N) g k c) (hy : Gr (g.take k ++ four x) g' (k + 4) c') : Gr (fours (N ++ [x])) g' (k + 4) c' := by
  rw [fours_app, fours_one, ← h.2.1]; exact hy
theorem fpre {N : List Int} {g : List Int} {k c : Nat} (h : Gr (fours N) g k c) (hk : k < 140737488355000) : k ≤ c ∧ c ≤ g.length ∧ k < 140737488355000 ∧ (true = false → k = 0 ∧ c = 0) := ⟨h.2.2.1, h.2.2.2, hk, fun h => Bool.noConfusion h⟩
theorem blk_lst (r : Rw Int) : lst (blkOf r) = [r.l.getD 0 0, r.l.getD 1 0] := by unfold blkOf; rfl
theorem slot_lst (s : Slot) : slotN s = [s.key] ++ [s.pl.1] ++ [s.pl.2] ++ [s.me.kind] ++ [s.me.key] ++ [s.me.seq] ++ [s.me.stamp] ++ [s.me.batch] ++ [s.me.floor] := rfl
abbrev Fx := Nat × Nat × List Int × Nat
def Pb4 (h : Hd) (A : List Pl) : Inv' C0 := ⟨4, Nat × Fx, fun x => [(4, .int .i64 (x.1 : Int)), (3, .sl 8 0 (20 + 8 * x.1) x.2.2.2.2), (23, .junk)], fun x m => match m with
  | [a0, a1, bx, d1, d2, d3, d4, d5, y] => [a0, a1, bx, d1, d2, d3, d4, d5, ⟨x.2.1, x.2.2.1, 1, true, none, .rows 5 x.2.2.2.1⟩]
  | m => m, fun x => x.1 ≤ A.length ∧ Gr (fours (hdN h A.length ++ (A.take x.1).flatMap lst)) x.2.2.2.1 (20 + 8 * x.1) x.2.2.2.2, fun x => A.length - x.1⟩
def Pb9 (h : Hd) (A : List Pl) (B : List Slot) : Inv' C0 := ⟨9, Nat × Fx, fun x => [(5, .int .i64 (x.1 : Int)), (3, .sl 9 0 (24 + 8 * A.length + 36 * x.1) x.2.2.2.2), (52, .junk)], fun x m => match m with
  | [a0, a1, bx, d1, d2, d3, d4, d5, d6, y] => [a0, a1, bx, d1, d2, d3, d4, d5, d6, ⟨x.2.1, x.2.2.1, 1, true, none, .rows 5 x.2.2.2.1⟩]
  | m => m, fun x => x.1 ≤ B.length ∧ Gr (fours (hdN h A.length ++ A.flatMap lst ++ [(B.length : Int)] ++ (B.take x.1).flatMap slotN)) x.2.2.2.1 (24 + 8 * A.length + 36 * x.1) x.2.2.2.2, fun x => B.length - x.1⟩
set_option maxHeartbeats 16000000 in
theorem pbytes_ok (h : Hd) (o : Bool) (b q : Nat) (l : List (Rw Int)) (n c : Nat) (o2 : Bool) (b2 q2 : Nat) (l2 : List Slot) (n2 c2 : Nat)
    (h1 : Sq.ok (o, b, q, l, n, c)) (h2 : Sq.ok (o2, b2, q2, l2, n2, c2)) (hr : ∀ r ∈ l.take n, Rok r ∧ r.l.length = 2) (hn : n ≤ 1000000) (hn2 : n2 ≤ 1000000) :
    Does (C := C0) Tryd.prog (.fn 15) [⟨b, q, 1, false, some o, .rows 71 l⟩, ⟨b2, q2, 9, false, some o2, .rows 74 l2⟩] [ptv h (.sl 0 0 n c) (.sl 1 0 n2 c2)]
    [⟨Fx, fun y => Gr (bytesP h ((l.take n).map blkOf) (l2.take n2)) y.2.2.1 (bytesP h ((l.take n).map blkOf) (l2.take n2)).length y.2.2.2, fun y => .sl 2 0 (bytesP h ((l.take n).map blkOf) (l2.take n2)).length y.2.2.2,
      fun y => [⟨b, q, 1, false, some o, .rows 71 l⟩, ⟨b2, q2, 9, false, some o2, .rows 74 l2⟩, ⟨y.1, y.2.1, 1, true, none, .rows 5 y.2.2.1⟩]⟩] := by
  have hnl : n ≤ l.length := h1.2.1
  have hnl2 : n2 ≤ l2.length := h2.2.1
  have hAl : ((l.take n).map blkOf).length = n := by rw [List.length_map]; exact tk_len hnl
  refine loc_fn (P := Tryd.prog) (E := ⟨[fcFour], [pcRcrc], 107, [(1, [2], [.p 0, .p 1, .p 3, .p 4, .p 6, .p 7, .p 9, .p 10, .e 2, .e 5, .e 8, .e 11, .p 12]),
    (6, [0, 2], [.p 0, .p 1, .p 2, .p 3, .p 4, .p 5, .p 6, .p 7, .p 9, .p 10, .p 11, .p 12, .p 13, .p 14, .p 15, .e 8, .e 16, .p 17]),
    (12, [10], [.p 0, .p 1, .p 2, .p 4, .p 5, .p 6, .p 8, .p 9, .p 10, .e 3, .e 7, .e 11, .p 12]),
    (13, [10], [.p 0, .p 1, .p 2, .p 3, .p 5, .p 6, .p 7, .p 9, .p 10, .p 11, .e 4, .e 8, .e 12, .p 13]),
    (14, [10], [.p 0, .p 1, .p 2, .p 3, .p 5, .p 6, .p 7, .p 9, .p 10, .p 11, .e 4, .e 8, .e 12, .p 13])], [fI], []⟩) (L := [Pb4 h ((l.take n).map blkOf), Pb9 h ((l.take n).map blkOf) (l2.take n2)]) mix Tryd.func15 rfl (by kernel_rfl) (by kernel_rfl) rfl rfl ?_
  ((conv => (arg 1; reduce)); with_reducible repeat' (first | exact Tr.yes_h | refine Tr.and_h ?_ ?_ | refine Tr.imp_h fun _ => ?_ | refine Tr.all_h fun _ => ?_ | refine Tr.lf_h ?_))
  all_goals try (first | first | (show Region.lexB _ _ = true; kernel_rfl) | (show planned _ _ = true; kernel_rfl) | exact rfl | exact True.intro | ((try dsimp only [imp, C0, cG, cInt, cPl, cSlot, cPg, rwCodec, cRaw] at *); (try refine inR64 ?_ ?_) <;> (try simp only [List.length_set, List.length_append, List.length_take, List.length_drop]) <;> omega))
  · exact ⟨Nat.le_refl _, Nat.le_refl _, by decide, fun _ => ⟨rfl, rfl⟩⟩
  · rename_i b0 y1 hy1
    have f0 : Gr (fours []) [] 0 0 := by rw [fours_nil]; exact ⟨rfl, rfl, Nat.le_refl _, Nat.le_refl _⟩
    have f1 := fr1 f0 hy1
    exact fpre f1 (by decide)
  · rename_i b0 y1 hy1 y2 hy2
    have f0 : Gr (fours []) [] 0 0 := by rw [fours_nil]; exact ⟨rfl, rfl, Nat.le_refl _, Nat.le_refl _⟩
    have f1 := fr1 f0 hy1
    have f2 := fr1 f1 hy2
    exact fpre f2 (by decide)
  · rename_i b0 y1 hy1 y2 hy2 y3 hy3
    have f0 : Gr (fours []) [] 0 0 := by rw [fours_nil]; exact ⟨rfl, rfl, Nat.le_refl _, Nat.le_refl _⟩
    have f1 := fr1 f0 hy1
    have f2 := fr1 f1 hy2
    have f3 := fr1 f2 hy3
    exact fpre f3 (by decide)
  · rename_i b0 y1 hy1 y2 hy2 y3 hy3 y4 hy4
    have f0 : Gr (fours []) [] 0 0 := by rw [fours_nil]; exact ⟨rfl, rfl, Nat.le_refl _, Nat.le_refl _⟩
    have f1 := fr1 f0 hy1
    have f2 := fr1 f1 hy2
    have f3 := fr1 f2 hy3
    have f4 := fr1 f3 hy4
    exact fpre f4 (by decide)
  · rename_i b0 y1 hy1 y2 hy2 y3 hy3 y4 hy4 y5 hy5
    have f0 : Gr (fours []) [] 0 0 := by rw [fours_nil]; exact ⟨rfl, rfl, Nat.le_refl _, Nat.le_refl _⟩
    have f1 := fr1 f0 hy1
    have f2 := fr1 f1 hy2
    have f3 := fr1 f2 hy3
    have f4 := fr1 f3 hy4
    have f5 := fr1 f4 hy5
    refine Stands.one (0, y5) ⟨⟨Nat.zero_le _, ?_⟩, ?_⟩
    · show Gr (fours (hdN h ((l.take n).map blkOf).length ++ [])) _ _ _
      rw [hAl]
      exact f5
    ((conv => (arg 1; reduce)); with_reducible repeat' (first | exact Tr.yes_h | refine Tr.and_h ?_ ?_ | refine Tr.imp_h fun _ => ?_ | refine Tr.all_h fun _ => ?_ | refine Tr.lf_h ?_))
    all_goals (first | first | (show Region.lexB _ _ = true; kernel_rfl) | (show planned _ _ = true; kernel_rfl) | exact rfl | exact True.intro | ((try dsimp only [imp, C0, cG, cInt, cPl, cSlot, cPg, rwCodec, cRaw] at *); (try refine inR64 ?_ ?_) <;> (try simp only [List.length_set, List.length_append, List.length_take, List.length_drop]) <;> omega))
  · rename_i b0 y1 hy1 y2 hy2 y3 hy3 y4 hy4 y5 hy5 v hv h3
    obtain ⟨v, y⟩ := v
    obtain ⟨e1, e2⟩ : v ≤ ((l.take n).map blkOf).length ∧ Gr (fours (hdN h ((l.take n).map blkOf).length ++ (((l.take n).map blkOf).take v).flatMap lst)) y.2.2.1 (20 + 8 * v) y.2.2.2 := hv
    have h3n : v < n := Int.ofNat_lt.1 (of_decide_eq_true h3)
    exact on_of h1.2.2 (Nat.lt_of_le_of_lt (Nat.zero_le _) h3n)
  · rename_i b0 y1 hy1 y2 hy2 y3 hy3 y4 hy4 y5 hy5 v hv h3
    obtain ⟨v, y⟩ := v
    obtain ⟨e1, e2⟩ : v ≤ ((l.take n).map blkOf).length ∧ Gr (fours (hdN h ((l.take n).map blkOf).length ++ (((l.take n).map blkOf).take v).flatMap lst)) y.2.2.1 (20 + 8 * v) y.2.2.2 := hv
    have h3n : v < n := Int.ofNat_lt.1 (of_decide_eq_true h3)
    exact Int.ofNat_lt.2 h3n
  · rename_i b0 y1 hy1 y2 hy2 y3 hy3 y4 hy4 y5 hy5 v hv h3
    obtain ⟨v, y⟩ := v
    obtain ⟨e1, e2⟩ : v ≤ ((l.take n).map blkOf).length ∧ Gr (fours (hdN h ((l.take n).map blkOf).length ++ (((l.take n).map blkOf).take v).flatMap lst)) y.2.2.1 (20 + 8 * v) y.2.2.2 := hv
    have h3n : v < n := Int.ofNat_lt.1 (of_decide_eq_true h3)
    exact on_of h1.2.2 (Nat.lt_of_le_of_lt (Nat.zero_le _) h3n)
  · rename_i b0 y1 hy1 y2 hy2 y3 hy3 y4 hy4 y5 hy5 v hv h3
    obtain ⟨v, y⟩ := v
    obtain ⟨e1, e2⟩ : v ≤ ((l.take n).map blkOf).length ∧ Gr (fours (hdN h ((l.take n).map blkOf).length ++ (((l.take n).map blkOf).take v).flatMap lst)) y.2.2.1 (20 + 8 * v) y.2.2.2 := hv
    have h3n : v < n := Int.ofNat_lt.1 (of_decide_eq_true h3)
    show (v : Int).toNat + 0 < l.length
    omega
  · rename_i b0 y1 hy1 y2 hy2 y3 hy3 y4 hy4 y5 hy5 v hv h3 r hr1
    obtain ⟨v, y⟩ := v
    obtain ⟨e1, e2⟩ : v ≤ ((l.take n).map blkOf).length ∧ Gr (fours (hdN h ((l.take n).map blkOf).length ++ (((l.take n).map blkOf).take v).flatMap lst)) y.2.2.1 (20 + 8 * v) y.2.2.2 := hv
    have h3n : v < n := Int.ofNat_lt.1 (of_decide_eq_true h3)
    change Rw Int at r
    have hr1 : l.getD v Rw.nil = r := hr1
    obtain ⟨⟨g1, g2, g3⟩, g4⟩ := hr r (row_mem h3n hnl hr1)
    exact on_of g1 (by omega)
  · rename_i b0 y1 hy1 y2 hy2 y3 hy3 y4 hy4 y5 hy5 v hv h3 r hr1
    obtain ⟨v, y⟩ := v
    obtain ⟨e1, e2⟩ : v ≤ ((l.take n).map blkOf).length ∧ Gr (fours (hdN h ((l.take n).map blkOf).length ++ (((l.take n).map blkOf).take v).flatMap lst)) y.2.2.1 (20 + 8 * v) y.2.2.2 := hv
    have h3n : v < n := Int.ofNat_lt.1 (of_decide_eq_true h3)
    change Rw Int at r
    have hr1 : l.getD v Rw.nil = r := hr1
    obtain ⟨⟨g1, g2, g3⟩, g4⟩ := hr r (row_mem h3n hnl hr1)
    show (0 : Int) < ((r.l.length : Nat) : Int)
    rw [g4]; decide
  · rename_i b0 y1 hy1 y2 hy2 y3 hy3 y4 hy4 y5 hy5 v hv h3 r hr1
    obtain ⟨v, y⟩ := v
    obtain ⟨e1, e2⟩ : v ≤ ((l.take n).map blkOf).length ∧ Gr (fours (hdN h ((l.take n).map blkOf).length ++ (((l.take n).map blkOf).take v).flatMap lst)) y.2.2.1 (20 + 8 * v) y.2.2.2 := hv
    have h3n : v < n := Int.ofNat_lt.1 (of_decide_eq_true h3)
    change Rw Int at r
    have hr1 : l.getD v Rw.nil = r := hr1
    obtain ⟨⟨g1, g2, g3⟩, g4⟩ := hr r (row_mem h3n hnl hr1)
    exact on_of g1 (by omega)
  · rename_i b0 y1 hy1 y2 hy2 y3 hy3 y4 hy4 y5 hy5 v hv h3 r hr1
    obtain ⟨v, y⟩ := v
    obtain ⟨e1, e2⟩ : v ≤ ((l.take n).map blkOf).length ∧ Gr (fours (hdN h ((l.take n).map blkOf).length ++ (((l.take n).map blkOf).take v).flatMap lst)) y.2.2.1 (20 + 8 * v) y.2.2.2 := hv
    have h3n : v < n := Int.ofNat_lt.1 (of_decide_eq_true h3)
    change Rw Int at r
    have hr1 : l.getD v Rw.nil = r := hr1
    obtain ⟨⟨g1, g2, g3⟩, g4⟩ := hr r (row_mem h3n hnl hr1)
    show (0 : Int).toNat + 0 < r.l.length
    rw [g4]; decide
  · rename_i b0 y1 hy1 y2 hy2 y3 hy3 y4 hy4 y5 hy5 v hv h3 r hr1
    obtain ⟨v, y⟩ := v
    obtain ⟨e1, e2⟩ : v ≤ ((l.take n).map blkOf).length ∧ Gr (fours (hdN h ((l.take n).map blkOf).length ++ (((l.take n).map blkOf).take v).flatMap lst)) y.2.2.1 (20 + 8 * v) y.2.2.2 := hv
    have h3n : v < n := Int.ofNat_lt.1 (of_decide_eq_true h3)
    exact on_of h1.2.2 (Nat.lt_of_le_of_lt (Nat.zero_le _) h3n)
  · rename_i b0 y1 hy1 y2 hy2 y3 hy3 y4 hy4 y5 hy5 v hv h3 r hr1
    obtain ⟨v, y⟩ := v
    obtain ⟨e1, e2⟩ : v ≤ ((l.take n).map blkOf).length ∧ Gr (fours (hdN h ((l.take n).map blkOf).length ++ (((l.take n).map blkOf).take v).flatMap lst)) y.2.2.1 (20 + 8 * v) y.2.2.2 := hv
    have h3n : v < n := Int.ofNat_lt.1 (of_decide_eq_true h3)
    exact Int.ofNat_lt.2 h3n
  · rename_i b0 y1 hy1 y2 hy2 y3 hy3 y4 hy4 y5 hy5 v hv h3 r hr1
    obtain ⟨v, y⟩ := v
    obtain ⟨e1, e2⟩ : v ≤ ((l.take n).map blkOf).length ∧ Gr (fours (hdN h ((l.take n).map blkOf).length ++ (((l.take n).map blkOf).take v).flatMap lst)) y.2.2.1 (20 + 8 * v) y.2.2.2 := hv
    have h3n : v < n := Int.ofNat_lt.1 (of_decide_eq_true h3)
    exact on_of h1.2.2 (Nat.lt_of_le_of_lt (Nat.zero_le _) h3n)
  · rename_i b0 y1 hy1 y2 hy2 y3 hy3 y4 hy4 y5 hy5 v hv h3 r hr1
    obtain ⟨v, y⟩ := v
    obtain ⟨e1, e2⟩ : v ≤ ((l.take n).map blkOf).length ∧ Gr (fours (hdN h ((l.take n).map blkOf).length ++ (((l.take n).map blkOf).take v).flatMap lst)) y.2.2.1 (20 + 8 * v) y.2.2.2 := hv
    have h3n : v < n := Int.ofNat_lt.1 (of_decide_eq_true h3)
    show (v : Int).toNat + 0 < l.length
    omega
  · rename_i b0 y1 hy1 y2 hy2 y3 hy3 y4 hy4 y5 hy5 v hv h3 r hr1 r2 hr2
    obtain ⟨v, y⟩ := v
    obtain ⟨e1, e2⟩ : v ≤ ((l.take n).map blkOf).length ∧ Gr (fours (hdN h ((l.take n).map blkOf).length ++ (((l.take n).map blkOf).take v).flatMap lst)) y.2.2.1 (20 + 8 * v) y.2.2.2 := hv
    have h3n : v < n := Int.ofNat_lt.1 (of_decide_eq_true h3)
    change Rw Int at r2
    have hr2 : l.getD v Rw.nil = r2 := hr2
    obtain ⟨⟨g1, g2, g3⟩, g4⟩ := hr r2 (row_mem h3n hnl hr2)
    exact on_of g1 (by omega)
  · rename_i b0 y1 hy1 y2 hy2 y3 hy3 y4 hy4 y5 hy5 v hv h3 r hr1 r2 hr2
    obtain ⟨v, y⟩ := v
    obtain ⟨e1, e2⟩ : v ≤ ((l.take n).map blkOf).length ∧ Gr (fours (hdN h ((l.take n).map blkOf).length ++ (((l.take n).map blkOf).take v).flatMap lst)) y.2.2.1 (20 + 8 * v) y.2.2.2 := hv
    have h3n : v < n := Int.ofNat_lt.1 (of_decide_eq_true h3)
    change Rw Int at r2
    have hr2 : l.getD v Rw.nil = r2 := hr2
    obtain ⟨⟨g1, g2, g3⟩, g4⟩ := hr r2 (row_mem h3n hnl hr2)
    show (1 : Int) < ((r2.l.length : Nat) : Int)
    rw [g4]; decide
  · rename_i b0 y1 hy1 y2 hy2 y3 hy3 y4 hy4 y5 hy5 v hv h3 r hr1 r2 hr2
    obtain ⟨v, y⟩ := v
    obtain ⟨e1, e2⟩ : v ≤ ((l.take n).map blkOf).length ∧ Gr (fours (hdN h ((l.take n).map blkOf).length ++ (((l.take n).map blkOf).take v).flatMap lst)) y.2.2.1 (20 + 8 * v) y.2.2.2 := hv
    have h3n : v < n := Int.ofNat_lt.1 (of_decide_eq_true h3)
    change Rw Int at r2
    have hr2 : l.getD v Rw.nil = r2 := hr2
    obtain ⟨⟨g1, g2, g3⟩, g4⟩ := hr r2 (row_mem h3n hnl hr2)
    exact on_of g1 (by omega)
  · rename_i b0 y1 hy1 y2 hy2 y3 hy3 y4 hy4 y5 hy5 v hv h3 r hr1 r2 hr2
    obtain ⟨v, y⟩ := v
    obtain ⟨e1, e2⟩ : v ≤ ((l.take n).map blkOf).length ∧ Gr (fours (hdN h ((l.take n).map blkOf).length ++ (((l.take n).map blkOf).take v).flatMap lst)) y.2.2.1 (20 + 8 * v) y.2.2.2 := hv
    have h3n : v < n := Int.ofNat_lt.1 (of_decide_eq_true h3)
    change Rw Int at r2
    have hr2 : l.getD v Rw.nil = r2 := hr2
    obtain ⟨⟨g1, g2, g3⟩, g4⟩ := hr r2 (row_mem h3n hnl hr2)
    show (1 : Int).toNat + 0 < r2.l.length
    rw [g4]; decide
  · rename_i b0 y1 hy1 y2 hy2 y3 hy3 y4 hy4 y5 hy5 v hv h3 r hr1 r2 hr2
    obtain ⟨v, y⟩ := v
    obtain ⟨e1, e2⟩ : v ≤ ((l.take n).map blkOf).length ∧ Gr (fours (hdN h ((l.take n).map blkOf).length ++ (((l.take n).map blkOf).take v).flatMap lst)) y.2.2.1 (20 + 8 * v) y.2.2.2 := hv
    have h3n : v < n := Int.ofNat_lt.1 (of_decide_eq_true h3)
    exact fpre e2 (by omega)
  · rename_i b0 y1 hy1 y2 hy2 y3 hy3 y4 hy4 y5 hy5 v hv h3 r hr1 r2 hr2 z1 hz1
    obtain ⟨v, y⟩ := v
    obtain ⟨e1, e2⟩ : v ≤ ((l.take n).map blkOf).length ∧ Gr (fours (hdN h ((l.take n).map blkOf).length ++ (((l.take n).map blkOf).take v).flatMap lst)) y.2.2.1 (20 + 8 * v) y.2.2.2 := hv
    have h3n : v < n := Int.ofNat_lt.1 (of_decide_eq_true h3)
    have k1 := fr1 e2 hz1
    exact fpre k1 (by omega)
  · rename_i b0 y1 hy1 y2 hy2 y3 hy3 y4 hy4 y5 hy5 v hv h3 r hr1 r2 hr2 z1 hz1 z2 hz2
    obtain ⟨v, y⟩ := v
    obtain ⟨e1, e2⟩ : v ≤ ((l.take n).map blkOf).length ∧ Gr (fours (hdN h ((l.take n).map blkOf).length ++ (((l.take n).map blkOf).take v).flatMap lst)) y.2.2.1 (20 + 8 * v) y.2.2.2 := hv
    have h3n : v < n := Int.ofNat_lt.1 (of_decide_eq_true h3)
    exact inR64 (by show _ ≤ (v : Int) + 1; omega) (by show (v : Int) + 1 ≤ _; omega)
  · rename_i b0 y1 hy1 y2 hy2 y3 hy3 y4 hy4 y5 hy5 v hv h3 r hr1 r2 hr2 z1 hz1 z2 hz2
    obtain ⟨v, y⟩ := v
    obtain ⟨e1, e2⟩ : v ≤ ((l.take n).map blkOf).length ∧ Gr (fours (hdN h ((l.take n).map blkOf).length ++ (((l.take n).map blkOf).take v).flatMap lst)) y.2.2.1 (20 + 8 * v) y.2.2.2 := hv
    have h3n : v < n := Int.ofNat_lt.1 (of_decide_eq_true h3)
    change Rw Int at r
    change Rw Int at r2
    have hr1 : l.getD v Rw.nil = r := hr1
    have hr2 : l.getD v Rw.nil = r2 := hr2
    have hrr : r2 = r := hr2.symm.trans hr1
    subst hrr
    have k1 := fr1 (x := r2.l.getD 0 0) e2 hz1
    have k2 := fr1 (x := r2.l.getD 1 0) k1 hz2
    refine Stands.one (v + 1, z2) ⟨⟨by rw [hAl]; omega, ?_⟩, ?_, ?_⟩
    · show Gr (fours (_ ++ (((l.take n).map blkOf).take (v + 1)).flatMap lst)) _ (20 + 8 * (v + 1)) _
      rw [take_snoc (d := (0, 0)) (by rw [hAl]; exact h3n), map_at h3n hnl, hr2, List.flatMap_append, List.flatMap_singleton, blk_lst, ← List.append_assoc]
      rw [List.append_assoc _ [_] [_]] at k2
      exact k2
    · show ((l.take n).map blkOf).length - (v + 1) < ((l.take n).map blkOf).length - v
      rw [hAl]; omega
    ((conv => (arg 1; reduce)); with_reducible repeat' (first | exact Tr.yes_h | refine Tr.and_h ?_ ?_ | refine Tr.imp_h fun _ => ?_ | refine Tr.all_h fun _ => ?_ | refine Tr.lf_h ?_))
    all_goals (first | first | (show Region.lexB _ _ = true; kernel_rfl) | (show planned _ _ = true; kernel_rfl) | exact rfl | exact True.intro | ((try dsimp only [imp, C0, cG, cInt, cPl, cSlot, cPg, rwCodec, cRaw] at *); (try refine inR64 ?_ ?_) <;> (try simp only [List.length_set, List.length_append, List.length_take, List.length_drop]) <;> omega))
  · rename_i b0 y1 hy1 y2 hy2 y3 hy3 y4 hy4 y5 hy5 v hv h3
    obtain ⟨v, y⟩ := v
    obtain ⟨e1, e2⟩ : v ≤ ((l.take n).map blkOf).length ∧ Gr (fours (hdN h ((l.take n).map blkOf).length ++ (((l.take n).map blkOf).take v).flatMap lst)) y.2.2.1 (20 + 8 * v) y.2.2.2 := hv
    have h3n : ¬ v < n := fun hq => of_decide_eq_false h3 (Int.ofNat_lt.2 hq)
    have hv2 : v = ((l.take n).map blkOf).length := by rw [hAl] at e1 ⊢; omega
    rw [List.take_of_length_le (l := (l.take n).map blkOf) (by omega)] at e2
    exact fpre e2 (by omega)
  · rename_i b0 y1 hy1 y2 hy2 y3 hy3 y4 hy4 y5 hy5 v hv h3 w1 hw1
    obtain ⟨v, y⟩ := v
    obtain ⟨e1, e2⟩ : v ≤ ((l.take n).map blkOf).length ∧ Gr (fours (hdN h ((l.take n).map blkOf).length ++ (((l.take n).map blkOf).take v).flatMap lst)) y.2.2.1 (20 + 8 * v) y.2.2.2 := hv
    have h3n : ¬ v < n := fun hq => of_decide_eq_false h3 (Int.ofNat_lt.2 hq)
    have hv2 : v = ((l.take n).map blkOf).length := by rw [hAl] at e1 ⊢; omega
    rw [List.take_of_length_le (l := (l.take n).map blkOf) (by omega)] at e2
    have k1 := fr1 e2 hw1
    refine Stands.one (0, w1) ⟨⟨Nat.zero_le _, ?_⟩, ?_⟩
    · show Gr (fours (_ ++ [((l2.take n2).length : Int)] ++ [])) _ (24 + 8 * ((l.take n).map blkOf).length + 36 * 0) _
      rw [List.append_nil, tk_len hnl2, show 24 + 8 * ((l.take n).map blkOf).length + 36 * 0 = 20 + 8 * v + 4 by omega]
      exact k1
    ((conv => (arg 1; reduce)); with_reducible repeat' (first | exact Tr.yes_h | refine Tr.and_h ?_ ?_ | refine Tr.imp_h fun _ => ?_ | refine Tr.all_h fun _ => ?_ | refine Tr.lf_h ?_))
    all_goals (first | first | (show Region.lexB _ _ = true; kernel_rfl) | (show planned _ _ = true; kernel_rfl) | exact rfl | exact True.intro | ((try dsimp only [imp, C0, cG, cInt, cPl, cSlot, cPg, rwCodec, cRaw] at *); (try refine inR64 ?_ ?_) <;> (try simp only [List.length_set, List.length_append, List.length_take, List.length_drop]) <;> omega))
  · rename_i b0 y1 hy1 y2 hy2 y3 hy3 y4 hy4 y5 hy5 v hv h3 w1 hw1 u hu h4
    obtain ⟨u, x⟩ := u
    obtain ⟨e1, e2⟩ : u ≤ (l2.take n2).length ∧ Gr (fours (hdN h ((l.take n).map blkOf).length ++ ((l.take n).map blkOf).flatMap lst ++ [((l2.take n2).length : Int)] ++ ((l2.take n2).take u).flatMap slotN)) x.2.2.1 (24 + 8 * ((l.take n).map blkOf).length + 36 * u) x.2.2.2 := hu
    have h4n : u < n2 := Int.ofNat_lt.1 (of_decide_eq_true h4)
    exact on_of h2.2.2 (Nat.lt_of_le_of_lt (Nat.zero_le _) h4n)
  · rename_i b0 y1 hy1 y2 hy2 y3 hy3 y4 hy4 y5 hy5 v hv h3 w1 hw1 u hu h4
    obtain ⟨u, x⟩ := u
    obtain ⟨e1, e2⟩ : u ≤ (l2.take n2).length ∧ Gr (fours (hdN h ((l.take n).map blkOf).length ++ ((l.take n).map blkOf).flatMap lst ++ [((l2.take n2).length : Int)] ++ ((l2.take n2).take u).flatMap slotN)) x.2.2.1 (24 + 8 * ((l.take n).map blkOf).length + 36 * u) x.2.2.2 := hu
    have h4n : u < n2 := Int.ofNat_lt.1 (of_decide_eq_true h4)
    exact Int.ofNat_lt.2 h4n
  · rename_i b0 y1 hy1 y2 hy2 y3 hy3 y4 hy4 y5 hy5 v hv h3 w1 hw1 u hu h4
    obtain ⟨u, x⟩ := u
    obtain ⟨e1, e2⟩ : u ≤ (l2.take n2).length ∧ Gr (fours (hdN h ((l.take n).map blkOf).length ++ ((l.take n).map blkOf).flatMap lst ++ [((l2.take n2).length : Int)] ++ ((l2.take n2).take u).flatMap slotN)) x.2.2.1 (24 + 8 * ((l.take n).map blkOf).length + 36 * u) x.2.2.2 := hu
    have h4n : u < n2 := Int.ofNat_lt.1 (of_decide_eq_true h4)
    exact on_of h2.2.2 (Nat.lt_of_le_of_lt (Nat.zero_le _) h4n)
  · rename_i b0 y1 hy1 y2 hy2 y3 hy3 y4 hy4 y5 hy5 v hv h3 w1 hw1 u hu h4
    obtain ⟨u, x⟩ := u
    obtain ⟨e1, e2⟩ : u ≤ (l2.take n2).length ∧ Gr (fours (hdN h ((l.take n).map blkOf).length ++ ((l.take n).map blkOf).flatMap lst ++ [((l2.take n2).length : Int)] ++ ((l2.take n2).take u).flatMap slotN)) x.2.2.1 (24 + 8 * ((l.take n).map blkOf).length + 36 * u) x.2.2.2 := hu
    have h4n : u < n2 := Int.ofNat_lt.1 (of_decide_eq_true h4)
    show (u : Int).toNat + 0 < l2.length
    omega
  · rename_i b0 y1 hy1 y2 hy2 y3 hy3 y4 hy4 y5 hy5 v hv h3 w1 hw1 u hu h4 bs
    obtain ⟨u, x⟩ := u
    obtain ⟨e1, e2⟩ : u ≤ (l2.take n2).length ∧ Gr (fours (hdN h ((l.take n).map blkOf).length ++ ((l.take n).map blkOf).flatMap lst ++ [((l2.take n2).length : Int)] ++ ((l2.take n2).take u).flatMap slotN)) x.2.2.1 (24 + 8 * ((l.take n).map blkOf).length + 36 * u) x.2.2.2 := hu
    have h4n : u < n2 := Int.ofNat_lt.1 (of_decide_eq_true h4)
    exact fpre e2 (by omega)
  · rename_i b0 y1 hy1 y2 hy2 y3 hy3 y4 hy4 y5 hy5 v hv h3 w1 hw1 u hu h4 bs z1 hz1
    obtain ⟨u, x⟩ := u
    obtain ⟨e1, e2⟩ : u ≤ (l2.take n2).length ∧ Gr (fours (hdN h ((l.take n).map blkOf).length ++ ((l.take n).map blkOf).flatMap lst ++ [((l2.take n2).length : Int)] ++ ((l2.take n2).take u).flatMap slotN)) x.2.2.1 (24 + 8 * ((l.take n).map blkOf).length + 36 * u) x.2.2.2 := hu
    have h4n : u < n2 := Int.ofNat_lt.1 (of_decide_eq_true h4)
    have k1 := fr1 (x := (l2.getD u slot0).key) e2 hz1
    exact fpre k1 (by omega)
  · rename_i b0 y1 hy1 y2 hy2 y3 hy3 y4 hy4 y5 hy5 v hv h3 w1 hw1 u hu h4 bs z1 hz1 z2 hz2
    obtain ⟨u, x⟩ := u
    obtain ⟨e1, e2⟩ : u ≤ (l2.take n2).length ∧ Gr (fours (hdN h ((l.take n).map blkOf).length ++ ((l.take n).map blkOf).flatMap lst ++ [((l2.take n2).length : Int)] ++ ((l2.take n2).take u).flatMap slotN)) x.2.2.1 (24 + 8 * ((l.take n).map blkOf).length + 36 * u) x.2.2.2 := hu
    have h4n : u < n2 := Int.ofNat_lt.1 (of_decide_eq_true h4)
    have k1 := fr1 (x := (l2.getD u slot0).key) e2 hz1
    have k2 := fr1 (x := (l2.getD u slot0).pl.1) k1 hz2
    exact fpre k2 (by omega)
  · rename_i b0 y1 hy1 y2 hy2 y3 hy3 y4 hy4 y5 hy5 v hv h3 w1 hw1 u hu h4 bs z1 hz1 z2 hz2 z3 hz3
    obtain ⟨u, x⟩ := u
    obtain ⟨e1, e2⟩ : u ≤ (l2.take n2).length ∧ Gr (fours (hdN h ((l.take n).map blkOf).length ++ ((l.take n).map blkOf).flatMap lst ++ [((l2.take n2).length : Int)] ++ ((l2.take n2).take u).flatMap slotN)) x.2.2.1 (24 + 8 * ((l.take n).map blkOf).length + 36 * u) x.2.2.2 := hu
    have h4n : u < n2 := Int.ofNat_lt.1 (of_decide_eq_true h4)
    have k1 := fr1 (x := (l2.getD u slot0).key) e2 hz1
    have k2 := fr1 (x := (l2.getD u slot0).pl.1) k1 hz2
    have k3 := fr1 (x := (l2.getD u slot0).pl.2) k2 hz3
    exact fpre k3 (by omega)
  · rename_i b0 y1 hy1 y2 hy2 y3 hy3 y4 hy4 y5 hy5 v hv h3 w1 hw1 u hu h4 bs z1 hz1 z2 hz2 z3 hz3 z4 hz4
    obtain ⟨u, x⟩ := u
    obtain ⟨e1, e2⟩ : u ≤ (l2.take n2).length ∧ Gr (fours (hdN h ((l.take n).map blkOf).length ++ ((l.take n).map blkOf).flatMap lst ++ [((l2.take n2).length : Int)] ++ ((l2.take n2).take u).flatMap slotN)) x.2.2.1 (24 + 8 * ((l.take n).map blkOf).length + 36 * u) x.2.2.2 := hu
    have h4n : u < n2 := Int.ofNat_lt.1 (of_decide_eq_true h4)
    have k1 := fr1 (x := (l2.getD u slot0).key) e2 hz1
    have k2 := fr1 (x := (l2.getD u slot0).pl.1) k1 hz2
    have k3 := fr1 (x := (l2.getD u slot0).pl.2) k2 hz3
    have k4 := fr1 (x := (l2.getD u slot0).me.kind) k3 hz4
    exact fpre k4 (by omega)
  · rename_i b0 y1 hy1 y2 hy2 y3 hy3 y4 hy4 y5 hy5 v hv h3 w1 hw1 u hu h4 bs z1 hz1 z2 hz2 z3 hz3 z4 hz4 z5 hz5
    obtain ⟨u, x⟩ := u
    obtain ⟨e1, e2⟩ : u ≤ (l2.take n2).length ∧ Gr (fours (hdN h ((l.take n).map blkOf).length ++ ((l.take n).map blkOf).flatMap lst ++ [((l2.take n2).length : Int)] ++ ((l2.take n2).take u).flatMap slotN)) x.2.2.1 (24 + 8 * ((l.take n).map blkOf).length + 36 * u) x.2.2.2 := hu
    have h4n : u < n2 := Int.ofNat_lt.1 (of_decide_eq_true h4)
    have k1 := fr1 (x := (l2.getD u slot0).key) e2 hz1
    have k2 := fr1 (x := (l2.getD u slot0).pl.1) k1 hz2
    have k3 := fr1 (x := (l2.getD u slot0).pl.2) k2 hz3
    have k4 := fr1 (x := (l2.getD u slot0).me.kind) k3 hz4
    have k5 := fr1 (x := (l2.getD u slot0).me.key) k4 hz5
    exact fpre k5 (by omega)
  · rename_i b0 y1 hy1 y2 hy2 y3 hy3 y4 hy4 y5 hy5 v hv h3 w1 hw1 u hu h4 bs z1 hz1 z2 hz2 z3 hz3 z4 hz4 z5 hz5 z6 hz6
    obtain ⟨u, x⟩ := u
    obtain ⟨e1, e2⟩ : u ≤ (l2.take n2).length ∧ Gr (fours (hdN h ((l.take n).map blkOf).length ++ ((l.take n).map blkOf).flatMap lst ++ [((l2.take n2).length : Int)] ++ ((l2.take n2).take u).flatMap slotN)) x.2.2.1 (24 + 8 * ((l.take n).map blkOf).length + 36 * u) x.2.2.2 := hu
    have h4n : u < n2 := Int.ofNat_lt.1 (of_decide_eq_true h4)
    have k1 := fr1 (x := (l2.getD u slot0).key) e2 hz1
    have k2 := fr1 (x := (l2.getD u slot0).pl.1) k1 hz2
    have k3 := fr1 (x := (l2.getD u slot0).pl.2) k2 hz3
    have k4 := fr1 (x := (l2.getD u slot0).me.kind) k3 hz4
    have k5 := fr1 (x := (l2.getD u slot0).me.key) k4 hz5
    have k6 := fr1 (x := (l2.getD u slot0).me.seq) k5 hz6
    exact fpre k6 (by omega)
  · rename_i b0 y1 hy1 y2 hy2 y3 hy3 y4 hy4 y5 hy5 v hv h3 w1 hw1 u hu h4 bs z1 hz1 z2 hz2 z3 hz3 z4 hz4 z5 hz5 z6 hz6 z7 hz7
    obtain ⟨u, x⟩ := u
    obtain ⟨e1, e2⟩ : u ≤ (l2.take n2).length ∧ Gr (fours (hdN h ((l.take n).map blkOf).length ++ ((l.take n).map blkOf).flatMap lst ++ [((l2.take n2).length : Int)] ++ ((l2.take n2).take u).flatMap slotN)) x.2.2.1 (24 + 8 * ((l.take n).map blkOf).length + 36 * u) x.2.2.2 := hu
    have h4n : u < n2 := Int.ofNat_lt.1 (of_decide_eq_true h4)
    have k1 := fr1 (x := (l2.getD u slot0).key) e2 hz1
    have k2 := fr1 (x := (l2.getD u slot0).pl.1) k1 hz2
    have k3 := fr1 (x := (l2.getD u slot0).pl.2) k2 hz3
    have k4 := fr1 (x := (l2.getD u slot0).me.kind) k3 hz4
    have k5 := fr1 (x := (l2.getD u slot0).me.key) k4 hz5
    have k6 := fr1 (x := (l2.getD u slot0).me.seq) k5 hz6
    have k7 := fr1 (x := (l2.getD u slot0).me.stamp) k6 hz7
    exact fpre k7 (by omega)
  · rename_i b0 y1 hy1 y2 hy2 y3 hy3 y4 hy4 y5 hy5 v hv h3 w1 hw1 u hu h4 bs z1 hz1 z2 hz2 z3 hz3 z4 hz4 z5 hz5 z6 hz6 z7 hz7 z8 hz8
    obtain ⟨u, x⟩ := u
    obtain ⟨e1, e2⟩ : u ≤ (l2.take n2).length ∧ Gr (fours (hdN h ((l.take n).map blkOf).length ++ ((l.take n).map blkOf).flatMap lst ++ [((l2.take n2).length : Int)] ++ ((l2.take n2).take u).flatMap slotN)) x.2.2.1 (24 + 8 * ((l.take n).map blkOf).length + 36 * u) x.2.2.2 := hu
    have h4n : u < n2 := Int.ofNat_lt.1 (of_decide_eq_true h4)
    have k1 := fr1 (x := (l2.getD u slot0).key) e2 hz1
    have k2 := fr1 (x := (l2.getD u slot0).pl.1) k1 hz2
    have k3 := fr1 (x := (l2.getD u slot0).pl.2) k2 hz3
    have k4 := fr1 (x := (l2.getD u slot0).me.kind) k3 hz4
    have k5 := fr1 (x := (l2.getD u slot0).me.key) k4 hz5
    have k6 := fr1 (x := (l2.getD u slot0).me.seq) k5 hz6
    have k7 := fr1 (x := (l2.getD u slot0).me.stamp) k6 hz7
    have k8 := fr1 (x := (l2.getD u slot0).me.batch) k7 hz8
    exact fpre k8 (by omega)
  · rename_i b0 y1 hy1 y2 hy2 y3 hy3 y4 hy4 y5 hy5 v hv h3 w1 hw1 u hu h4 bs z1 hz1 z2 hz2 z3 hz3 z4 hz4 z5 hz5 z6 hz6 z7 hz7 z8 hz8 z9 hz9
    obtain ⟨u, x⟩ := u
    obtain ⟨e1, e2⟩ : u ≤ (l2.take n2).length ∧ Gr (fours (hdN h ((l.take n).map blkOf).length ++ ((l.take n).map blkOf).flatMap lst ++ [((l2.take n2).length : Int)] ++ ((l2.take n2).take u).flatMap slotN)) x.2.2.1 (24 + 8 * ((l.take n).map blkOf).length + 36 * u) x.2.2.2 := hu
    have h4n : u < n2 := Int.ofNat_lt.1 (of_decide_eq_true h4)
    exact inR64 (by show _ ≤ (u : Int) + 1; omega) (by show (u : Int) + 1 ≤ _; omega)
  · rename_i b0 y1 hy1 y2 hy2 y3 hy3 y4 hy4 y5 hy5 v hv h3 w1 hw1 u hu h4 bs z1 hz1 z2 hz2 z3 hz3 z4 hz4 z5 hz5 z6 hz6 z7 hz7 z8 hz8 z9 hz9
    obtain ⟨u, x⟩ := u
    obtain ⟨e1, e2⟩ : u ≤ (l2.take n2).length ∧ Gr (fours (hdN h ((l.take n).map blkOf).length ++ ((l.take n).map blkOf).flatMap lst ++ [((l2.take n2).length : Int)] ++ ((l2.take n2).take u).flatMap slotN)) x.2.2.1 (24 + 8 * ((l.take n).map blkOf).length + 36 * u) x.2.2.2 := hu
    have h4n : u < n2 := Int.ofNat_lt.1 (of_decide_eq_true h4)
    have k1 := fr1 (x := (l2.getD u slot0).key) e2 hz1
    have k2 := fr1 (x := (l2.getD u slot0).pl.1) k1 hz2
    have k3 := fr1 (x := (l2.getD u slot0).pl.2) k2 hz3
    have k4 := fr1 (x := (l2.getD u slot0).me.kind) k3 hz4
    have k5 := fr1 (x := (l2.getD u slot0).me.key) k4 hz5
    have k6 := fr1 (x := (l2.getD u slot0).me.seq) k5 hz6
    have k7 := fr1 (x := (l2.getD u slot0).me.stamp) k6 hz7
    have k8 := fr1 (x := (l2.getD u slot0).me.batch) k7 hz8
    have k9 := fr1 (x := (l2.getD u slot0).me.floor) k8 hz9
    refine Stands.one (u + 1, z9) ⟨⟨by rw [tk_len hnl2]; omega, ?_⟩, ?_, ?_⟩
    · show Gr (fours (_ ++ ((l2.take n2).take (u + 1)).flatMap slotN)) _ (24 + 8 * ((l.take n).map blkOf).length + 36 * (u + 1)) _
      rw [take_snoc (d := slot0) (by rw [tk_len hnl2]; exact h4n), tk_at h4n, List.flatMap_append, List.flatMap_singleton, slot_lst, show 24 + 8 * ((l.take n).map blkOf).length + 36 * (u + 1) = 24 + 8 * ((l.take n).map blkOf).length + 36 * u + 4 + 4 + 4 + 4 + 4 + 4 + 4 + 4 + 4 by omega]
      simp only [← List.append_assoc]
      exact k9
    · show (l2.take n2).length - (u + 1) < (l2.take n2).length - u
      rw [tk_len hnl2]; omega
    ((conv => (arg 1; reduce)); with_reducible repeat' (first | exact Tr.yes_h | refine Tr.and_h ?_ ?_ | refine Tr.imp_h fun _ => ?_ | refine Tr.all_h fun _ => ?_ | refine Tr.lf_h ?_))
    all_goals (first | first | (show Region.lexB _ _ = true; kernel_rfl) | (show planned _ _ = true; kernel_rfl) | exact rfl | exact True.intro | ((try dsimp only [imp, C0, cG, cInt, cPl, cSlot, cPg, rwCodec, cRaw] at *); (try refine inR64 ?_ ?_) <;> (try simp only [List.length_set, List.length_append, List.length_take, List.length_drop]) <;> omega))
  · rename_i b0 y1 hy1 y2 hy2 y3 hy3 y4 hy4 y5 hy5 v hv h3 w1 hw1 u hu h4
    obtain ⟨u, x⟩ := u
    obtain ⟨e1, e2⟩ : u ≤ (l2.take n2).length ∧ Gr (fours (hdN h ((l.take n).map blkOf).length ++ ((l.take n).map blkOf).flatMap lst ++ [((l2.take n2).length : Int)] ++ ((l2.take n2).take u).flatMap slotN)) x.2.2.1 (24 + 8 * ((l.take n).map blkOf).length + 36 * u) x.2.2.2 := hu
    have h4n : ¬ u < n2 := fun hq => of_decide_eq_false h4 (Int.ofNat_lt.2 hq)
    have hu2 : u = (l2.take n2).length := by rw [tk_len hnl2] at e1 ⊢; omega
    rw [List.take_of_length_le (l := l2.take n2) (by omega)] at e2
    have hnn := tk_len hnl2
    have e3 : Gr (fours (nums h ((l.take n).map blkOf) (l2.take n2))) x.2.2.1 (24 + 8 * ((l.take n).map blkOf).length + 36 * u) x.2.2.2 := by unfold nums; exact e2
    exact ⟨by show 0 + (24 + 8 * ((l.take n).map blkOf).length + 36 * u) ≤ x.2.2.1.length; have := e3.2.2; omega, by show _ < (4611686018427387904 : Nat); omega, fun hq => Bool.noConfusion hq⟩
  · rename_i b0 y1 hy1 y2 hy2 y3 hy3 y4 hy4 y5 hy5 v hv h3 w1 hw1 u hu h4
    obtain ⟨u, x⟩ := u
    obtain ⟨e1, e2⟩ : u ≤ (l2.take n2).length ∧ Gr (fours (hdN h ((l.take n).map blkOf).length ++ ((l.take n).map blkOf).flatMap lst ++ [((l2.take n2).length : Int)] ++ ((l2.take n2).take u).flatMap slotN)) x.2.2.1 (24 + 8 * ((l.take n).map blkOf).length + 36 * u) x.2.2.2 := hu
    have h4n : ¬ u < n2 := fun hq => of_decide_eq_false h4 (Int.ofNat_lt.2 hq)
    have hu2 : u = (l2.take n2).length := by rw [tk_len hnl2] at e1 ⊢; omega
    rw [List.take_of_length_le (l := l2.take n2) (by omega)] at e2
    have hnn := tk_len hnl2
    have e3 : Gr (fours (nums h ((l.take n).map blkOf) (l2.take n2))) x.2.2.1 (24 + 8 * ((l.take n).map blkOf).length + 36 * u) x.2.2.2 := by unfold nums; exact e2
    exact fpre e3 (by omega)
  · rename_i b0 y1 hy1 y2 hy2 y3 hy3 y4 hy4 y5 hy5 v hv h3 w1 hw1 u hu h4 z hz
    obtain ⟨u, x⟩ := u
    obtain ⟨e1, e2⟩ : u ≤ (l2.take n2).length ∧ Gr (fours (hdN h ((l.take n).map blkOf).length ++ ((l.take n).map blkOf).flatMap lst ++ [((l2.take n2).length : Int)] ++ ((l2.take n2).take u).flatMap slotN)) x.2.2.1 (24 + 8 * ((l.take n).map blkOf).length + 36 * u) x.2.2.2 := hu
    have h4n : ¬ u < n2 := fun hq => of_decide_eq_false h4 (Int.ofNat_lt.2 hq)
    have hu2 : u = (l2.take n2).length := by rw [tk_len hnl2] at e1 ⊢; omega
    rw [List.take_of_length_le (l := l2.take n2) (by omega)] at e2
    have hnn := tk_len hnl2
    have e3 : Gr (fours (nums h ((l.take n).map blkOf) (l2.take n2))) x.2.2.1 (24 + 8 * ((l.take n).map blkOf).length + 36 * u) x.2.2.2 := by unfold nums; exact e2
    have hz : Gr (x.2.2.1.take (24 + 8 * ((l.take n).map blkOf).length + 36 * u) ++ four (crc (x.2.2.1.take (24 + 8 * ((l.take n).map blkOf).length + 36 * u)))) z.2.2.1 (24 + 8 * ((l.take n).map blkOf).length + 36 * u + 4) z.2.2.2 := hz
    rw [e3.2.1] at hz
    have hz : Gr (bytesP h ((l.take n).map blkOf) (l2.take n2)) z.2.2.1 (24 + 8 * ((l.take n).map blkOf).length + 36 * u + 4) z.2.2.2 := by unfold bytesP; exact hz
    have hlen := hz.1
    rw [hlen] at hz
    refine Ends.one z hz ?_
    ((conv => (arg 1; reduce)); with_reducible repeat' (first | exact Tr.yes_h | refine Tr.and_h ?_ ?_ | refine Tr.imp_h fun _ => ?_ | refine Tr.all_h fun _ => ?_ | refine Tr.lf_h ?_))
    all_goals (first | first | (show Region.lexB _ _ = true; kernel_rfl) | (show planned _ _ = true; kernel_rfl) | exact rfl | exact True.intro | ((try dsimp only [imp, C0, cG, cInt, cPl, cSlot, cPg, rwCodec, cRaw] at *); (try refine inR64 ?_ ?_) <;> (try simp only [List.length_set, List.length_append, List.length_take, List.length_drop]) <;> omega))
def fcPb : Fc Tryd.prog C0 where
  tg := .fn 15
  X := Hd × Sq (Rw Int) × Sq Slot
  args := fun (h, (o, b, q, l, n, c), (o2, b2, q2, l2, n2, c2)) => [ptv h (.sl 0 0 n c) (.sl 1 0 n2 c2)]
  mem := fun (h, (o, b, q, l, n, c), (o2, b2, q2, l2, n2, c2)) => [⟨b, q, 1, false, some o, .rows 71 l⟩, ⟨b2, q2, 9, false, some o2, .rows 74 l2⟩]
  pre := fun (h, (o, b, q, l, n, c), (o2, b2, q2, l2, n2, c2)) => Sq.ok (o, b, q, l, n, c) ∧ Sq.ok (o2, b2, q2, l2, n2, c2) ∧ (∀ r ∈ l.take n, Rok r ∧ r.l.length = 2) ∧ n ≤ 1000000 ∧ n2 ≤ 1000000
  alts := fun (h, (o, b, q, l, n, c), (o2, b2, q2, l2, n2, c2)) => [⟨Fx, fun y => Gr (bytesP h ((l.take n).map blkOf) (l2.take n2)) y.2.2.1 (bytesP h ((l.take n).map blkOf) (l2.take n2)).length y.2.2.2, fun y => .sl 2 0 (bytesP h ((l.take n).map blkOf) (l2.take n2)).length y.2.2.2,
      fun y => [⟨b, q, 1, false, some o, .rows 71 l⟩, ⟨b2, q2, 9, false, some o2, .rows 74 l2⟩, ⟨y.1, y.2.1, 1, true, none, .rows 5 y.2.2.1⟩]⟩]
  mat vs m := match vs with
    | [.agg [.int _ h1, .int _ h2, .int _ h3, .int _ h4, .sl a 0 n c, .sl a' 0 n' c']] => match nth m a, nth m a' with
      | ⟨b, q, _, _, g, .rows 71 l⟩, ⟨b', q', _, _, g', .rows 74 l'⟩ => some (((h1, h2, h3, h4), (onOf g, b, q, l, n, c), (onOf g', b', q', l', n', c')), [a, a'])
      | _, _ => none
    | _ => none
  ok := fun (h, (o, b, q, l, n, c), (o2, b2, q2, l2, n2, c2)) x => pbytes_ok h o b q l n c o2 b2 q2 l2 n2 c2 x.1 x.2.1 x.2.2.1 x.2.2.2.1 x.2.2.2.2
end Go.Vx
set_option linter.unusedSectionVars false
set_option maxRecDepth 100000
set_option linter.unusedVariables false
set_option linter.unusedSimpArgs false
namespace Go.Vx
open Go Go.Proofs
variable [Gl]

theorem by3 : Tryd.prog.types[3].bytes = 8 := by kernel_rfl
theorem isPt_cnt {bv : List Int} {h : Hd} {A : List Pl} {B : List Slot} (hp : IsPt bv h A B) (hl : bv.length < 4294967296) : (nsOf bv).getD 4 0 = (nB (nsOf bv) : Nat) ∧ (nsOf bv).getD (5 + 2 * nB (nsOf bv)) 0 = (nS (nsOf bv) : Nat) := by
  rw [(isPt_facts hp hl).2.1, nB_nums, nS_nums]
  have e1 : ∀ A : List Pl, (A.flatMap lst).length = 2 * A.length := by
    intro A
    induction A with
    | nil => rfl
    | cons x r ih => rw [List.flatMap_cons, List.length_append, ih]; simp [lst]; omega
  refine ⟨by unfold nums; rfl, ?_⟩
  unfold nums
  rw [List.getD_eq_getElem?_getD, List.append_assoc, List.getElem?_append_right (by simp [e1]; omega)]
  have : 5 + 2 * A.length - ([h.1, h.2.1, h.2.2.1, h.2.2.2, (A.length : Int)] ++ A.flatMap lst).length = 0 := by simp [e1]; omega
  rw [this]; rfl
theorem nB_of {R : List Int} (h6 : 6 ≤ R.length) (h0 : 0 ≤ R.getD 4 0) (h : R.getD 4 0 ≤ ((R.length : Int) - 6) / 2) : R.getD 4 0 = (nB R : Nat) ∧ 6 + 2 * nB R ≤ R.length := by
  have e : nB R = min (R.getD 4 0).toNat ((R.length - 3) / 2) := by unfold nB; rfl
  omega
theorem nS_of {R : List Int} (h6 : 6 + 2 * nB R ≤ R.length) (h0 : 0 ≤ R.getD (5 + 2 * nB R) 0) (h : 6 + 2 * (nB R : Int) + 9 * R.getD (5 + 2 * nB R) 0 = R.length) : R.getD (5 + 2 * nB R) 0 = (nS R : Nat) ∧ 6 + 2 * nB R + 9 * nS R = R.length := by
  have e : nS R = min (R.getD (5 + 2 * nB R) 0).toNat ((R.length + 9 - (6 + 2 * nB R)) / 9) := by unfold nS; rfl
  omega
def Ro5 (R : List Int) : Inv' C0 := ⟨5, Gx Int, fun x => [(5, .int .i64 (4 * (x.1 : Int))), (4, .sl 2 0 x.1 x.2.2.2.2.2)], fun x m => match m with
  | [a, rs] => [a, rs, ⟨x.2.2.1, x.2.2.2.1, 1, true, some x.2.1, .rows 3 x.2.2.2.2.1⟩]
  | m => m, fun x => x.1 ≤ R.length ∧ Grw (R.take x.1) x.2.2.2.2.1 x.2.1 x.1 x.2.2.2.2.2, fun x => R.length - x.1⟩
def Ro14 (R : List Int) : Inv' C0 := ⟨14, Gx (Rw Int), fun x => [(9, .int .i64 (x.1 : Int)), (8, .int .i64 (5 + 2 * (x.1 : Int)))], fun x m => match m with
  | [a, rs, y, p] => [a, rs, y, ⟨p.block, p.base, 6, true, none, .one (hdE (hdR R) (.sl 4 0 x.1 x.2.2.2.2.2) .nils)⟩, ⟨x.2.2.1, x.2.2.2.1, 1, true, some x.2.1, .rows 71 x.2.2.2.2.1⟩]
  | m => m, fun x => x.1 ≤ nB R ∧ Grw (x.2.2.2.2.1.take x.1) x.2.2.2.2.1 x.2.1 x.1 x.2.2.2.2.2 ∧ (x.2.2.2.2.1.take x.1).map (·.l) = (blks R x.1).map lst ∧ ∀ r ∈ x.2.2.2.2.1.take x.1, Rok r, fun x => nB R - x.1⟩
def Ro23 (R : List Int) : Inv' C0 := ⟨23, Gx Slot, fun x => [(11, .int .i64 (x.1 : Int)), (8, .int .i64 (6 + 2 * (nB R : Int) + 9 * (x.1 : Int)))], fun x m => match m with
  | [a, rs, y, p, bl] => match p.cells with
    | .one [_, _, _, _, sb, _] => [a, rs, y, ⟨p.block, p.base, 6, true, none, .one (hdE (hdR R) sb (.sl 5 0 x.1 x.2.2.2.2.2))⟩, bl, ⟨x.2.2.1, x.2.2.2.1, 9, true, some x.2.1, .rows 74 x.2.2.2.2.1⟩]
    | _ => m
  | m => m, fun x => x.1 ≤ nS R ∧ Grw (slts R x.1) x.2.2.2.2.1 x.2.1 x.1 x.2.2.2.2.2, fun x => nS R - x.1⟩
set_option maxHeartbeats 16000000 in
theorem ropen_ok (o : Bool) (b q : Nat) (l : List Int) (i n c : Nat) (h1 : n ≤ c) (h2 : i + c ≤ l.length) (h3 : n < 140737488355000) (ho : o = false → n = 0 ∧ c = 0) (hb : Bys ((l.drop i).take n)) (hn : n ≤ 1000000) :
    Does (C := C0) Tryd.prog (.fn 17) [⟨b, q, 1, false, some o, .rows 5 l⟩] [.sl 0 i n c]
    [⟨Unit, fun _ => ∀ h A B, ¬ IsPt ((l.drop i).take n) h A B, fun _ => .tup [ptv (0, 0, 0, 0) .nils .nils, .bool .f], fun _ => [⟨b, q, 1, false, some o, .rows 5 l⟩]⟩,
     ⟨Hd × (Bool × Nat × Nat × List (Rw Int) × Nat × Nat) × (Bool × Nat × Nat × List Slot × Nat × Nat), fun y => IsPt ((l.drop i).take n) y.1 ((y.2.1.2.2.2.1.take y.2.1.2.2.2.2.1).map blkOf) (y.2.2.2.2.2.1.take y.2.2.2.2.2.2.1) ∧ Sq.ok y.2.1 ∧ Sq.ok y.2.2 ∧ ∀ r ∈ y.2.1.2.2.2.1.take y.2.1.2.2.2.2.1, Rok r ∧ r.l.length = 2,
      fun y => .tup [ptv y.1 (.sl 1 0 y.2.1.2.2.2.2.1 y.2.1.2.2.2.2.2) (.sl 2 0 y.2.2.2.2.2.2.1 y.2.2.2.2.2.2.2), .bool .t],
      fun y => [⟨b, q, 1, false, some o, .rows 5 l⟩, ⟨y.2.1.2.1, y.2.1.2.2.1, 1, true, some y.2.1.1, .rows 71 y.2.1.2.2.2.1⟩, ⟨y.2.2.2.1, y.2.2.2.2.1, 9, true, some y.2.2.1, .rows 74 y.2.2.2.2.2.1⟩]⟩] := by
  have hbl : ((l.drop i).take n).length = n := rows_len (by omega)
  have hRl : (nsOf ((l.drop i).take n)).length = (n - 4) / 4 := by rw [nsOf_len, hbl]
  refine loc_fn (P := Tryd.prog) (E := ⟨[], [pcNum, pcRcrc, pcRpmay], 184, [(8, [2], [.p 0, .p 1, .p 2, .p 3, .p 4, .p 5, .p 6, .p 7, .p 8, .p 9, .p 10, .p 11, .p 12, .e 13, .e 14]),
    (16, [2, 3], [.p 0, .p 1, .p 2, .p 3, .p 4, .p 5, .p 6, .p 7, .p 8, .p 9, .p 10, .e 11, .e 12, .e 13, .p 14, .f 15]),
    (25, [2], [.p 0, .p 1, .p 2, .p 3, .p 4, .p 5, .p 6, .p 7, .p 8, .p 9, .p 10, .p 11, .p 12, .p 13, .p 14, .p 15, .e 16, .e 17]),
    (26, [2], [.p 0, .p 1, .p 2, .p 3, .p 4, .p 5, .p 6, .p 7, .p 8, .p 9, .p 10, .p 11, .p 12, .p 13, .p 14, .p 15, .p 16, .p 17, .p 18, .p 19, .p 20, .p 21, .p 22, .p 23, .p 24, .p 25, .p 26, .p 27, .p 28, .p 29, .p 30, .p 31, .e 32])], [], [wI]⟩)
    (L := [Ro5 (nsOf ((l.drop i).take n)), Ro14 (nsOf ((l.drop i).take n)), Ro23 (nsOf ((l.drop i).take n))]) mix Tryd.func17 rfl (by kernel_rfl) (by kernel_rfl) rfl rfl ?_
  ((conv => (arg 1; reduce)); with_reducible repeat' (first | exact Tr.yes_h | refine Tr.and_h ?_ ?_ | refine Tr.imp_h fun _ => ?_ | refine Tr.all_h fun _ => ?_ | refine Tr.lf_h ?_))
  all_goals try (first | first | (show Region.lexB _ _ = true; kernel_rfl) | (show planned _ _ = true; kernel_rfl) | exact rfl | exact True.intro | ((try dsimp only [imp, C0, cG, cInt, cPl, cSlot, cPg, rwCodec, cRaw] at *); (try refine inR64 ?_ ?_) <;> (try simp only [List.length_set, List.length_append, List.length_take, List.length_drop]) <;> omega))
  all_goals try (
    rename_i b0 h4 v hv h5
    have h4 : (decide ((n : Int) < 28) || decide ((n : Int).tmod 4 ≠ 0) || decide (nm l (((n : Int) - 4).toNat + i) ≠ crc ((l.drop i).take ((n : Int) - 4).toNat))) = false := h4
    rw [Int.tmod_eq_emod_of_nonneg (show (0 : Int) ≤ (n : Int) by omega)] at h4
    simp only [Bool.or_eq_false_iff, decide_eq_false_iff_not] at h4
    have h28 : 28 ≤ n := by omega
    have hm4 : n % 4 = 0 := by omega
    have e4 : ((n : Int) - 4).toNat = n - 4 := by omega
    obtain ⟨k, on, vb, vq, vl, vc⟩ := v
    obtain ⟨e1, e2⟩ : k ≤ (nsOf ((l.drop i).take n)).length ∧ Grw ((nsOf ((l.drop i).take n)).take k) vl on k vc := hv
    rw [hRl] at e1
    have h5 : ¬ 4 * (k : Int) + 4 < (n : Int) := of_decide_eq_false h5
    have hk : k = (n - 4) / 4 := by omega
    have hk4 : 4 * k = n - 4 := by omega
    have hg : ∀ t, t < k → vl.getD t 0 = (nsOf ((l.drop i).take n)).getD t 0 := by
      intro t ht
      rw [← tk_at (l := vl) (n := k) ht, e2.2.1, tk_at ht]
    have hon : on = true := on_of e2.2.2.2.2 (by omega)
    have hvl : k ≤ vl.length := Nat.le_trans e2.2.2.1 e2.2.2.2.1
    first | exact hon | ((try dsimp only); omega) | exact inR64 (by (try dsimp only); omega) (by (try dsimp only); omega))
  all_goals try (
    rename_i b0 h4 v hv h5 bp
    have h4 : (decide ((n : Int) < 28) || decide ((n : Int).tmod 4 ≠ 0) || decide (nm l (((n : Int) - 4).toNat + i) ≠ crc ((l.drop i).take ((n : Int) - 4).toNat))) = false := h4
    rw [Int.tmod_eq_emod_of_nonneg (show (0 : Int) ≤ (n : Int) by omega)] at h4
    simp only [Bool.or_eq_false_iff, decide_eq_false_iff_not] at h4
    have h28 : 28 ≤ n := by omega
    have hm4 : n % 4 = 0 := by omega
    have e4 : ((n : Int) - 4).toNat = n - 4 := by omega
    obtain ⟨k, on, vb, vq, vl, vc⟩ := v
    obtain ⟨e1, e2⟩ : k ≤ (nsOf ((l.drop i).take n)).length ∧ Grw ((nsOf ((l.drop i).take n)).take k) vl on k vc := hv
    rw [hRl] at e1
    have h5 : ¬ 4 * (k : Int) + 4 < (n : Int) := of_decide_eq_false h5
    have hk : k = (n - 4) / 4 := by omega
    have hk4 : 4 * k = n - 4 := by omega
    have hg : ∀ t, t < k → vl.getD t 0 = (nsOf ((l.drop i).take n)).getD t 0 := by
      intro t ht
      rw [← tk_at (l := vl) (n := k) ht, e2.2.1, tk_at ht]
    have hon : on = true := on_of e2.2.2.2.2 (by omega)
    have hvl : k ≤ vl.length := Nat.le_trans e2.2.2.1 e2.2.2.2.1
    first | exact hon | ((try dsimp only); omega) | exact inR64 (by (try dsimp only); omega) (by (try dsimp only); omega))
  all_goals try (
    rename_i b0 h4 v hv h5 bp h6 w hw h7
    have h4 : (decide ((n : Int) < 28) || decide ((n : Int).tmod 4 ≠ 0) || decide (nm l (((n : Int) - 4).toNat + i) ≠ crc ((l.drop i).take ((n : Int) - 4).toNat))) = false := h4
    rw [Int.tmod_eq_emod_of_nonneg (show (0 : Int) ≤ (n : Int) by omega)] at h4
    simp only [Bool.or_eq_false_iff, decide_eq_false_iff_not] at h4
    have h28 : 28 ≤ n := by omega
    have hm4 : n % 4 = 0 := by omega
    have e4 : ((n : Int) - 4).toNat = n - 4 := by omega
    obtain ⟨k, on, vb, vq, vl, vc⟩ := v
    obtain ⟨e1, e2⟩ : k ≤ (nsOf ((l.drop i).take n)).length ∧ Grw ((nsOf ((l.drop i).take n)).take k) vl on k vc := hv
    rw [hRl] at e1
    have h5 : ¬ 4 * (k : Int) + 4 < (n : Int) := of_decide_eq_false h5
    have hk : k = (n - 4) / 4 := by omega
    have hk4 : 4 * k = n - 4 := by omega
    have hg : ∀ t, t < k → vl.getD t 0 = (nsOf ((l.drop i).take n)).getD t 0 := by
      intro t ht
      rw [← tk_at (l := vl) (n := k) ht, e2.2.1, tk_at ht]
    have hon : on = true := on_of e2.2.2.2.2 (by omega)
    have hvl : k ≤ vl.length := Nat.le_trans e2.2.2.1 e2.2.2.2.1
    have htd : ((k : Int) - 6).tdiv 2 = ((k : Int) - 6) / 2 := Int.tdiv_eq_ediv_of_nonneg (by omega)
    have h6 : ¬ ((k : Int) - 6).tdiv 2 < vl.getD 4 0 := of_decide_eq_false h6
    rw [htd, hg 4 (by omega)] at h6
    have hu4 := ns_u32 (bv := ((l.drop i).take n)) hb 4
    obtain ⟨hB, hB2⟩ := nB_of (R := (nsOf ((l.drop i).take n))) (by rw [hRl]; omega) hu4.1 (by omega)
    obtain ⟨j, won, wb, wq, wl, wc⟩ := w
    obtain ⟨f1, f2, f3, f4⟩ : j ≤ nB (nsOf ((l.drop i).take n)) ∧ Grw (wl.take j) wl won j wc ∧ (wl.take j).map (·.l) = (blks (nsOf ((l.drop i).take n)) j).map lst ∧ ∀ r ∈ wl.take j, Rok r := hw
    have h7 : (j : Int) < vl.getD 4 0 := of_decide_eq_true h7
    rw [hg 4 (by omega), hB] at h7
    first | exact hon | ((try dsimp only); omega) | exact inR64 (by (try dsimp only); omega) (by (try dsimp only); omega))
  all_goals try (
    rename_i b0 h4 v hv h5 bp h6 w hw h7 bk bk2 b9 q9 sp cap m1 m2
    have h4 : (decide ((n : Int) < 28) || decide ((n : Int).tmod 4 ≠ 0) || decide (nm l (((n : Int) - 4).toNat + i) ≠ crc ((l.drop i).take ((n : Int) - 4).toNat))) = false := h4
    rw [Int.tmod_eq_emod_of_nonneg (show (0 : Int) ≤ (n : Int) by omega)] at h4
    simp only [Bool.or_eq_false_iff, decide_eq_false_iff_not] at h4
    have h28 : 28 ≤ n := by omega
    have hm4 : n % 4 = 0 := by omega
    have e4 : ((n : Int) - 4).toNat = n - 4 := by omega
    obtain ⟨k, on, vb, vq, vl, vc⟩ := v
    obtain ⟨e1, e2⟩ : k ≤ (nsOf ((l.drop i).take n)).length ∧ Grw ((nsOf ((l.drop i).take n)).take k) vl on k vc := hv
    rw [hRl] at e1
    have h5 : ¬ 4 * (k : Int) + 4 < (n : Int) := of_decide_eq_false h5
    have hk : k = (n - 4) / 4 := by omega
    have hk4 : 4 * k = n - 4 := by omega
    have hg : ∀ t, t < k → vl.getD t 0 = (nsOf ((l.drop i).take n)).getD t 0 := by
      intro t ht
      rw [← tk_at (l := vl) (n := k) ht, e2.2.1, tk_at ht]
    have hon : on = true := on_of e2.2.2.2.2 (by omega)
    have hvl : k ≤ vl.length := Nat.le_trans e2.2.2.1 e2.2.2.2.1
    have htd : ((k : Int) - 6).tdiv 2 = ((k : Int) - 6) / 2 := Int.tdiv_eq_ediv_of_nonneg (by omega)
    have h6 : ¬ ((k : Int) - 6).tdiv 2 < vl.getD 4 0 := of_decide_eq_false h6
    rw [htd, hg 4 (by omega)] at h6
    have hu4 := ns_u32 (bv := ((l.drop i).take n)) hb 4
    obtain ⟨hB, hB2⟩ := nB_of (R := (nsOf ((l.drop i).take n))) (by rw [hRl]; omega) hu4.1 (by omega)
    obtain ⟨j, won, wb, wq, wl, wc⟩ := w
    obtain ⟨f1, f2, f3, f4⟩ : j ≤ nB (nsOf ((l.drop i).take n)) ∧ Grw (wl.take j) wl won j wc ∧ (wl.take j).map (·.l) = (blks (nsOf ((l.drop i).take n)) j).map lst ∧ ∀ r ∈ wl.take j, Rok r := hw
    have h7 : (j : Int) < vl.getD 4 0 := of_decide_eq_true h7
    rw [hg 4 (by omega), hB] at h7
    first | exact hon | ((try dsimp only); omega) | exact inR64 (by (try dsimp only); omega) (by (try dsimp only); omega))
  all_goals try (
    rename_i b0 h4 v hv h5 bp h6 w hw h7
    have h4 : (decide ((n : Int) < 28) || decide ((n : Int).tmod 4 ≠ 0) || decide (nm l (((n : Int) - 4).toNat + i) ≠ crc ((l.drop i).take ((n : Int) - 4).toNat))) = false := h4
    rw [Int.tmod_eq_emod_of_nonneg (show (0 : Int) ≤ (n : Int) by omega)] at h4
    simp only [Bool.or_eq_false_iff, decide_eq_false_iff_not] at h4
    have h28 : 28 ≤ n := by omega
    have hm4 : n % 4 = 0 := by omega
    have e4 : ((n : Int) - 4).toNat = n - 4 := by omega
    obtain ⟨k, on, vb, vq, vl, vc⟩ := v
    obtain ⟨e1, e2⟩ : k ≤ (nsOf ((l.drop i).take n)).length ∧ Grw ((nsOf ((l.drop i).take n)).take k) vl on k vc := hv
    rw [hRl] at e1
    have h5 : ¬ 4 * (k : Int) + 4 < (n : Int) := of_decide_eq_false h5
    have hk : k = (n - 4) / 4 := by omega
    have hk4 : 4 * k = n - 4 := by omega
    have hg : ∀ t, t < k → vl.getD t 0 = (nsOf ((l.drop i).take n)).getD t 0 := by
      intro t ht
      rw [← tk_at (l := vl) (n := k) ht, e2.2.1, tk_at ht]
    have hon : on = true := on_of e2.2.2.2.2 (by omega)
    have hvl : k ≤ vl.length := Nat.le_trans e2.2.2.1 e2.2.2.2.1
    have htd : ((k : Int) - 6).tdiv 2 = ((k : Int) - 6) / 2 := Int.tdiv_eq_ediv_of_nonneg (by omega)
    have h6 : ¬ ((k : Int) - 6).tdiv 2 < vl.getD 4 0 := of_decide_eq_false h6
    rw [htd, hg 4 (by omega)] at h6
    have hu4 := ns_u32 (bv := ((l.drop i).take n)) hb 4
    obtain ⟨hB, hB2⟩ := nB_of (R := (nsOf ((l.drop i).take n))) (by rw [hRl]; omega) hu4.1 (by omega)
    obtain ⟨j, won, wb, wq, wl, wc⟩ := w
    obtain ⟨f1, f2, f3, f4⟩ : j ≤ nB (nsOf ((l.drop i).take n)) ∧ Grw (wl.take j) wl won j wc ∧ (wl.take j).map (·.l) = (blks (nsOf ((l.drop i).take n)) j).map lst ∧ ∀ r ∈ wl.take j, Rok r := hw
    have h7 : ¬ (j : Int) < vl.getD 4 0 := of_decide_eq_false h7
    rw [hg 4 (by omega), hB] at h7
    have hj : j = nB (nsOf ((l.drop i).take n)) := by omega
    first | exact hon | ((try dsimp only); omega) | exact inR64 (by (try dsimp only); omega) (by (try dsimp only); omega))
  all_goals try (
    rename_i b0 h4 v hv h5 bp h6 w hw h7 h8 u hu h9
    have h4 : (decide ((n : Int) < 28) || decide ((n : Int).tmod 4 ≠ 0) || decide (nm l (((n : Int) - 4).toNat + i) ≠ crc ((l.drop i).take ((n : Int) - 4).toNat))) = false := h4
    rw [Int.tmod_eq_emod_of_nonneg (show (0 : Int) ≤ (n : Int) by omega)] at h4
    simp only [Bool.or_eq_false_iff, decide_eq_false_iff_not] at h4
    have h28 : 28 ≤ n := by omega
    have hm4 : n % 4 = 0 := by omega
    have e4 : ((n : Int) - 4).toNat = n - 4 := by omega
    obtain ⟨k, on, vb, vq, vl, vc⟩ := v
    obtain ⟨e1, e2⟩ : k ≤ (nsOf ((l.drop i).take n)).length ∧ Grw ((nsOf ((l.drop i).take n)).take k) vl on k vc := hv
    rw [hRl] at e1
    have h5 : ¬ 4 * (k : Int) + 4 < (n : Int) := of_decide_eq_false h5
    have hk : k = (n - 4) / 4 := by omega
    have hk4 : 4 * k = n - 4 := by omega
    have hg : ∀ t, t < k → vl.getD t 0 = (nsOf ((l.drop i).take n)).getD t 0 := by
      intro t ht
      rw [← tk_at (l := vl) (n := k) ht, e2.2.1, tk_at ht]
    have hon : on = true := on_of e2.2.2.2.2 (by omega)
    have hvl : k ≤ vl.length := Nat.le_trans e2.2.2.1 e2.2.2.2.1
    have htd : ((k : Int) - 6).tdiv 2 = ((k : Int) - 6) / 2 := Int.tdiv_eq_ediv_of_nonneg (by omega)
    have h6 : ¬ ((k : Int) - 6).tdiv 2 < vl.getD 4 0 := of_decide_eq_false h6
    rw [htd, hg 4 (by omega)] at h6
    have hu4 := ns_u32 (bv := ((l.drop i).take n)) hb 4
    obtain ⟨hB, hB2⟩ := nB_of (R := (nsOf ((l.drop i).take n))) (by rw [hRl]; omega) hu4.1 (by omega)
    obtain ⟨j, won, wb, wq, wl, wc⟩ := w
    obtain ⟨f1, f2, f3, f4⟩ : j ≤ nB (nsOf ((l.drop i).take n)) ∧ Grw (wl.take j) wl won j wc ∧ (wl.take j).map (·.l) = (blks (nsOf ((l.drop i).take n)) j).map lst ∧ ∀ r ∈ wl.take j, Rok r := hw
    have h7 : ¬ (j : Int) < vl.getD 4 0 := of_decide_eq_false h7
    rw [hg 4 (by omega), hB] at h7
    have hj : j = nB (nsOf ((l.drop i).take n)) := by omega
    have ht9 : ((k : Int) - (5 + 2 * (j : Int) + 1)).tdiv 9 = ((k : Int) - (5 + 2 * (j : Int) + 1)) / 9 := Int.tdiv_eq_ediv_of_nonneg (by omega)
    have q1 : vl.getD ((5 + 2 * (j : Int)).toNat + 0) 0 = (nsOf ((l.drop i).take n)).getD (5 + 2 * nB (nsOf ((l.drop i).take n))) 0 := by rw [show (5 + 2 * (j : Int)).toNat + 0 = 5 + 2 * nB (nsOf ((l.drop i).take n)) by omega]; exact hg _ (by omega)
    have hu5 := ns_u32 (bv := ((l.drop i).take n)) hb (5 + 2 * nB (nsOf ((l.drop i).take n)))
    have h8 : (decide (((k : Int) - (5 + 2 * (j : Int) + 1)).tdiv 9 < vl.getD ((5 + 2 * (j : Int)).toNat + 0) 0) || decide (5 + 2 * (j : Int) + 1 + 9 * vl.getD ((5 + 2 * (j : Int)).toNat + 0) 0 ≠ (k : Int))) = false := h8
    rw [ht9, q1] at h8
    simp only [Bool.or_eq_false_iff, decide_eq_false_iff_not] at h8
    obtain ⟨hS, hS2⟩ := nS_of (R := (nsOf ((l.drop i).take n))) (by omega) hu5.1 (by omega)
    obtain ⟨s, uon, ub, uq, ul, uc⟩ := u
    obtain ⟨d1, d2⟩ : s ≤ nS (nsOf ((l.drop i).take n)) ∧ Grw (slts (nsOf ((l.drop i).take n)) s) ul uon s uc := hu
    have h9 : (s : Int) < vl.getD ((5 + 2 * (j : Int)).toNat + 0) 0 := of_decide_eq_true h9
    rw [q1, hS] at h9
    first | exact hon | ((try dsimp only); omega) | exact inR64 (by (try dsimp only); omega) (by (try dsimp only); omega))
  all_goals try (
    rename_i b0 h4 v hv h5 bp h6 w hw h7 h8 u hu h9 bs
    have h4 : (decide ((n : Int) < 28) || decide ((n : Int).tmod 4 ≠ 0) || decide (nm l (((n : Int) - 4).toNat + i) ≠ crc ((l.drop i).take ((n : Int) - 4).toNat))) = false := h4
    rw [Int.tmod_eq_emod_of_nonneg (show (0 : Int) ≤ (n : Int) by omega)] at h4
    simp only [Bool.or_eq_false_iff, decide_eq_false_iff_not] at h4
    have h28 : 28 ≤ n := by omega
    have hm4 : n % 4 = 0 := by omega
    have e4 : ((n : Int) - 4).toNat = n - 4 := by omega
    obtain ⟨k, on, vb, vq, vl, vc⟩ := v
    obtain ⟨e1, e2⟩ : k ≤ (nsOf ((l.drop i).take n)).length ∧ Grw ((nsOf ((l.drop i).take n)).take k) vl on k vc := hv
    rw [hRl] at e1
    have h5 : ¬ 4 * (k : Int) + 4 < (n : Int) := of_decide_eq_false h5
    have hk : k = (n - 4) / 4 := by omega
    have hk4 : 4 * k = n - 4 := by omega
    have hg : ∀ t, t < k → vl.getD t 0 = (nsOf ((l.drop i).take n)).getD t 0 := by
      intro t ht
      rw [← tk_at (l := vl) (n := k) ht, e2.2.1, tk_at ht]
    have hon : on = true := on_of e2.2.2.2.2 (by omega)
    have hvl : k ≤ vl.length := Nat.le_trans e2.2.2.1 e2.2.2.2.1
    have htd : ((k : Int) - 6).tdiv 2 = ((k : Int) - 6) / 2 := Int.tdiv_eq_ediv_of_nonneg (by omega)
    have h6 : ¬ ((k : Int) - 6).tdiv 2 < vl.getD 4 0 := of_decide_eq_false h6
    rw [htd, hg 4 (by omega)] at h6
    have hu4 := ns_u32 (bv := ((l.drop i).take n)) hb 4
    obtain ⟨hB, hB2⟩ := nB_of (R := (nsOf ((l.drop i).take n))) (by rw [hRl]; omega) hu4.1 (by omega)
    obtain ⟨j, won, wb, wq, wl, wc⟩ := w
    obtain ⟨f1, f2, f3, f4⟩ : j ≤ nB (nsOf ((l.drop i).take n)) ∧ Grw (wl.take j) wl won j wc ∧ (wl.take j).map (·.l) = (blks (nsOf ((l.drop i).take n)) j).map lst ∧ ∀ r ∈ wl.take j, Rok r := hw
    have h7 : ¬ (j : Int) < vl.getD 4 0 := of_decide_eq_false h7
    rw [hg 4 (by omega), hB] at h7
    have hj : j = nB (nsOf ((l.drop i).take n)) := by omega
    have ht9 : ((k : Int) - (5 + 2 * (j : Int) + 1)).tdiv 9 = ((k : Int) - (5 + 2 * (j : Int) + 1)) / 9 := Int.tdiv_eq_ediv_of_nonneg (by omega)
    have q1 : vl.getD ((5 + 2 * (j : Int)).toNat + 0) 0 = (nsOf ((l.drop i).take n)).getD (5 + 2 * nB (nsOf ((l.drop i).take n))) 0 := by rw [show (5 + 2 * (j : Int)).toNat + 0 = 5 + 2 * nB (nsOf ((l.drop i).take n)) by omega]; exact hg _ (by omega)
    have hu5 := ns_u32 (bv := ((l.drop i).take n)) hb (5 + 2 * nB (nsOf ((l.drop i).take n)))
    have h8 : (decide (((k : Int) - (5 + 2 * (j : Int) + 1)).tdiv 9 < vl.getD ((5 + 2 * (j : Int)).toNat + 0) 0) || decide (5 + 2 * (j : Int) + 1 + 9 * vl.getD ((5 + 2 * (j : Int)).toNat + 0) 0 ≠ (k : Int))) = false := h8
    rw [ht9, q1] at h8
    simp only [Bool.or_eq_false_iff, decide_eq_false_iff_not] at h8
    obtain ⟨hS, hS2⟩ := nS_of (R := (nsOf ((l.drop i).take n))) (by omega) hu5.1 (by omega)
    obtain ⟨s, uon, ub, uq, ul, uc⟩ := u
    obtain ⟨d1, d2⟩ : s ≤ nS (nsOf ((l.drop i).take n)) ∧ Grw (slts (nsOf ((l.drop i).take n)) s) ul uon s uc := hu
    have h9 : (s : Int) < vl.getD ((5 + 2 * (j : Int)).toNat + 0) 0 := of_decide_eq_true h9
    rw [q1, hS] at h9
    first | exact hon | ((try dsimp only); omega) | exact inR64 (by (try dsimp only); omega) (by (try dsimp only); omega))
  all_goals try (
    rename_i b0 h4 v hv h5 bp h6 w hw h7 h8 u hu h9 bs bk b9 q9 sp cap m1 m2
    have h4 : (decide ((n : Int) < 28) || decide ((n : Int).tmod 4 ≠ 0) || decide (nm l (((n : Int) - 4).toNat + i) ≠ crc ((l.drop i).take ((n : Int) - 4).toNat))) = false := h4
    rw [Int.tmod_eq_emod_of_nonneg (show (0 : Int) ≤ (n : Int) by omega)] at h4
    simp only [Bool.or_eq_false_iff, decide_eq_false_iff_not] at h4
    have h28 : 28 ≤ n := by omega
    have hm4 : n % 4 = 0 := by omega
    have e4 : ((n : Int) - 4).toNat = n - 4 := by omega
    obtain ⟨k, on, vb, vq, vl, vc⟩ := v
    obtain ⟨e1, e2⟩ : k ≤ (nsOf ((l.drop i).take n)).length ∧ Grw ((nsOf ((l.drop i).take n)).take k) vl on k vc := hv
    rw [hRl] at e1
    have h5 : ¬ 4 * (k : Int) + 4 < (n : Int) := of_decide_eq_false h5
    have hk : k = (n - 4) / 4 := by omega
    have hk4 : 4 * k = n - 4 := by omega
    have hg : ∀ t, t < k → vl.getD t 0 = (nsOf ((l.drop i).take n)).getD t 0 := by
      intro t ht
      rw [← tk_at (l := vl) (n := k) ht, e2.2.1, tk_at ht]
    have hon : on = true := on_of e2.2.2.2.2 (by omega)
    have hvl : k ≤ vl.length := Nat.le_trans e2.2.2.1 e2.2.2.2.1
    have htd : ((k : Int) - 6).tdiv 2 = ((k : Int) - 6) / 2 := Int.tdiv_eq_ediv_of_nonneg (by omega)
    have h6 : ¬ ((k : Int) - 6).tdiv 2 < vl.getD 4 0 := of_decide_eq_false h6
    rw [htd, hg 4 (by omega)] at h6
    have hu4 := ns_u32 (bv := ((l.drop i).take n)) hb 4
    obtain ⟨hB, hB2⟩ := nB_of (R := (nsOf ((l.drop i).take n))) (by rw [hRl]; omega) hu4.1 (by omega)
    obtain ⟨j, won, wb, wq, wl, wc⟩ := w
    obtain ⟨f1, f2, f3, f4⟩ : j ≤ nB (nsOf ((l.drop i).take n)) ∧ Grw (wl.take j) wl won j wc ∧ (wl.take j).map (·.l) = (blks (nsOf ((l.drop i).take n)) j).map lst ∧ ∀ r ∈ wl.take j, Rok r := hw
    have h7 : ¬ (j : Int) < vl.getD 4 0 := of_decide_eq_false h7
    rw [hg 4 (by omega), hB] at h7
    have hj : j = nB (nsOf ((l.drop i).take n)) := by omega
    have ht9 : ((k : Int) - (5 + 2 * (j : Int) + 1)).tdiv 9 = ((k : Int) - (5 + 2 * (j : Int) + 1)) / 9 := Int.tdiv_eq_ediv_of_nonneg (by omega)
    have q1 : vl.getD ((5 + 2 * (j : Int)).toNat + 0) 0 = (nsOf ((l.drop i).take n)).getD (5 + 2 * nB (nsOf ((l.drop i).take n))) 0 := by rw [show (5 + 2 * (j : Int)).toNat + 0 = 5 + 2 * nB (nsOf ((l.drop i).take n)) by omega]; exact hg _ (by omega)
    have hu5 := ns_u32 (bv := ((l.drop i).take n)) hb (5 + 2 * nB (nsOf ((l.drop i).take n)))
    have h8 : (decide (((k : Int) - (5 + 2 * (j : Int) + 1)).tdiv 9 < vl.getD ((5 + 2 * (j : Int)).toNat + 0) 0) || decide (5 + 2 * (j : Int) + 1 + 9 * vl.getD ((5 + 2 * (j : Int)).toNat + 0) 0 ≠ (k : Int))) = false := h8
    rw [ht9, q1] at h8
    simp only [Bool.or_eq_false_iff, decide_eq_false_iff_not] at h8
    obtain ⟨hS, hS2⟩ := nS_of (R := (nsOf ((l.drop i).take n))) (by omega) hu5.1 (by omega)
    obtain ⟨s, uon, ub, uq, ul, uc⟩ := u
    obtain ⟨d1, d2⟩ : s ≤ nS (nsOf ((l.drop i).take n)) ∧ Grw (slts (nsOf ((l.drop i).take n)) s) ul uon s uc := hu
    have h9 : (s : Int) < vl.getD ((5 + 2 * (j : Int)).toNat + 0) 0 := of_decide_eq_true h9
    rw [q1, hS] at h9
    first | exact hon | ((try dsimp only); omega) | exact inR64 (by (try dsimp only); omega) (by (try dsimp only); omega))
  · rename_i b0 h4
    have h4 : (decide ((n : Int) < 28) || decide ((n : Int).tmod 4 ≠ 0)) = false := h4
    rw [Int.tmod_eq_emod_of_nonneg (show (0 : Int) ≤ (n : Int) by omega)] at h4
    simp only [Bool.or_eq_false_iff, decide_eq_false_iff_not] at h4
    have h28 : 28 ≤ n := by omega
    have e4 : ((n : Int) - 4).toNat = n - 4 := by omega
    exact ⟨by omega, ⟨by omega, by omega⟩, h3, ho, hb⟩
  · rename_i b0 h4
    have h4 : (decide ((n : Int) < 28) || decide ((n : Int).tmod 4 ≠ 0)) = false := h4
    rw [Int.tmod_eq_emod_of_nonneg (show (0 : Int) ≤ (n : Int) by omega)] at h4
    simp only [Bool.or_eq_false_iff, decide_eq_false_iff_not] at h4
    have h28 : 28 ≤ n := by omega
    have e4 : ((n : Int) - 4).toNat = n - 4 := by omega
    omega
  · rename_i b0 h4
    have h4 : (decide ((n : Int) < 28) || decide ((n : Int).tmod 4 ≠ 0)) = false := h4
    rw [Int.tmod_eq_emod_of_nonneg (show (0 : Int) ≤ (n : Int) by omega)] at h4
    simp only [Bool.or_eq_false_iff, decide_eq_false_iff_not] at h4
    have h28 : 28 ≤ n := by omega
    have e4 : ((n : Int) - 4).toNat = n - 4 := by omega
    rw [e4]
    exact ⟨by show i + (n - 4) ≤ l.length; omega, by show n - 4 < 4611686018427387904; omega, fun h => ⟨by have := (ho h).1; omega, (ho h).2⟩⟩
  · rename_i b0 h4
    have h4 : (decide ((n : Int) < 28) || decide ((n : Int).tmod 4 ≠ 0) || decide (nm l (((n : Int) - 4).toNat + i) ≠ crc ((l.drop i).take ((n : Int) - 4).toNat))) = true := h4
    rw [Int.tmod_eq_emod_of_nonneg (show (0 : Int) ≤ (n : Int) by omega)] at h4
    refine Ends.one () (fun h A B hp => ?_) ?_
    · obtain ⟨f1, f2, f3, f4, f5, f6⟩ := isPt_facts hp (by rw [hbl]; omega)
      rw [hbl] at f1 f3 f5
      have e4 : ((n : Int) - 4).toNat = n - 4 := by omega
      have hnm : nm l ((n - 4) + i) = nm ((l.drop i).take n) (n - 4) := by
        rw [nm_take _ (by omega), nm_drop, Nat.add_comm]
      have hcr : (l.drop i).take (n - 4) = ((l.drop i).take n).take (n - 4) := by rw [List.take_take]; congr 1; omega
      rw [e4, hnm, hcr, f3] at h4
      have : (n : Int) % 4 = 0 := by omega
      simp [this] at h4
      omega
    ((conv => (arg 1; reduce)); with_reducible repeat' (first | exact Tr.yes_h | refine Tr.and_h ?_ ?_ | refine Tr.imp_h fun _ => ?_ | refine Tr.all_h fun _ => ?_ | refine Tr.lf_h ?_))
    all_goals (first | first | (show Region.lexB _ _ = true; kernel_rfl) | (show planned _ _ = true; kernel_rfl) | exact rfl | exact True.intro | ((try dsimp only [imp, C0, cG, cInt, cPl, cSlot, cPg, rwCodec, cRaw] at *); (try refine inR64 ?_ ?_) <;> (try simp only [List.length_set, List.length_append, List.length_take, List.length_drop]) <;> omega))
  · rename_i b0 h4
    have h4 : (decide ((n : Int) < 28) || decide ((n : Int).tmod 4 ≠ 0) || decide (nm l (((n : Int) - 4).toNat + i) ≠ crc ((l.drop i).take ((n : Int) - 4).toNat))) = false := h4
    rw [Int.tmod_eq_emod_of_nonneg (show (0 : Int) ≤ (n : Int) by omega)] at h4
    simp only [Bool.or_eq_false_iff, decide_eq_false_iff_not] at h4
    have h28 : 28 ≤ n := by omega
    have hm4 : n % 4 = 0 := by omega
    have e4 : ((n : Int) - 4).toNat = n - 4 := by omega
    refine Stands.one (0, false, 0, 0, [], 0) ⟨⟨Nat.zero_le _, rfl, rfl, Nat.le_refl _, Nat.le_refl _, fun _ => ⟨rfl, rfl⟩⟩, ?_⟩
    ((conv => (arg 1; reduce)); with_reducible repeat' (first | exact Tr.yes_h | refine Tr.and_h ?_ ?_ | refine Tr.imp_h fun _ => ?_ | refine Tr.all_h fun _ => ?_ | refine Tr.lf_h ?_))
    all_goals (first | first | (show Region.lexB _ _ = true; kernel_rfl) | (show planned _ _ = true; kernel_rfl) | exact rfl | exact True.intro | ((try dsimp only [imp, C0, cG, cInt, cPl, cSlot, cPg, rwCodec, cRaw] at *); (try refine inR64 ?_ ?_) <;> (try simp only [List.length_set, List.length_append, List.length_take, List.length_drop]) <;> omega))
  · rename_i b0 h4 v hv
    have h4 : (decide ((n : Int) < 28) || decide ((n : Int).tmod 4 ≠ 0) || decide (nm l (((n : Int) - 4).toNat + i) ≠ crc ((l.drop i).take ((n : Int) - 4).toNat))) = false := h4
    rw [Int.tmod_eq_emod_of_nonneg (show (0 : Int) ≤ (n : Int) by omega)] at h4
    simp only [Bool.or_eq_false_iff, decide_eq_false_iff_not] at h4
    have h28 : 28 ≤ n := by omega
    have hm4 : n % 4 = 0 := by omega
    have e4 : ((n : Int) - 4).toNat = n - 4 := by omega
    obtain ⟨k, on, vb, vq, vl, vc⟩ := v
    obtain ⟨e1, e2⟩ : k ≤ (nsOf ((l.drop i).take n)).length ∧ Grw ((nsOf ((l.drop i).take n)).take k) vl on k vc := hv
    rw [hRl] at e1
    exact inR64 (by show _ ≤ 4 * (k : Int) + 4; omega) (by show 4 * (k : Int) + 4 ≤ _; omega)
  · rename_i b0 h4 v hv h5
    have h4 : (decide ((n : Int) < 28) || decide ((n : Int).tmod 4 ≠ 0) || decide (nm l (((n : Int) - 4).toNat + i) ≠ crc ((l.drop i).take ((n : Int) - 4).toNat))) = false := h4
    rw [Int.tmod_eq_emod_of_nonneg (show (0 : Int) ≤ (n : Int) by omega)] at h4
    simp only [Bool.or_eq_false_iff, decide_eq_false_iff_not] at h4
    have h28 : 28 ≤ n := by omega
    have hm4 : n % 4 = 0 := by omega
    have e4 : ((n : Int) - 4).toNat = n - 4 := by omega
    obtain ⟨k, on, vb, vq, vl, vc⟩ := v
    obtain ⟨e1, e2⟩ : k ≤ (nsOf ((l.drop i).take n)).length ∧ Grw ((nsOf ((l.drop i).take n)).take k) vl on k vc := hv
    rw [hRl] at e1
    have h5 : 4 * (k : Int) + 4 < (n : Int) := of_decide_eq_true h5
    exact ⟨by omega, ⟨by show (0 : Int) ≤ 4 * (k : Int); omega, by show 4 * (k : Int) + 4 ≤ (n : Int); omega⟩, h3, ho, hb⟩
  · rename_i b0 h4 v hv h5 bk
    have h4 : (decide ((n : Int) < 28) || decide ((n : Int).tmod 4 ≠ 0) || decide (nm l (((n : Int) - 4).toNat + i) ≠ crc ((l.drop i).take ((n : Int) - 4).toNat))) = false := h4
    rw [Int.tmod_eq_emod_of_nonneg (show (0 : Int) ≤ (n : Int) by omega)] at h4
    simp only [Bool.or_eq_false_iff, decide_eq_false_iff_not] at h4
    have h28 : 28 ≤ n := by omega
    have hm4 : n % 4 = 0 := by omega
    have e4 : ((n : Int) - 4).toNat = n - 4 := by omega
    obtain ⟨k, on, vb, vq, vl, vc⟩ := v
    obtain ⟨e1, e2⟩ : k ≤ (nsOf ((l.drop i).take n)).length ∧ Grw ((nsOf ((l.drop i).take n)).take k) vl on k vc := hv
    rw [hRl] at e1
    have h5 : 4 * (k : Int) + 4 < (n : Int) := of_decide_eq_true h5
    obtain ⟨k1, k2, k3, k4, k5⟩ := e2
    rw [by3]
    exact ⟨k3, by show 0 + vc ≤ vl.length; omega, Nat.le_refl 1, by show (k + 1) * 8 ≤ _; omega⟩
  · rename_i b0 h4 v hv h5 bk
    have h4 : (decide ((n : Int) < 28) || decide ((n : Int).tmod 4 ≠ 0) || decide (nm l (((n : Int) - 4).toNat + i) ≠ crc ((l.drop i).take ((n : Int) - 4).toNat))) = false := h4
    rw [Int.tmod_eq_emod_of_nonneg (show (0 : Int) ≤ (n : Int) by omega)] at h4
    simp only [Bool.or_eq_false_iff, decide_eq_false_iff_not] at h4
    have h28 : 28 ≤ n := by omega
    have hm4 : n % 4 = 0 := by omega
    have e4 : ((n : Int) - 4).toNat = n - 4 := by omega
    obtain ⟨k, on, vb, vq, vl, vc⟩ := v
    obtain ⟨e1, e2⟩ : k ≤ (nsOf ((l.drop i).take n)).length ∧ Grw ((nsOf ((l.drop i).take n)).take k) vl on k vc := hv
    rw [hRl] at e1
    have h5 : 4 * (k : Int) + 4 < (n : Int) := of_decide_eq_true h5
    exact e2.2.2.2.2
  · rename_i b0 h4 v hv h5 bk b9 q9 sp cap m1 m2
    have h4 : (decide ((n : Int) < 28) || decide ((n : Int).tmod 4 ≠ 0) || decide (nm l (((n : Int) - 4).toNat + i) ≠ crc ((l.drop i).take ((n : Int) - 4).toNat))) = false := h4
    rw [Int.tmod_eq_emod_of_nonneg (show (0 : Int) ≤ (n : Int) by omega)] at h4
    simp only [Bool.or_eq_false_iff, decide_eq_false_iff_not] at h4
    have h28 : 28 ≤ n := by omega
    have hm4 : n % 4 = 0 := by omega
    have e4 : ((n : Int) - 4).toNat = n - 4 := by omega
    obtain ⟨k, on, vb, vq, vl, vc⟩ := v
    obtain ⟨e1, e2⟩ : k ≤ (nsOf ((l.drop i).take n)).length ∧ Grw ((nsOf ((l.drop i).take n)).take k) vl on k vc := hv
    rw [hRl] at e1
    have h5 : 4 * (k : Int) + 4 < (n : Int) := of_decide_eq_true h5
    exact inR64 (by show _ ≤ 4 * (k : Int) + 4; omega) (by show 4 * (k : Int) + 4 ≤ _; omega)
  · rename_i b0 h4 v hv h5 bk b9 q9 sp cap m1 m2
    have h4 : (decide ((n : Int) < 28) || decide ((n : Int).tmod 4 ≠ 0) || decide (nm l (((n : Int) - 4).toNat + i) ≠ crc ((l.drop i).take ((n : Int) - 4).toNat))) = false := h4
    rw [Int.tmod_eq_emod_of_nonneg (show (0 : Int) ≤ (n : Int) by omega)] at h4
    simp only [Bool.or_eq_false_iff, decide_eq_false_iff_not] at h4
    have h28 : 28 ≤ n := by omega
    have hm4 : n % 4 = 0 := by omega
    have e4 : ((n : Int) - 4).toNat = n - 4 := by omega
    obtain ⟨k, on, vb, vq, vl, vc⟩ := v
    obtain ⟨e1, e2⟩ : k ≤ (nsOf ((l.drop i).take n)).length ∧ Grw ((nsOf ((l.drop i).take n)).take k) vl on k vc := hv
    rw [hRl] at e1
    have h5 : 4 * (k : Int) + 4 < (n : Int) := of_decide_eq_true h5
    have hkM : k < (n - 4) / 4 := by omega
    have hval : nm l ((4 * (k : Int)).toNat + i) = (nsOf ((l.drop i).take n)).getD k 0 := by
      rw [show (4 * (k : Int)).toNat + i = i + 4 * k by omega, ← nm_drop]
      unfold nsOf
      rw [hbl, rdN_get _ hkM, nm_take _ (by omega), nm_take _ (by omega)]
    have e3 := e2.app (x := (nsOf ((l.drop i).take n)).getD k 0) (sp := sp) m1 m2
    refine Stands.one (k + 1, true, b9, q9, vl.take k ++ [(nsOf ((l.drop i).take n)).getD k 0] ++ sp, cap) ⟨⟨by rw [hRl]; exact hkM, ?_⟩, ?_, ?_⟩
    · show Grw ((nsOf ((l.drop i).take n)).take (k + 1)) _ _ _ _
      rw [take_snoc (d := 0) (by rw [hRl]; exact hkM)]
      exact e3
    · show (nsOf ((l.drop i).take n)).length - (k + 1) < (nsOf ((l.drop i).take n)).length - k
      rw [hRl]; omega
    ((conv => (arg 1; reduce)); with_reducible repeat' (first | exact Tr.yes_h | refine Tr.and_h ?_ ?_ | refine Tr.imp_h fun _ => ?_ | refine Tr.all_h fun _ => ?_ | refine Tr.lf_h ?_))
    all_goals first | (first | first | (show Region.lexB _ _ = true; kernel_rfl) | (show planned _ _ = true; kernel_rfl) | exact rfl | exact True.intro | ((try dsimp only [imp, C0, cG, cInt, cPl, cSlot, cPg, rwCodec, cRaw] at *); (try refine inR64 ?_ ?_) <;> (try simp only [List.length_set, List.length_append, List.length_take, List.length_drop]) <;> omega)) | (rw [← hval]; rfl)
  · rename_i b0 h4 v hv h5 bp
    have h4 : (decide ((n : Int) < 28) || decide ((n : Int).tmod 4 ≠ 0) || decide (nm l (((n : Int) - 4).toNat + i) ≠ crc ((l.drop i).take ((n : Int) - 4).toNat))) = false := h4
    rw [Int.tmod_eq_emod_of_nonneg (show (0 : Int) ≤ (n : Int) by omega)] at h4
    simp only [Bool.or_eq_false_iff, decide_eq_false_iff_not] at h4
    have h28 : 28 ≤ n := by omega
    have hm4 : n % 4 = 0 := by omega
    have e4 : ((n : Int) - 4).toNat = n - 4 := by omega
    obtain ⟨k, on, vb, vq, vl, vc⟩ := v
    obtain ⟨e1, e2⟩ : k ≤ (nsOf ((l.drop i).take n)).length ∧ Grw ((nsOf ((l.drop i).take n)).take k) vl on k vc := hv
    rw [hRl] at e1
    have h5 : ¬ 4 * (k : Int) + 4 < (n : Int) := of_decide_eq_false h5
    have hk : k = (n - 4) / 4 := by omega
    have hk4 : 4 * k = n - 4 := by omega
    have hg : ∀ t, t < k → vl.getD t 0 = (nsOf ((l.drop i).take n)).getD t 0 := by
      intro t ht
      rw [← tk_at (l := vl) (n := k) ht, e2.2.1, tk_at ht]
    have hon : on = true := on_of e2.2.2.2.2 (by omega)
    have hvl : k ≤ vl.length := Nat.le_trans e2.2.2.1 e2.2.2.2.1
    have htd : ((k : Int) - 6).tdiv 2 = ((k : Int) - 6) / 2 := Int.tdiv_eq_ediv_of_nonneg (by omega)
    rw [show ((k, on, vb, vq, vl, vc) : Gx Int).1 = k from rfl, htd]
    exact inR64 (by omega) (by omega)
  · rename_i b0 h4 v hv h5 bp h6
    have h4 : (decide ((n : Int) < 28) || decide ((n : Int).tmod 4 ≠ 0) || decide (nm l (((n : Int) - 4).toNat + i) ≠ crc ((l.drop i).take ((n : Int) - 4).toNat))) = false := h4
    rw [Int.tmod_eq_emod_of_nonneg (show (0 : Int) ≤ (n : Int) by omega)] at h4
    simp only [Bool.or_eq_false_iff, decide_eq_false_iff_not] at h4
    have h28 : 28 ≤ n := by omega
    have hm4 : n % 4 = 0 := by omega
    have e4 : ((n : Int) - 4).toNat = n - 4 := by omega
    obtain ⟨k, on, vb, vq, vl, vc⟩ := v
    obtain ⟨e1, e2⟩ : k ≤ (nsOf ((l.drop i).take n)).length ∧ Grw ((nsOf ((l.drop i).take n)).take k) vl on k vc := hv
    rw [hRl] at e1
    have h5 : ¬ 4 * (k : Int) + 4 < (n : Int) := of_decide_eq_false h5
    have hk : k = (n - 4) / 4 := by omega
    have hk4 : 4 * k = n - 4 := by omega
    have hg : ∀ t, t < k → vl.getD t 0 = (nsOf ((l.drop i).take n)).getD t 0 := by
      intro t ht
      rw [← tk_at (l := vl) (n := k) ht, e2.2.1, tk_at ht]
    have hon : on = true := on_of e2.2.2.2.2 (by omega)
    have hvl : k ≤ vl.length := Nat.le_trans e2.2.2.1 e2.2.2.2.1
    have htd : ((k : Int) - 6).tdiv 2 = ((k : Int) - 6) / 2 := Int.tdiv_eq_ediv_of_nonneg (by omega)
    have h6 :  ((k : Int) - 6).tdiv 2 < vl.getD 4 0 := of_decide_eq_true h6
    rw [htd, hg 4 (by omega)] at h6
    have hu4 := ns_u32 (bv := ((l.drop i).take n)) hb 4
    refine Ends.one () (fun h A B hp => ?_) ?_
    · obtain ⟨f1, f2, f3, f4, f5, f6⟩ := isPt_facts hp (by rw [hbl]; omega)
      have hc := (isPt_cnt hp (by rw [hbl]; omega)).1
      omega
    ((conv => (arg 1; reduce)); with_reducible repeat' (first | exact Tr.yes_h | refine Tr.and_h ?_ ?_ | refine Tr.imp_h fun _ => ?_ | refine Tr.all_h fun _ => ?_ | refine Tr.lf_h ?_))
    all_goals (first | first | (show Region.lexB _ _ = true; kernel_rfl) | (show planned _ _ = true; kernel_rfl) | exact rfl | exact True.intro | ((try dsimp only [imp, C0, cG, cInt, cPl, cSlot, cPg, rwCodec, cRaw] at *); (try refine inR64 ?_ ?_) <;> (try simp only [List.length_set, List.length_append, List.length_take, List.length_drop]) <;> omega))
  · rename_i b0 h4 v hv h5 bp h6
    have h4 : (decide ((n : Int) < 28) || decide ((n : Int).tmod 4 ≠ 0) || decide (nm l (((n : Int) - 4).toNat + i) ≠ crc ((l.drop i).take ((n : Int) - 4).toNat))) = false := h4
    rw [Int.tmod_eq_emod_of_nonneg (show (0 : Int) ≤ (n : Int) by omega)] at h4
    simp only [Bool.or_eq_false_iff, decide_eq_false_iff_not] at h4
    have h28 : 28 ≤ n := by omega
    have hm4 : n % 4 = 0 := by omega
    have e4 : ((n : Int) - 4).toNat = n - 4 := by omega
    obtain ⟨k, on, vb, vq, vl, vc⟩ := v
    obtain ⟨e1, e2⟩ : k ≤ (nsOf ((l.drop i).take n)).length ∧ Grw ((nsOf ((l.drop i).take n)).take k) vl on k vc := hv
    rw [hRl] at e1
    have h5 : ¬ 4 * (k : Int) + 4 < (n : Int) := of_decide_eq_false h5
    have hk : k = (n - 4) / 4 := by omega
    have hk4 : 4 * k = n - 4 := by omega
    have hg : ∀ t, t < k → vl.getD t 0 = (nsOf ((l.drop i).take n)).getD t 0 := by
      intro t ht
      rw [← tk_at (l := vl) (n := k) ht, e2.2.1, tk_at ht]
    have hon : on = true := on_of e2.2.2.2.2 (by omega)
    have hvl : k ≤ vl.length := Nat.le_trans e2.2.2.1 e2.2.2.2.1
    have htd : ((k : Int) - 6).tdiv 2 = ((k : Int) - 6) / 2 := Int.tdiv_eq_ediv_of_nonneg (by omega)
    have h6 : ¬ ((k : Int) - 6).tdiv 2 < vl.getD 4 0 := of_decide_eq_false h6
    rw [htd, hg 4 (by omega)] at h6
    have hu4 := ns_u32 (bv := ((l.drop i).take n)) hb 4
    obtain ⟨hB, hB2⟩ := nB_of (R := (nsOf ((l.drop i).take n))) (by rw [hRl]; omega) hu4.1 (by omega)
    refine Stands.one (0, false, 0, 0, [], 0) ⟨⟨Nat.zero_le _, ⟨rfl, rfl, Nat.le_refl _, Nat.le_refl _, fun _ => ⟨rfl, rfl⟩⟩, by rw [blks_zero]; rfl, by intro r hr; cases hr⟩, ?_⟩
    have g0 := hg 0 (by omega)
    have g1 := hg 1 (by omega)
    have g2 := hg 2 (by omega)
    have g3 := hg 3 (by omega)
    ((conv => (arg 1; reduce)); with_reducible repeat' (first | exact Tr.yes_h | refine Tr.and_h ?_ ?_ | refine Tr.imp_h fun _ => ?_ | refine Tr.all_h fun _ => ?_ | refine Tr.lf_h ?_))
    all_goals first | (first | first | (show Region.lexB _ _ = true; kernel_rfl) | (show planned _ _ = true; kernel_rfl) | exact rfl | exact True.intro | ((try dsimp only [imp, C0, cG, cInt, cPl, cSlot, cPg, rwCodec, cRaw] at *); (try refine inR64 ?_ ?_) <;> (try simp only [List.length_set, List.length_append, List.length_take, List.length_drop]) <;> omega)) | exact g0.symm | exact g1.symm | exact g2.symm | exact g3.symm
  · exact Nat.le_refl 2
  · rename_i b0 h4 v hv h5 bp h6 w hw h7 bk bk2
    have h4 : (decide ((n : Int) < 28) || decide ((n : Int).tmod 4 ≠ 0) || decide (nm l (((n : Int) - 4).toNat + i) ≠ crc ((l.drop i).take ((n : Int) - 4).toNat))) = false := h4
    rw [Int.tmod_eq_emod_of_nonneg (show (0 : Int) ≤ (n : Int) by omega)] at h4
    simp only [Bool.or_eq_false_iff, decide_eq_false_iff_not] at h4
    have h28 : 28 ≤ n := by omega
    have hm4 : n % 4 = 0 := by omega
    have e4 : ((n : Int) - 4).toNat = n - 4 := by omega
    obtain ⟨k, on, vb, vq, vl, vc⟩ := v
    obtain ⟨e1, e2⟩ : k ≤ (nsOf ((l.drop i).take n)).length ∧ Grw ((nsOf ((l.drop i).take n)).take k) vl on k vc := hv
    rw [hRl] at e1
    have h5 : ¬ 4 * (k : Int) + 4 < (n : Int) := of_decide_eq_false h5
    have hk : k = (n - 4) / 4 := by omega
    have hk4 : 4 * k = n - 4 := by omega
    have hg : ∀ t, t < k → vl.getD t 0 = (nsOf ((l.drop i).take n)).getD t 0 := by
      intro t ht
      rw [← tk_at (l := vl) (n := k) ht, e2.2.1, tk_at ht]
    have hon : on = true := on_of e2.2.2.2.2 (by omega)
    have hvl : k ≤ vl.length := Nat.le_trans e2.2.2.1 e2.2.2.2.1
    have htd : ((k : Int) - 6).tdiv 2 = ((k : Int) - 6) / 2 := Int.tdiv_eq_ediv_of_nonneg (by omega)
    have h6 : ¬ ((k : Int) - 6).tdiv 2 < vl.getD 4 0 := of_decide_eq_false h6
    rw [htd, hg 4 (by omega)] at h6
    have hu4 := ns_u32 (bv := ((l.drop i).take n)) hb 4
    obtain ⟨hB, hB2⟩ := nB_of (R := (nsOf ((l.drop i).take n))) (by rw [hRl]; omega) hu4.1 (by omega)
    obtain ⟨j, won, wb, wq, wl, wc⟩ := w
    obtain ⟨f1, f2, f3, f4⟩ : j ≤ nB (nsOf ((l.drop i).take n)) ∧ Grw (wl.take j) wl won j wc ∧ (wl.take j).map (·.l) = (blks (nsOf ((l.drop i).take n)) j).map lst ∧ ∀ r ∈ wl.take j, Rok r := hw
    have h7 : (j : Int) < vl.getD 4 0 := of_decide_eq_true h7
    rw [hg 4 (by omega), hB] at h7
    obtain ⟨k1, k2, k3, k4, k5⟩ := f2
    rw [by71]
    exact ⟨k3, by show 0 + wc ≤ wl.length; omega, Nat.le_refl 1, by show (j + 1) * 24 ≤ _; omega⟩
  · rename_i b0 h4 v hv h5 bp h6 w hw h7 bk bk2
    have h4 : (decide ((n : Int) < 28) || decide ((n : Int).tmod 4 ≠ 0) || decide (nm l (((n : Int) - 4).toNat + i) ≠ crc ((l.drop i).take ((n : Int) - 4).toNat))) = false := h4
    rw [Int.tmod_eq_emod_of_nonneg (show (0 : Int) ≤ (n : Int) by omega)] at h4
    simp only [Bool.or_eq_false_iff, decide_eq_false_iff_not] at h4
    have h28 : 28 ≤ n := by omega
    have hm4 : n % 4 = 0 := by omega
    have e4 : ((n : Int) - 4).toNat = n - 4 := by omega
    obtain ⟨k, on, vb, vq, vl, vc⟩ := v
    obtain ⟨e1, e2⟩ : k ≤ (nsOf ((l.drop i).take n)).length ∧ Grw ((nsOf ((l.drop i).take n)).take k) vl on k vc := hv
    rw [hRl] at e1
    have h5 : ¬ 4 * (k : Int) + 4 < (n : Int) := of_decide_eq_false h5
    have hk : k = (n - 4) / 4 := by omega
    have hk4 : 4 * k = n - 4 := by omega
    have hg : ∀ t, t < k → vl.getD t 0 = (nsOf ((l.drop i).take n)).getD t 0 := by
      intro t ht
      rw [← tk_at (l := vl) (n := k) ht, e2.2.1, tk_at ht]
    have hon : on = true := on_of e2.2.2.2.2 (by omega)
    have hvl : k ≤ vl.length := Nat.le_trans e2.2.2.1 e2.2.2.2.1
    have htd : ((k : Int) - 6).tdiv 2 = ((k : Int) - 6) / 2 := Int.tdiv_eq_ediv_of_nonneg (by omega)
    have h6 : ¬ ((k : Int) - 6).tdiv 2 < vl.getD 4 0 := of_decide_eq_false h6
    rw [htd, hg 4 (by omega)] at h6
    have hu4 := ns_u32 (bv := ((l.drop i).take n)) hb 4
    obtain ⟨hB, hB2⟩ := nB_of (R := (nsOf ((l.drop i).take n))) (by rw [hRl]; omega) hu4.1 (by omega)
    obtain ⟨j, won, wb, wq, wl, wc⟩ := w
    obtain ⟨f1, f2, f3, f4⟩ : j ≤ nB (nsOf ((l.drop i).take n)) ∧ Grw (wl.take j) wl won j wc ∧ (wl.take j).map (·.l) = (blks (nsOf ((l.drop i).take n)) j).map lst ∧ ∀ r ∈ wl.take j, Rok r := hw
    have h7 : (j : Int) < vl.getD 4 0 := of_decide_eq_true h7
    rw [hg 4 (by omega), hB] at h7
    exact f2.2.2.2.2
  · rename_i b0 h4 v hv h5 bp h6 w hw h7 bk bk2 b9 q9 sp cap m1 m2
    have h4 : (decide ((n : Int) < 28) || decide ((n : Int).tmod 4 ≠ 0) || decide (nm l (((n : Int) - 4).toNat + i) ≠ crc ((l.drop i).take ((n : Int) - 4).toNat))) = false := h4
    rw [Int.tmod_eq_emod_of_nonneg (show (0 : Int) ≤ (n : Int) by omega)] at h4
    simp only [Bool.or_eq_false_iff, decide_eq_false_iff_not] at h4
    have h28 : 28 ≤ n := by omega
    have hm4 : n % 4 = 0 := by omega
    have e4 : ((n : Int) - 4).toNat = n - 4 := by omega
    obtain ⟨k, on, vb, vq, vl, vc⟩ := v
    obtain ⟨e1, e2⟩ : k ≤ (nsOf ((l.drop i).take n)).length ∧ Grw ((nsOf ((l.drop i).take n)).take k) vl on k vc := hv
    rw [hRl] at e1
    have h5 : ¬ 4 * (k : Int) + 4 < (n : Int) := of_decide_eq_false h5
    have hk : k = (n - 4) / 4 := by omega
    have hk4 : 4 * k = n - 4 := by omega
    have hg : ∀ t, t < k → vl.getD t 0 = (nsOf ((l.drop i).take n)).getD t 0 := by
      intro t ht
      rw [← tk_at (l := vl) (n := k) ht, e2.2.1, tk_at ht]
    have hon : on = true := on_of e2.2.2.2.2 (by omega)
    have hvl : k ≤ vl.length := Nat.le_trans e2.2.2.1 e2.2.2.2.1
    have htd : ((k : Int) - 6).tdiv 2 = ((k : Int) - 6) / 2 := Int.tdiv_eq_ediv_of_nonneg (by omega)
    have h6 : ¬ ((k : Int) - 6).tdiv 2 < vl.getD 4 0 := of_decide_eq_false h6
    rw [htd, hg 4 (by omega)] at h6
    have hu4 := ns_u32 (bv := ((l.drop i).take n)) hb 4
    obtain ⟨hB, hB2⟩ := nB_of (R := (nsOf ((l.drop i).take n))) (by rw [hRl]; omega) hu4.1 (by omega)
    obtain ⟨j, won, wb, wq, wl, wc⟩ := w
    obtain ⟨f1, f2, f3, f4⟩ : j ≤ nB (nsOf ((l.drop i).take n)) ∧ Grw (wl.take j) wl won j wc ∧ (wl.take j).map (·.l) = (blks (nsOf ((l.drop i).take n)) j).map lst ∧ ∀ r ∈ wl.take j, Rok r := hw
    have h7 : (j : Int) < vl.getD 4 0 := of_decide_eq_true h7
    rw [hg 4 (by omega), hB] at h7
    have q1 : vl.getD ((5 + 2 * (j : Int)).toNat + 0) 0 = (nsOf ((l.drop i).take n)).getD (5 + 2 * j) 0 := by rw [show (5 + 2 * (j : Int)).toNat + 0 = 5 + 2 * j by omega]; exact hg _ (by omega)
    have q2 : vl.getD ((5 + 2 * (j : Int) + 1).toNat + 0) 0 = (nsOf ((l.drop i).take n)).getD (5 + 2 * j + 1) 0 := by rw [show (5 + 2 * (j : Int) + 1).toNat + 0 = 5 + 2 * j + 1 by omega]; exact hg _ (by omega)
    have e5 := f2.app (x := (⟨true, bk, 0, 2, lst (blkAt (nsOf ((l.drop i).take n)) j)⟩ : Rw Int)) (sp := sp) m1 m2
    have e6 := e5.2.1
    refine Stands.one (j + 1, true, b9, q9, wl.take j ++ [⟨true, bk, 0, 2, lst (blkAt (nsOf ((l.drop i).take n)) j)⟩] ++ sp, cap) ⟨⟨by omega, ?_, ?_, ?_⟩, ?_, ?_⟩
    · show Grw (List.take (j + 1) _) _ _ _ _
      rw [e6]
      exact e5
    · show (List.take (j + 1) _).map _ = (blks (nsOf ((l.drop i).take n)) (j + 1)).map lst
      rw [e6, blks_next, List.map_append, List.map_append, f3]
      rfl
    · show ∀ r ∈ List.take (j + 1) _, Rok r
      rw [e6]
      intro r hr
      rcases List.mem_append.1 hr with hr | hr
      · exact f4 r hr
      · rw [List.mem_singleton.1 hr]
        exact ⟨fun h => Bool.noConfusion h, Nat.le_refl 2, (by decide : 2 < 140737488355000)⟩
    · show nB (nsOf ((l.drop i).take n)) - (j + 1) < nB (nsOf ((l.drop i).take n)) - j
      omega
    ((conv => (arg 1; reduce)); with_reducible repeat' (first | exact Tr.yes_h | refine Tr.and_h ?_ ?_ | refine Tr.imp_h fun _ => ?_ | refine Tr.all_h fun _ => ?_ | refine Tr.lf_h ?_))
    all_goals first | (first | first | (show Region.lexB _ _ = true; kernel_rfl) | (show planned _ _ = true; kernel_rfl) | exact rfl | exact True.intro | ((try dsimp only [imp, C0, cG, cInt, cPl, cSlot, cPg, rwCodec, cRaw] at *); (try refine inR64 ?_ ?_) <;> (try simp only [List.length_set, List.length_append, List.length_take, List.length_drop]) <;> omega)) | (show _ = _; simp only [lst, blkAt]; rw [← q1, ← q2]; rfl)
  · rename_i b0 h4 v hv h5 bp h6 w hw h7
    have h4 : (decide ((n : Int) < 28) || decide ((n : Int).tmod 4 ≠ 0) || decide (nm l (((n : Int) - 4).toNat + i) ≠ crc ((l.drop i).take ((n : Int) - 4).toNat))) = false := h4
    rw [Int.tmod_eq_emod_of_nonneg (show (0 : Int) ≤ (n : Int) by omega)] at h4
    simp only [Bool.or_eq_false_iff, decide_eq_false_iff_not] at h4
    have h28 : 28 ≤ n := by omega
    have hm4 : n % 4 = 0 := by omega
    have e4 : ((n : Int) - 4).toNat = n - 4 := by omega
    obtain ⟨k, on, vb, vq, vl, vc⟩ := v
    obtain ⟨e1, e2⟩ : k ≤ (nsOf ((l.drop i).take n)).length ∧ Grw ((nsOf ((l.drop i).take n)).take k) vl on k vc := hv
    rw [hRl] at e1
    have h5 : ¬ 4 * (k : Int) + 4 < (n : Int) := of_decide_eq_false h5
    have hk : k = (n - 4) / 4 := by omega
    have hk4 : 4 * k = n - 4 := by omega
    have hg : ∀ t, t < k → vl.getD t 0 = (nsOf ((l.drop i).take n)).getD t 0 := by
      intro t ht
      rw [← tk_at (l := vl) (n := k) ht, e2.2.1, tk_at ht]
    have hon : on = true := on_of e2.2.2.2.2 (by omega)
    have hvl : k ≤ vl.length := Nat.le_trans e2.2.2.1 e2.2.2.2.1
    have htd : ((k : Int) - 6).tdiv 2 = ((k : Int) - 6) / 2 := Int.tdiv_eq_ediv_of_nonneg (by omega)
    have h6 : ¬ ((k : Int) - 6).tdiv 2 < vl.getD 4 0 := of_decide_eq_false h6
    rw [htd, hg 4 (by omega)] at h6
    have hu4 := ns_u32 (bv := ((l.drop i).take n)) hb 4
    obtain ⟨hB, hB2⟩ := nB_of (R := (nsOf ((l.drop i).take n))) (by rw [hRl]; omega) hu4.1 (by omega)
    obtain ⟨j, won, wb, wq, wl, wc⟩ := w
    obtain ⟨f1, f2, f3, f4⟩ : j ≤ nB (nsOf ((l.drop i).take n)) ∧ Grw (wl.take j) wl won j wc ∧ (wl.take j).map (·.l) = (blks (nsOf ((l.drop i).take n)) j).map lst ∧ ∀ r ∈ wl.take j, Rok r := hw
    have h7 : ¬ (j : Int) < vl.getD 4 0 := of_decide_eq_false h7
    rw [hg 4 (by omega), hB] at h7
    have hj : j = nB (nsOf ((l.drop i).take n)) := by omega
    have ht9 : ((k : Int) - (5 + 2 * (j : Int) + 1)).tdiv 9 = ((k : Int) - (5 + 2 * (j : Int) + 1)) / 9 := Int.tdiv_eq_ediv_of_nonneg (by omega)
    have q1 : vl.getD ((5 + 2 * (j : Int)).toNat + 0) 0 = (nsOf ((l.drop i).take n)).getD (5 + 2 * nB (nsOf ((l.drop i).take n))) 0 := by rw [show (5 + 2 * (j : Int)).toNat + 0 = 5 + 2 * nB (nsOf ((l.drop i).take n)) by omega]; exact hg _ (by omega)
    have hu5 := ns_u32 (bv := ((l.drop i).take n)) hb (5 + 2 * nB (nsOf ((l.drop i).take n)))
    show inR .i64 (((k : Int) - (5 + 2 * (j : Int) + 1)).tdiv 9)
    rw [ht9]
    exact inR64 (by omega) (by omega)
  · rename_i b0 h4 v hv h5 bp h6 w hw h7 h8
    have h4 : (decide ((n : Int) < 28) || decide ((n : Int).tmod 4 ≠ 0) || decide (nm l (((n : Int) - 4).toNat + i) ≠ crc ((l.drop i).take ((n : Int) - 4).toNat))) = false := h4
    rw [Int.tmod_eq_emod_of_nonneg (show (0 : Int) ≤ (n : Int) by omega)] at h4
    simp only [Bool.or_eq_false_iff, decide_eq_false_iff_not] at h4
    have h28 : 28 ≤ n := by omega
    have hm4 : n % 4 = 0 := by omega
    have e4 : ((n : Int) - 4).toNat = n - 4 := by omega
    obtain ⟨k, on, vb, vq, vl, vc⟩ := v
    obtain ⟨e1, e2⟩ : k ≤ (nsOf ((l.drop i).take n)).length ∧ Grw ((nsOf ((l.drop i).take n)).take k) vl on k vc := hv
    rw [hRl] at e1
    have h5 : ¬ 4 * (k : Int) + 4 < (n : Int) := of_decide_eq_false h5
    have hk : k = (n - 4) / 4 := by omega
    have hk4 : 4 * k = n - 4 := by omega
    have hg : ∀ t, t < k → vl.getD t 0 = (nsOf ((l.drop i).take n)).getD t 0 := by
      intro t ht
      rw [← tk_at (l := vl) (n := k) ht, e2.2.1, tk_at ht]
    have hon : on = true := on_of e2.2.2.2.2 (by omega)
    have hvl : k ≤ vl.length := Nat.le_trans e2.2.2.1 e2.2.2.2.1
    have htd : ((k : Int) - 6).tdiv 2 = ((k : Int) - 6) / 2 := Int.tdiv_eq_ediv_of_nonneg (by omega)
    have h6 : ¬ ((k : Int) - 6).tdiv 2 < vl.getD 4 0 := of_decide_eq_false h6
    rw [htd, hg 4 (by omega)] at h6
    have hu4 := ns_u32 (bv := ((l.drop i).take n)) hb 4
    obtain ⟨hB, hB2⟩ := nB_of (R := (nsOf ((l.drop i).take n))) (by rw [hRl]; omega) hu4.1 (by omega)
    obtain ⟨j, won, wb, wq, wl, wc⟩ := w
    obtain ⟨f1, f2, f3, f4⟩ : j ≤ nB (nsOf ((l.drop i).take n)) ∧ Grw (wl.take j) wl won j wc ∧ (wl.take j).map (·.l) = (blks (nsOf ((l.drop i).take n)) j).map lst ∧ ∀ r ∈ wl.take j, Rok r := hw
    have h7 : ¬ (j : Int) < vl.getD 4 0 := of_decide_eq_false h7
    rw [hg 4 (by omega), hB] at h7
    have hj : j = nB (nsOf ((l.drop i).take n)) := by omega
    have ht9 : ((k : Int) - (5 + 2 * (j : Int) + 1)).tdiv 9 = ((k : Int) - (5 + 2 * (j : Int) + 1)) / 9 := Int.tdiv_eq_ediv_of_nonneg (by omega)
    have q1 : vl.getD ((5 + 2 * (j : Int)).toNat + 0) 0 = (nsOf ((l.drop i).take n)).getD (5 + 2 * nB (nsOf ((l.drop i).take n))) 0 := by rw [show (5 + 2 * (j : Int)).toNat + 0 = 5 + 2 * nB (nsOf ((l.drop i).take n)) by omega]; exact hg _ (by omega)
    have hu5 := ns_u32 (bv := ((l.drop i).take n)) hb (5 + 2 * nB (nsOf ((l.drop i).take n)))
    have h8 : decide (((k : Int) - (5 + 2 * (j : Int) + 1)).tdiv 9 < vl.getD ((5 + 2 * (j : Int)).toNat + 0) 0) = false := h8
    rw [ht9, q1, decide_eq_false_iff_not] at h8
    show inR .i64 (9 * vl.getD ((5 + 2 * (j : Int)).toNat + 0) 0)
    rw [q1]
    have := hu5.1
    exact inR64 (by omega) (by omega)
  · rename_i b0 h4 v hv h5 bp h6 w hw h7 h8
    have h4 : (decide ((n : Int) < 28) || decide ((n : Int).tmod 4 ≠ 0) || decide (nm l (((n : Int) - 4).toNat + i) ≠ crc ((l.drop i).take ((n : Int) - 4).toNat))) = false := h4
    rw [Int.tmod_eq_emod_of_nonneg (show (0 : Int) ≤ (n : Int) by omega)] at h4
    simp only [Bool.or_eq_false_iff, decide_eq_false_iff_not] at h4
    have h28 : 28 ≤ n := by omega
    have hm4 : n % 4 = 0 := by omega
    have e4 : ((n : Int) - 4).toNat = n - 4 := by omega
    obtain ⟨k, on, vb, vq, vl, vc⟩ := v
    obtain ⟨e1, e2⟩ : k ≤ (nsOf ((l.drop i).take n)).length ∧ Grw ((nsOf ((l.drop i).take n)).take k) vl on k vc := hv
    rw [hRl] at e1
    have h5 : ¬ 4 * (k : Int) + 4 < (n : Int) := of_decide_eq_false h5
    have hk : k = (n - 4) / 4 := by omega
    have hk4 : 4 * k = n - 4 := by omega
    have hg : ∀ t, t < k → vl.getD t 0 = (nsOf ((l.drop i).take n)).getD t 0 := by
      intro t ht
      rw [← tk_at (l := vl) (n := k) ht, e2.2.1, tk_at ht]
    have hon : on = true := on_of e2.2.2.2.2 (by omega)
    have hvl : k ≤ vl.length := Nat.le_trans e2.2.2.1 e2.2.2.2.1
    have htd : ((k : Int) - 6).tdiv 2 = ((k : Int) - 6) / 2 := Int.tdiv_eq_ediv_of_nonneg (by omega)
    have h6 : ¬ ((k : Int) - 6).tdiv 2 < vl.getD 4 0 := of_decide_eq_false h6
    rw [htd, hg 4 (by omega)] at h6
    have hu4 := ns_u32 (bv := ((l.drop i).take n)) hb 4
    obtain ⟨hB, hB2⟩ := nB_of (R := (nsOf ((l.drop i).take n))) (by rw [hRl]; omega) hu4.1 (by omega)
    obtain ⟨j, won, wb, wq, wl, wc⟩ := w
    obtain ⟨f1, f2, f3, f4⟩ : j ≤ nB (nsOf ((l.drop i).take n)) ∧ Grw (wl.take j) wl won j wc ∧ (wl.take j).map (·.l) = (blks (nsOf ((l.drop i).take n)) j).map lst ∧ ∀ r ∈ wl.take j, Rok r := hw
    have h7 : ¬ (j : Int) < vl.getD 4 0 := of_decide_eq_false h7
    rw [hg 4 (by omega), hB] at h7
    have hj : j = nB (nsOf ((l.drop i).take n)) := by omega
    have ht9 : ((k : Int) - (5 + 2 * (j : Int) + 1)).tdiv 9 = ((k : Int) - (5 + 2 * (j : Int) + 1)) / 9 := Int.tdiv_eq_ediv_of_nonneg (by omega)
    have q1 : vl.getD ((5 + 2 * (j : Int)).toNat + 0) 0 = (nsOf ((l.drop i).take n)).getD (5 + 2 * nB (nsOf ((l.drop i).take n))) 0 := by rw [show (5 + 2 * (j : Int)).toNat + 0 = 5 + 2 * nB (nsOf ((l.drop i).take n)) by omega]; exact hg _ (by omega)
    have hu5 := ns_u32 (bv := ((l.drop i).take n)) hb (5 + 2 * nB (nsOf ((l.drop i).take n)))
    have h8 : decide (((k : Int) - (5 + 2 * (j : Int) + 1)).tdiv 9 < vl.getD ((5 + 2 * (j : Int)).toNat + 0) 0) = false := h8
    rw [ht9, q1, decide_eq_false_iff_not] at h8
    show inR .i64 (5 + 2 * (j : Int) + 1 + 9 * vl.getD ((5 + 2 * (j : Int)).toNat + 0) 0)
    rw [q1]
    have := hu5.1
    exact inR64 (by omega) (by omega)
  · rename_i b0 h4 v hv h5 bp h6 w hw h7 h8
    have h4 : (decide ((n : Int) < 28) || decide ((n : Int).tmod 4 ≠ 0) || decide (nm l (((n : Int) - 4).toNat + i) ≠ crc ((l.drop i).take ((n : Int) - 4).toNat))) = false := h4
    rw [Int.tmod_eq_emod_of_nonneg (show (0 : Int) ≤ (n : Int) by omega)] at h4
    simp only [Bool.or_eq_false_iff, decide_eq_false_iff_not] at h4
    have h28 : 28 ≤ n := by omega
    have hm4 : n % 4 = 0 := by omega
    have e4 : ((n : Int) - 4).toNat = n - 4 := by omega
    obtain ⟨k, on, vb, vq, vl, vc⟩ := v
    obtain ⟨e1, e2⟩ : k ≤ (nsOf ((l.drop i).take n)).length ∧ Grw ((nsOf ((l.drop i).take n)).take k) vl on k vc := hv
    rw [hRl] at e1
    have h5 : ¬ 4 * (k : Int) + 4 < (n : Int) := of_decide_eq_false h5
    have hk : k = (n - 4) / 4 := by omega
    have hk4 : 4 * k = n - 4 := by omega
    have hg : ∀ t, t < k → vl.getD t 0 = (nsOf ((l.drop i).take n)).getD t 0 := by
      intro t ht
      rw [← tk_at (l := vl) (n := k) ht, e2.2.1, tk_at ht]
    have hon : on = true := on_of e2.2.2.2.2 (by omega)
    have hvl : k ≤ vl.length := Nat.le_trans e2.2.2.1 e2.2.2.2.1
    have htd : ((k : Int) - 6).tdiv 2 = ((k : Int) - 6) / 2 := Int.tdiv_eq_ediv_of_nonneg (by omega)
    have h6 : ¬ ((k : Int) - 6).tdiv 2 < vl.getD 4 0 := of_decide_eq_false h6
    rw [htd, hg 4 (by omega)] at h6
    have hu4 := ns_u32 (bv := ((l.drop i).take n)) hb 4
    obtain ⟨hB, hB2⟩ := nB_of (R := (nsOf ((l.drop i).take n))) (by rw [hRl]; omega) hu4.1 (by omega)
    obtain ⟨j, won, wb, wq, wl, wc⟩ := w
    obtain ⟨f1, f2, f3, f4⟩ : j ≤ nB (nsOf ((l.drop i).take n)) ∧ Grw (wl.take j) wl won j wc ∧ (wl.take j).map (·.l) = (blks (nsOf ((l.drop i).take n)) j).map lst ∧ ∀ r ∈ wl.take j, Rok r := hw
    have h7 : ¬ (j : Int) < vl.getD 4 0 := of_decide_eq_false h7
    rw [hg 4 (by omega), hB] at h7
    have hj : j = nB (nsOf ((l.drop i).take n)) := by omega
    have ht9 : ((k : Int) - (5 + 2 * (j : Int) + 1)).tdiv 9 = ((k : Int) - (5 + 2 * (j : Int) + 1)) / 9 := Int.tdiv_eq_ediv_of_nonneg (by omega)
    have q1 : vl.getD ((5 + 2 * (j : Int)).toNat + 0) 0 = (nsOf ((l.drop i).take n)).getD (5 + 2 * nB (nsOf ((l.drop i).take n))) 0 := by rw [show (5 + 2 * (j : Int)).toNat + 0 = 5 + 2 * nB (nsOf ((l.drop i).take n)) by omega]; exact hg _ (by omega)
    have hu5 := ns_u32 (bv := ((l.drop i).take n)) hb (5 + 2 * nB (nsOf ((l.drop i).take n)))
    have h8 : (decide (((k : Int) - (5 + 2 * (j : Int) + 1)).tdiv 9 < vl.getD ((5 + 2 * (j : Int)).toNat + 0) 0) || decide (5 + 2 * (j : Int) + 1 + 9 * vl.getD ((5 + 2 * (j : Int)).toNat + 0) 0 ≠ (k : Int))) = true := h8
    rw [ht9, q1] at h8
    refine Ends.one () (fun h A B hp => ?_) ?_
    · obtain ⟨z1, z2, z3, z4, z5, z6⟩ := isPt_facts hp (by rw [hbl]; omega)
      have hc := (isPt_cnt hp (by rw [hbl]; omega)).2
      simp only [Bool.or_eq_true, decide_eq_true_iff] at h8
      omega
    ((conv => (arg 1; reduce)); with_reducible repeat' (first | exact Tr.yes_h | refine Tr.and_h ?_ ?_ | refine Tr.imp_h fun _ => ?_ | refine Tr.all_h fun _ => ?_ | refine Tr.lf_h ?_))
    all_goals (first | first | (show Region.lexB _ _ = true; kernel_rfl) | (show planned _ _ = true; kernel_rfl) | exact rfl | exact True.intro | ((try dsimp only [imp, C0, cG, cInt, cPl, cSlot, cPg, rwCodec, cRaw] at *); (try refine inR64 ?_ ?_) <;> (try simp only [List.length_set, List.length_append, List.length_take, List.length_drop]) <;> omega))
  · rename_i b0 h4 v hv h5 bp h6 w hw h7 h8
    have h4 : (decide ((n : Int) < 28) || decide ((n : Int).tmod 4 ≠ 0) || decide (nm l (((n : Int) - 4).toNat + i) ≠ crc ((l.drop i).take ((n : Int) - 4).toNat))) = false := h4
    rw [Int.tmod_eq_emod_of_nonneg (show (0 : Int) ≤ (n : Int) by omega)] at h4
    simp only [Bool.or_eq_false_iff, decide_eq_false_iff_not] at h4
    have h28 : 28 ≤ n := by omega
    have hm4 : n % 4 = 0 := by omega
    have e4 : ((n : Int) - 4).toNat = n - 4 := by omega
    obtain ⟨k, on, vb, vq, vl, vc⟩ := v
    obtain ⟨e1, e2⟩ : k ≤ (nsOf ((l.drop i).take n)).length ∧ Grw ((nsOf ((l.drop i).take n)).take k) vl on k vc := hv
    rw [hRl] at e1
    have h5 : ¬ 4 * (k : Int) + 4 < (n : Int) := of_decide_eq_false h5
    have hk : k = (n - 4) / 4 := by omega
    have hk4 : 4 * k = n - 4 := by omega
    have hg : ∀ t, t < k → vl.getD t 0 = (nsOf ((l.drop i).take n)).getD t 0 := by
      intro t ht
      rw [← tk_at (l := vl) (n := k) ht, e2.2.1, tk_at ht]
    have hon : on = true := on_of e2.2.2.2.2 (by omega)
    have hvl : k ≤ vl.length := Nat.le_trans e2.2.2.1 e2.2.2.2.1
    have htd : ((k : Int) - 6).tdiv 2 = ((k : Int) - 6) / 2 := Int.tdiv_eq_ediv_of_nonneg (by omega)
    have h6 : ¬ ((k : Int) - 6).tdiv 2 < vl.getD 4 0 := of_decide_eq_false h6
    rw [htd, hg 4 (by omega)] at h6
    have hu4 := ns_u32 (bv := ((l.drop i).take n)) hb 4
    obtain ⟨hB, hB2⟩ := nB_of (R := (nsOf ((l.drop i).take n))) (by rw [hRl]; omega) hu4.1 (by omega)
    obtain ⟨j, won, wb, wq, wl, wc⟩ := w
    obtain ⟨f1, f2, f3, f4⟩ : j ≤ nB (nsOf ((l.drop i).take n)) ∧ Grw (wl.take j) wl won j wc ∧ (wl.take j).map (·.l) = (blks (nsOf ((l.drop i).take n)) j).map lst ∧ ∀ r ∈ wl.take j, Rok r := hw
    have h7 : ¬ (j : Int) < vl.getD 4 0 := of_decide_eq_false h7
    rw [hg 4 (by omega), hB] at h7
    have hj : j = nB (nsOf ((l.drop i).take n)) := by omega
    have ht9 : ((k : Int) - (5 + 2 * (j : Int) + 1)).tdiv 9 = ((k : Int) - (5 + 2 * (j : Int) + 1)) / 9 := Int.tdiv_eq_ediv_of_nonneg (by omega)
    have q1 : vl.getD ((5 + 2 * (j : Int)).toNat + 0) 0 = (nsOf ((l.drop i).take n)).getD (5 + 2 * nB (nsOf ((l.drop i).take n))) 0 := by rw [show (5 + 2 * (j : Int)).toNat + 0 = 5 + 2 * nB (nsOf ((l.drop i).take n)) by omega]; exact hg _ (by omega)
    have hu5 := ns_u32 (bv := ((l.drop i).take n)) hb (5 + 2 * nB (nsOf ((l.drop i).take n)))
    have h8 : (decide (((k : Int) - (5 + 2 * (j : Int) + 1)).tdiv 9 < vl.getD ((5 + 2 * (j : Int)).toNat + 0) 0) || decide (5 + 2 * (j : Int) + 1 + 9 * vl.getD ((5 + 2 * (j : Int)).toNat + 0) 0 ≠ (k : Int))) = false := h8
    rw [ht9, q1] at h8
    simp only [Bool.or_eq_false_iff, decide_eq_false_iff_not] at h8
    obtain ⟨hS, hS2⟩ := nS_of (R := (nsOf ((l.drop i).take n))) (by omega) hu5.1 (by omega)
    refine Stands.one (0, false, 0, 0, [], 0) ⟨⟨Nat.zero_le _, by rw [slts_zero]; exact ⟨rfl, rfl, Nat.le_refl _, Nat.le_refl _, fun _ => ⟨rfl, rfl⟩⟩⟩, ?_⟩
    ((conv => (arg 1; reduce)); with_reducible repeat' (first | exact Tr.yes_h | refine Tr.and_h ?_ ?_ | refine Tr.imp_h fun _ => ?_ | refine Tr.all_h fun _ => ?_ | refine Tr.lf_h ?_))
    all_goals first | (first | first | (show Region.lexB _ _ = true; kernel_rfl) | (show planned _ _ = true; kernel_rfl) | exact rfl | exact True.intro | ((try dsimp only [imp, C0, cG, cInt, cPl, cSlot, cPg, rwCodec, cRaw] at *); (try refine inR64 ?_ ?_) <;> (try simp only [List.length_set, List.length_append, List.length_take, List.length_drop]) <;> omega))
  · rename_i b0 h4 v hv h5 bp h6 w hw h7 h8 u hu h9 bs bk
    have h4 : (decide ((n : Int) < 28) || decide ((n : Int).tmod 4 ≠ 0) || decide (nm l (((n : Int) - 4).toNat + i) ≠ crc ((l.drop i).take ((n : Int) - 4).toNat))) = false := h4
    rw [Int.tmod_eq_emod_of_nonneg (show (0 : Int) ≤ (n : Int) by omega)] at h4
    simp only [Bool.or_eq_false_iff, decide_eq_false_iff_not] at h4
    have h28 : 28 ≤ n := by omega
    have hm4 : n % 4 = 0 := by omega
    have e4 : ((n : Int) - 4).toNat = n - 4 := by omega
    obtain ⟨k, on, vb, vq, vl, vc⟩ := v
    obtain ⟨e1, e2⟩ : k ≤ (nsOf ((l.drop i).take n)).length ∧ Grw ((nsOf ((l.drop i).take n)).take k) vl on k vc := hv
    rw [hRl] at e1
    have h5 : ¬ 4 * (k : Int) + 4 < (n : Int) := of_decide_eq_false h5
    have hk : k = (n - 4) / 4 := by omega
    have hk4 : 4 * k = n - 4 := by omega
    have hg : ∀ t, t < k → vl.getD t 0 = (nsOf ((l.drop i).take n)).getD t 0 := by
      intro t ht
      rw [← tk_at (l := vl) (n := k) ht, e2.2.1, tk_at ht]
    have hon : on = true := on_of e2.2.2.2.2 (by omega)
    have hvl : k ≤ vl.length := Nat.le_trans e2.2.2.1 e2.2.2.2.1
    have htd : ((k : Int) - 6).tdiv 2 = ((k : Int) - 6) / 2 := Int.tdiv_eq_ediv_of_nonneg (by omega)
    have h6 : ¬ ((k : Int) - 6).tdiv 2 < vl.getD 4 0 := of_decide_eq_false h6
    rw [htd, hg 4 (by omega)] at h6
    have hu4 := ns_u32 (bv := ((l.drop i).take n)) hb 4
    obtain ⟨hB, hB2⟩ := nB_of (R := (nsOf ((l.drop i).take n))) (by rw [hRl]; omega) hu4.1 (by omega)
    obtain ⟨j, won, wb, wq, wl, wc⟩ := w
    obtain ⟨f1, f2, f3, f4⟩ : j ≤ nB (nsOf ((l.drop i).take n)) ∧ Grw (wl.take j) wl won j wc ∧ (wl.take j).map (·.l) = (blks (nsOf ((l.drop i).take n)) j).map lst ∧ ∀ r ∈ wl.take j, Rok r := hw
    have h7 : ¬ (j : Int) < vl.getD 4 0 := of_decide_eq_false h7
    rw [hg 4 (by omega), hB] at h7
    have hj : j = nB (nsOf ((l.drop i).take n)) := by omega
    have ht9 : ((k : Int) - (5 + 2 * (j : Int) + 1)).tdiv 9 = ((k : Int) - (5 + 2 * (j : Int) + 1)) / 9 := Int.tdiv_eq_ediv_of_nonneg (by omega)
    have q1 : vl.getD ((5 + 2 * (j : Int)).toNat + 0) 0 = (nsOf ((l.drop i).take n)).getD (5 + 2 * nB (nsOf ((l.drop i).take n))) 0 := by rw [show (5 + 2 * (j : Int)).toNat + 0 = 5 + 2 * nB (nsOf ((l.drop i).take n)) by omega]; exact hg _ (by omega)
    have hu5 := ns_u32 (bv := ((l.drop i).take n)) hb (5 + 2 * nB (nsOf ((l.drop i).take n)))
    have h8 : (decide (((k : Int) - (5 + 2 * (j : Int) + 1)).tdiv 9 < vl.getD ((5 + 2 * (j : Int)).toNat + 0) 0) || decide (5 + 2 * (j : Int) + 1 + 9 * vl.getD ((5 + 2 * (j : Int)).toNat + 0) 0 ≠ (k : Int))) = false := h8
    rw [ht9, q1] at h8
    simp only [Bool.or_eq_false_iff, decide_eq_false_iff_not] at h8
    obtain ⟨hS, hS2⟩ := nS_of (R := (nsOf ((l.drop i).take n))) (by omega) hu5.1 (by omega)
    obtain ⟨s, uon, ub, uq, ul, uc⟩ := u
    obtain ⟨d1, d2⟩ : s ≤ nS (nsOf ((l.drop i).take n)) ∧ Grw (slts (nsOf ((l.drop i).take n)) s) ul uon s uc := hu
    have h9 : (s : Int) < vl.getD ((5 + 2 * (j : Int)).toNat + 0) 0 := of_decide_eq_true h9
    rw [q1, hS] at h9
    obtain ⟨k1, k2, k3, k4, k5⟩ := d2
    rw [by74]
    exact ⟨k3, by show 0 + uc ≤ ul.length; omega, Nat.le_refl 1, by show (s + 1) * 72 ≤ _; omega⟩
  · rename_i b0 h4 v hv h5 bp h6 w hw h7 h8 u hu h9 bs bk
    have h4 : (decide ((n : Int) < 28) || decide ((n : Int).tmod 4 ≠ 0) || decide (nm l (((n : Int) - 4).toNat + i) ≠ crc ((l.drop i).take ((n : Int) - 4).toNat))) = false := h4
    rw [Int.tmod_eq_emod_of_nonneg (show (0 : Int) ≤ (n : Int) by omega)] at h4
    simp only [Bool.or_eq_false_iff, decide_eq_false_iff_not] at h4
    have h28 : 28 ≤ n := by omega
    have hm4 : n % 4 = 0 := by omega
    have e4 : ((n : Int) - 4).toNat = n - 4 := by omega
    obtain ⟨k, on, vb, vq, vl, vc⟩ := v
    obtain ⟨e1, e2⟩ : k ≤ (nsOf ((l.drop i).take n)).length ∧ Grw ((nsOf ((l.drop i).take n)).take k) vl on k vc := hv
    rw [hRl] at e1
    have h5 : ¬ 4 * (k : Int) + 4 < (n : Int) := of_decide_eq_false h5
    have hk : k = (n - 4) / 4 := by omega
    have hk4 : 4 * k = n - 4 := by omega
    have hg : ∀ t, t < k → vl.getD t 0 = (nsOf ((l.drop i).take n)).getD t 0 := by
      intro t ht
      rw [← tk_at (l := vl) (n := k) ht, e2.2.1, tk_at ht]
    have hon : on = true := on_of e2.2.2.2.2 (by omega)
    have hvl : k ≤ vl.length := Nat.le_trans e2.2.2.1 e2.2.2.2.1
    have htd : ((k : Int) - 6).tdiv 2 = ((k : Int) - 6) / 2 := Int.tdiv_eq_ediv_of_nonneg (by omega)
    have h6 : ¬ ((k : Int) - 6).tdiv 2 < vl.getD 4 0 := of_decide_eq_false h6
    rw [htd, hg 4 (by omega)] at h6
    have hu4 := ns_u32 (bv := ((l.drop i).take n)) hb 4
    obtain ⟨hB, hB2⟩ := nB_of (R := (nsOf ((l.drop i).take n))) (by rw [hRl]; omega) hu4.1 (by omega)
    obtain ⟨j, won, wb, wq, wl, wc⟩ := w
    obtain ⟨f1, f2, f3, f4⟩ : j ≤ nB (nsOf ((l.drop i).take n)) ∧ Grw (wl.take j) wl won j wc ∧ (wl.take j).map (·.l) = (blks (nsOf ((l.drop i).take n)) j).map lst ∧ ∀ r ∈ wl.take j, Rok r := hw
    have h7 : ¬ (j : Int) < vl.getD 4 0 := of_decide_eq_false h7
    rw [hg 4 (by omega), hB] at h7
    have hj : j = nB (nsOf ((l.drop i).take n)) := by omega
    have ht9 : ((k : Int) - (5 + 2 * (j : Int) + 1)).tdiv 9 = ((k : Int) - (5 + 2 * (j : Int) + 1)) / 9 := Int.tdiv_eq_ediv_of_nonneg (by omega)
    have q1 : vl.getD ((5 + 2 * (j : Int)).toNat + 0) 0 = (nsOf ((l.drop i).take n)).getD (5 + 2 * nB (nsOf ((l.drop i).take n))) 0 := by rw [show (5 + 2 * (j : Int)).toNat + 0 = 5 + 2 * nB (nsOf ((l.drop i).take n)) by omega]; exact hg _ (by omega)
    have hu5 := ns_u32 (bv := ((l.drop i).take n)) hb (5 + 2 * nB (nsOf ((l.drop i).take n)))
    have h8 : (decide (((k : Int) - (5 + 2 * (j : Int) + 1)).tdiv 9 < vl.getD ((5 + 2 * (j : Int)).toNat + 0) 0) || decide (5 + 2 * (j : Int) + 1 + 9 * vl.getD ((5 + 2 * (j : Int)).toNat + 0) 0 ≠ (k : Int))) = false := h8
    rw [ht9, q1] at h8
    simp only [Bool.or_eq_false_iff, decide_eq_false_iff_not] at h8
    obtain ⟨hS, hS2⟩ := nS_of (R := (nsOf ((l.drop i).take n))) (by omega) hu5.1 (by omega)
    obtain ⟨s, uon, ub, uq, ul, uc⟩ := u
    obtain ⟨d1, d2⟩ : s ≤ nS (nsOf ((l.drop i).take n)) ∧ Grw (slts (nsOf ((l.drop i).take n)) s) ul uon s uc := hu
    have h9 : (s : Int) < vl.getD ((5 + 2 * (j : Int)).toNat + 0) 0 := of_decide_eq_true h9
    rw [q1, hS] at h9
    exact d2.2.2.2.2
  · rename_i b0 h4 v hv h5 bp h6 w hw h7 h8 u hu h9 bs bk b9 q9 sp cap m1 m2
    have h4 : (decide ((n : Int) < 28) || decide ((n : Int).tmod 4 ≠ 0) || decide (nm l (((n : Int) - 4).toNat + i) ≠ crc ((l.drop i).take ((n : Int) - 4).toNat))) = false := h4
    rw [Int.tmod_eq_emod_of_nonneg (show (0 : Int) ≤ (n : Int) by omega)] at h4
    simp only [Bool.or_eq_false_iff, decide_eq_false_iff_not] at h4
    have h28 : 28 ≤ n := by omega
    have hm4 : n % 4 = 0 := by omega
    have e4 : ((n : Int) - 4).toNat = n - 4 := by omega
    obtain ⟨k, on, vb, vq, vl, vc⟩ := v
    obtain ⟨e1, e2⟩ : k ≤ (nsOf ((l.drop i).take n)).length ∧ Grw ((nsOf ((l.drop i).take n)).take k) vl on k vc := hv
    rw [hRl] at e1
    have h5 : ¬ 4 * (k : Int) + 4 < (n : Int) := of_decide_eq_false h5
    have hk : k = (n - 4) / 4 := by omega
    have hk4 : 4 * k = n - 4 := by omega
    have hg : ∀ t, t < k → vl.getD t 0 = (nsOf ((l.drop i).take n)).getD t 0 := by
      intro t ht
      rw [← tk_at (l := vl) (n := k) ht, e2.2.1, tk_at ht]
    have hon : on = true := on_of e2.2.2.2.2 (by omega)
    have hvl : k ≤ vl.length := Nat.le_trans e2.2.2.1 e2.2.2.2.1
    have htd : ((k : Int) - 6).tdiv 2 = ((k : Int) - 6) / 2 := Int.tdiv_eq_ediv_of_nonneg (by omega)
    have h6 : ¬ ((k : Int) - 6).tdiv 2 < vl.getD 4 0 := of_decide_eq_false h6
    rw [htd, hg 4 (by omega)] at h6
    have hu4 := ns_u32 (bv := ((l.drop i).take n)) hb 4
    obtain ⟨hB, hB2⟩ := nB_of (R := (nsOf ((l.drop i).take n))) (by rw [hRl]; omega) hu4.1 (by omega)
    obtain ⟨j, won, wb, wq, wl, wc⟩ := w
    obtain ⟨f1, f2, f3, f4⟩ : j ≤ nB (nsOf ((l.drop i).take n)) ∧ Grw (wl.take j) wl won j wc ∧ (wl.take j).map (·.l) = (blks (nsOf ((l.drop i).take n)) j).map lst ∧ ∀ r ∈ wl.take j, Rok r := hw
    have h7 : ¬ (j : Int) < vl.getD 4 0 := of_decide_eq_false h7
    rw [hg 4 (by omega), hB] at h7
    have hj : j = nB (nsOf ((l.drop i).take n)) := by omega
    have ht9 : ((k : Int) - (5 + 2 * (j : Int) + 1)).tdiv 9 = ((k : Int) - (5 + 2 * (j : Int) + 1)) / 9 := Int.tdiv_eq_ediv_of_nonneg (by omega)
    have q1 : vl.getD ((5 + 2 * (j : Int)).toNat + 0) 0 = (nsOf ((l.drop i).take n)).getD (5 + 2 * nB (nsOf ((l.drop i).take n))) 0 := by rw [show (5 + 2 * (j : Int)).toNat + 0 = 5 + 2 * nB (nsOf ((l.drop i).take n)) by omega]; exact hg _ (by omega)
    have hu5 := ns_u32 (bv := ((l.drop i).take n)) hb (5 + 2 * nB (nsOf ((l.drop i).take n)))
    have h8 : (decide (((k : Int) - (5 + 2 * (j : Int) + 1)).tdiv 9 < vl.getD ((5 + 2 * (j : Int)).toNat + 0) 0) || decide (5 + 2 * (j : Int) + 1 + 9 * vl.getD ((5 + 2 * (j : Int)).toNat + 0) 0 ≠ (k : Int))) = false := h8
    rw [ht9, q1] at h8
    simp only [Bool.or_eq_false_iff, decide_eq_false_iff_not] at h8
    obtain ⟨hS, hS2⟩ := nS_of (R := (nsOf ((l.drop i).take n))) (by omega) hu5.1 (by omega)
    obtain ⟨s, uon, ub, uq, ul, uc⟩ := u
    obtain ⟨d1, d2⟩ : s ≤ nS (nsOf ((l.drop i).take n)) ∧ Grw (slts (nsOf ((l.drop i).take n)) s) ul uon s uc := hu
    have h9 : (s : Int) < vl.getD ((5 + 2 * (j : Int)).toNat + 0) 0 := of_decide_eq_true h9
    rw [q1, hS] at h9
    have q20 : vl.getD ((6 + 2 * (nB (nsOf ((l.drop i).take n)) : Int) + 9 * (s : Int)).toNat + 0) 0 = (nsOf ((l.drop i).take n)).getD (6 + 2 * nB (nsOf ((l.drop i).take n)) + 9 * s + 0) 0 := by rw [show (6 + 2 * (nB (nsOf ((l.drop i).take n)) : Int) + 9 * (s : Int)).toNat + 0 = 6 + 2 * nB (nsOf ((l.drop i).take n)) + 9 * s + 0 by omega]; exact hg _ (by omega)
    have q21 : vl.getD ((6 + 2 * (nB (nsOf ((l.drop i).take n)) : Int) + 9 * (s : Int) + 1).toNat + 0) 0 = (nsOf ((l.drop i).take n)).getD (6 + 2 * nB (nsOf ((l.drop i).take n)) + 9 * s + 1) 0 := by rw [show (6 + 2 * (nB (nsOf ((l.drop i).take n)) : Int) + 9 * (s : Int) + 1).toNat + 0 = 6 + 2 * nB (nsOf ((l.drop i).take n)) + 9 * s + 1 by omega]; exact hg _ (by omega)
    have q22 : vl.getD ((6 + 2 * (nB (nsOf ((l.drop i).take n)) : Int) + 9 * (s : Int) + 2).toNat + 0) 0 = (nsOf ((l.drop i).take n)).getD (6 + 2 * nB (nsOf ((l.drop i).take n)) + 9 * s + 2) 0 := by rw [show (6 + 2 * (nB (nsOf ((l.drop i).take n)) : Int) + 9 * (s : Int) + 2).toNat + 0 = 6 + 2 * nB (nsOf ((l.drop i).take n)) + 9 * s + 2 by omega]; exact hg _ (by omega)
    have q23 : vl.getD ((6 + 2 * (nB (nsOf ((l.drop i).take n)) : Int) + 9 * (s : Int) + 3).toNat + 0) 0 = (nsOf ((l.drop i).take n)).getD (6 + 2 * nB (nsOf ((l.drop i).take n)) + 9 * s + 3) 0 := by rw [show (6 + 2 * (nB (nsOf ((l.drop i).take n)) : Int) + 9 * (s : Int) + 3).toNat + 0 = 6 + 2 * nB (nsOf ((l.drop i).take n)) + 9 * s + 3 by omega]; exact hg _ (by omega)
    have q24 : vl.getD ((6 + 2 * (nB (nsOf ((l.drop i).take n)) : Int) + 9 * (s : Int) + 4).toNat + 0) 0 = (nsOf ((l.drop i).take n)).getD (6 + 2 * nB (nsOf ((l.drop i).take n)) + 9 * s + 4) 0 := by rw [show (6 + 2 * (nB (nsOf ((l.drop i).take n)) : Int) + 9 * (s : Int) + 4).toNat + 0 = 6 + 2 * nB (nsOf ((l.drop i).take n)) + 9 * s + 4 by omega]; exact hg _ (by omega)
    have q25 : vl.getD ((6 + 2 * (nB (nsOf ((l.drop i).take n)) : Int) + 9 * (s : Int) + 5).toNat + 0) 0 = (nsOf ((l.drop i).take n)).getD (6 + 2 * nB (nsOf ((l.drop i).take n)) + 9 * s + 5) 0 := by rw [show (6 + 2 * (nB (nsOf ((l.drop i).take n)) : Int) + 9 * (s : Int) + 5).toNat + 0 = 6 + 2 * nB (nsOf ((l.drop i).take n)) + 9 * s + 5 by omega]; exact hg _ (by omega)
    have q26 : vl.getD ((6 + 2 * (nB (nsOf ((l.drop i).take n)) : Int) + 9 * (s : Int) + 6).toNat + 0) 0 = (nsOf ((l.drop i).take n)).getD (6 + 2 * nB (nsOf ((l.drop i).take n)) + 9 * s + 6) 0 := by rw [show (6 + 2 * (nB (nsOf ((l.drop i).take n)) : Int) + 9 * (s : Int) + 6).toNat + 0 = 6 + 2 * nB (nsOf ((l.drop i).take n)) + 9 * s + 6 by omega]; exact hg _ (by omega)
    have q27 : vl.getD ((6 + 2 * (nB (nsOf ((l.drop i).take n)) : Int) + 9 * (s : Int) + 7).toNat + 0) 0 = (nsOf ((l.drop i).take n)).getD (6 + 2 * nB (nsOf ((l.drop i).take n)) + 9 * s + 7) 0 := by rw [show (6 + 2 * (nB (nsOf ((l.drop i).take n)) : Int) + 9 * (s : Int) + 7).toNat + 0 = 6 + 2 * nB (nsOf ((l.drop i).take n)) + 9 * s + 7 by omega]; exact hg _ (by omega)
    have q28 : vl.getD ((6 + 2 * (nB (nsOf ((l.drop i).take n)) : Int) + 9 * (s : Int) + 8).toNat + 0) 0 = (nsOf ((l.drop i).take n)).getD (6 + 2 * nB (nsOf ((l.drop i).take n)) + 9 * s + 8) 0 := by rw [show (6 + 2 * (nB (nsOf ((l.drop i).take n)) : Int) + 9 * (s : Int) + 8).toNat + 0 = 6 + 2 * nB (nsOf ((l.drop i).take n)) + 9 * s + 8 by omega]; exact hg _ (by omega)
    have e5 := d2.app (x := slotAt (nsOf ((l.drop i).take n)) (6 + 2 * nB (nsOf ((l.drop i).take n))) s) (sp := sp) m1 m2
    rw [← slts_next] at e5
    refine Stands.one (s + 1, true, b9, q9, ul.take s ++ [slotAt (nsOf ((l.drop i).take n)) (6 + 2 * nB (nsOf ((l.drop i).take n))) s] ++ sp, cap) ⟨⟨by omega, e5⟩, ?_, ?_⟩
    · show nS (nsOf ((l.drop i).take n)) - (s + 1) < nS (nsOf ((l.drop i).take n)) - s
      omega
    ((conv => (arg 1; reduce)); with_reducible repeat' (first | exact Tr.yes_h | refine Tr.and_h ?_ ?_ | refine Tr.imp_h fun _ => ?_ | refine Tr.all_h fun _ => ?_ | refine Tr.lf_h ?_))
    all_goals first | (first | first | (show Region.lexB _ _ = true; kernel_rfl) | (show planned _ _ = true; kernel_rfl) | exact rfl | exact True.intro | ((try dsimp only [imp, C0, cG, cInt, cPl, cSlot, cPg, rwCodec, cRaw] at *); (try refine inR64 ?_ ?_) <;> (try simp only [List.length_set, List.length_append, List.length_take, List.length_drop]) <;> omega)) | (show _ = _; unfold slotAt; rw [← q21, ← q22, ← q23, ← q24, ← q25, ← q26, ← q27, ← q28, show (nsOf ((l.drop i).take n)).getD (6 + 2 * nB (nsOf ((l.drop i).take n)) + 9 * s) 0 = _ from q20.symm]; rfl)
  · rename_i b0 h4 v hv h5 bp h6 w hw h7 h8 u hu h9
    have h4 : (decide ((n : Int) < 28) || decide ((n : Int).tmod 4 ≠ 0) || decide (nm l (((n : Int) - 4).toNat + i) ≠ crc ((l.drop i).take ((n : Int) - 4).toNat))) = false := h4
    rw [Int.tmod_eq_emod_of_nonneg (show (0 : Int) ≤ (n : Int) by omega)] at h4
    simp only [Bool.or_eq_false_iff, decide_eq_false_iff_not] at h4
    have h28 : 28 ≤ n := by omega
    have hm4 : n % 4 = 0 := by omega
    have e4 : ((n : Int) - 4).toNat = n - 4 := by omega
    obtain ⟨k, on, vb, vq, vl, vc⟩ := v
    obtain ⟨e1, e2⟩ : k ≤ (nsOf ((l.drop i).take n)).length ∧ Grw ((nsOf ((l.drop i).take n)).take k) vl on k vc := hv
    rw [hRl] at e1
    have h5 : ¬ 4 * (k : Int) + 4 < (n : Int) := of_decide_eq_false h5
    have hk : k = (n - 4) / 4 := by omega
    have hk4 : 4 * k = n - 4 := by omega
    have hg : ∀ t, t < k → vl.getD t 0 = (nsOf ((l.drop i).take n)).getD t 0 := by
      intro t ht
      rw [← tk_at (l := vl) (n := k) ht, e2.2.1, tk_at ht]
    have hon : on = true := on_of e2.2.2.2.2 (by omega)
    have hvl : k ≤ vl.length := Nat.le_trans e2.2.2.1 e2.2.2.2.1
    have htd : ((k : Int) - 6).tdiv 2 = ((k : Int) - 6) / 2 := Int.tdiv_eq_ediv_of_nonneg (by omega)
    have h6 : ¬ ((k : Int) - 6).tdiv 2 < vl.getD 4 0 := of_decide_eq_false h6
    rw [htd, hg 4 (by omega)] at h6
    have hu4 := ns_u32 (bv := ((l.drop i).take n)) hb 4
    obtain ⟨hB, hB2⟩ := nB_of (R := (nsOf ((l.drop i).take n))) (by rw [hRl]; omega) hu4.1 (by omega)
    obtain ⟨j, won, wb, wq, wl, wc⟩ := w
    obtain ⟨f1, f2, f3, f4⟩ : j ≤ nB (nsOf ((l.drop i).take n)) ∧ Grw (wl.take j) wl won j wc ∧ (wl.take j).map (·.l) = (blks (nsOf ((l.drop i).take n)) j).map lst ∧ ∀ r ∈ wl.take j, Rok r := hw
    have h7 : ¬ (j : Int) < vl.getD 4 0 := of_decide_eq_false h7
    rw [hg 4 (by omega), hB] at h7
    have hj : j = nB (nsOf ((l.drop i).take n)) := by omega
    have ht9 : ((k : Int) - (5 + 2 * (j : Int) + 1)).tdiv 9 = ((k : Int) - (5 + 2 * (j : Int) + 1)) / 9 := Int.tdiv_eq_ediv_of_nonneg (by omega)
    have q1 : vl.getD ((5 + 2 * (j : Int)).toNat + 0) 0 = (nsOf ((l.drop i).take n)).getD (5 + 2 * nB (nsOf ((l.drop i).take n))) 0 := by rw [show (5 + 2 * (j : Int)).toNat + 0 = 5 + 2 * nB (nsOf ((l.drop i).take n)) by omega]; exact hg _ (by omega)
    have hu5 := ns_u32 (bv := ((l.drop i).take n)) hb (5 + 2 * nB (nsOf ((l.drop i).take n)))
    have h8 : (decide (((k : Int) - (5 + 2 * (j : Int) + 1)).tdiv 9 < vl.getD ((5 + 2 * (j : Int)).toNat + 0) 0) || decide (5 + 2 * (j : Int) + 1 + 9 * vl.getD ((5 + 2 * (j : Int)).toNat + 0) 0 ≠ (k : Int))) = false := h8
    rw [ht9, q1] at h8
    simp only [Bool.or_eq_false_iff, decide_eq_false_iff_not] at h8
    obtain ⟨hS, hS2⟩ := nS_of (R := (nsOf ((l.drop i).take n))) (by omega) hu5.1 (by omega)
    obtain ⟨s, uon, ub, uq, ul, uc⟩ := u
    obtain ⟨d1, d2⟩ : s ≤ nS (nsOf ((l.drop i).take n)) ∧ Grw (slts (nsOf ((l.drop i).take n)) s) ul uon s uc := hu
    have h9 : ¬ (s : Int) < vl.getD ((5 + 2 * (j : Int)).toNat + 0) 0 := of_decide_eq_false h9
    rw [q1, hS] at h9
    have hs : s = nS (nsOf ((l.drop i).take n)) := by omega
    have hlen : ∀ r ∈ wl.take j, r.l.length = 2 := by
      intro r hr
      have hm : r.l ∈ (wl.take j).map (·.l) := List.mem_map.2 ⟨r, hr, rfl⟩
      rw [f3] at hm
      obtain ⟨x, _, hx⟩ := List.mem_map.1 hm
      rw [← hx]; rfl
    have hbk : (wl.take j).map blkOf = blks (nsOf ((l.drop i).take n)) j := by
      have hz : (wl.take j).map blkOf = ((wl.take j).map (·.l)).map (fun y => ((y.getD 0 0, y.getD 1 0) : Pl)) := by
        rw [List.map_map]
        refine List.map_congr_left fun r _ => ?_
        unfold blkOf; rfl
      rw [hz, f3, List.map_map]
      have : ((fun y : List Int => ((y.getD 0 0, y.getD 1 0) : Pl)) ∘ lst) = id := by funext x; rfl
      rw [this, List.map_id]
    exact ⟨⟨f2.2.2.1, Nat.le_trans f2.2.2.1 f2.2.2.2.1, f2.2.2.2.2⟩, ⟨d2.2.2.1, Nat.le_trans d2.2.2.1 d2.2.2.2.1, d2.2.2.2.2⟩, fun r hr => ⟨f4 r hr, hlen r hr⟩, by show j ≤ _; omega, by show s ≤ _; omega⟩
  · rename_i b0 h4 v hv h5 bp h6 w hw h7 h8 u hu h9 h10
    have h4 : (decide ((n : Int) < 28) || decide ((n : Int).tmod 4 ≠ 0) || decide (nm l (((n : Int) - 4).toNat + i) ≠ crc ((l.drop i).take ((n : Int) - 4).toNat))) = false := h4
    rw [Int.tmod_eq_emod_of_nonneg (show (0 : Int) ≤ (n : Int) by omega)] at h4
    simp only [Bool.or_eq_false_iff, decide_eq_false_iff_not] at h4
    have h28 : 28 ≤ n := by omega
    have hm4 : n % 4 = 0 := by omega
    have e4 : ((n : Int) - 4).toNat = n - 4 := by omega
    obtain ⟨k, on, vb, vq, vl, vc⟩ := v
    obtain ⟨e1, e2⟩ : k ≤ (nsOf ((l.drop i).take n)).length ∧ Grw ((nsOf ((l.drop i).take n)).take k) vl on k vc := hv
    rw [hRl] at e1
    have h5 : ¬ 4 * (k : Int) + 4 < (n : Int) := of_decide_eq_false h5
    have hk : k = (n - 4) / 4 := by omega
    have hk4 : 4 * k = n - 4 := by omega
    have hg : ∀ t, t < k → vl.getD t 0 = (nsOf ((l.drop i).take n)).getD t 0 := by
      intro t ht
      rw [← tk_at (l := vl) (n := k) ht, e2.2.1, tk_at ht]
    have hon : on = true := on_of e2.2.2.2.2 (by omega)
    have hvl : k ≤ vl.length := Nat.le_trans e2.2.2.1 e2.2.2.2.1
    have htd : ((k : Int) - 6).tdiv 2 = ((k : Int) - 6) / 2 := Int.tdiv_eq_ediv_of_nonneg (by omega)
    have h6 : ¬ ((k : Int) - 6).tdiv 2 < vl.getD 4 0 := of_decide_eq_false h6
    rw [htd, hg 4 (by omega)] at h6
    have hu4 := ns_u32 (bv := ((l.drop i).take n)) hb 4
    obtain ⟨hB, hB2⟩ := nB_of (R := (nsOf ((l.drop i).take n))) (by rw [hRl]; omega) hu4.1 (by omega)
    obtain ⟨j, won, wb, wq, wl, wc⟩ := w
    obtain ⟨f1, f2, f3, f4⟩ : j ≤ nB (nsOf ((l.drop i).take n)) ∧ Grw (wl.take j) wl won j wc ∧ (wl.take j).map (·.l) = (blks (nsOf ((l.drop i).take n)) j).map lst ∧ ∀ r ∈ wl.take j, Rok r := hw
    have h7 : ¬ (j : Int) < vl.getD 4 0 := of_decide_eq_false h7
    rw [hg 4 (by omega), hB] at h7
    have hj : j = nB (nsOf ((l.drop i).take n)) := by omega
    have ht9 : ((k : Int) - (5 + 2 * (j : Int) + 1)).tdiv 9 = ((k : Int) - (5 + 2 * (j : Int) + 1)) / 9 := Int.tdiv_eq_ediv_of_nonneg (by omega)
    have q1 : vl.getD ((5 + 2 * (j : Int)).toNat + 0) 0 = (nsOf ((l.drop i).take n)).getD (5 + 2 * nB (nsOf ((l.drop i).take n))) 0 := by rw [show (5 + 2 * (j : Int)).toNat + 0 = 5 + 2 * nB (nsOf ((l.drop i).take n)) by omega]; exact hg _ (by omega)
    have hu5 := ns_u32 (bv := ((l.drop i).take n)) hb (5 + 2 * nB (nsOf ((l.drop i).take n)))
    have h8 : (decide (((k : Int) - (5 + 2 * (j : Int) + 1)).tdiv 9 < vl.getD ((5 + 2 * (j : Int)).toNat + 0) 0) || decide (5 + 2 * (j : Int) + 1 + 9 * vl.getD ((5 + 2 * (j : Int)).toNat + 0) 0 ≠ (k : Int))) = false := h8
    rw [ht9, q1] at h8
    simp only [Bool.or_eq_false_iff, decide_eq_false_iff_not] at h8
    obtain ⟨hS, hS2⟩ := nS_of (R := (nsOf ((l.drop i).take n))) (by omega) hu5.1 (by omega)
    obtain ⟨s, uon, ub, uq, ul, uc⟩ := u
    obtain ⟨d1, d2⟩ : s ≤ nS (nsOf ((l.drop i).take n)) ∧ Grw (slts (nsOf ((l.drop i).take n)) s) ul uon s uc := hu
    have h9 : ¬ (s : Int) < vl.getD ((5 + 2 * (j : Int)).toNat + 0) 0 := of_decide_eq_false h9
    rw [q1, hS] at h9
    have hs : s = nS (nsOf ((l.drop i).take n)) := by omega
    have hlen : ∀ r ∈ wl.take j, r.l.length = 2 := by
      intro r hr
      have hm : r.l ∈ (wl.take j).map (·.l) := List.mem_map.2 ⟨r, hr, rfl⟩
      rw [f3] at hm
      obtain ⟨x, _, hx⟩ := List.mem_map.1 hm
      rw [← hx]; rfl
    have hbk : (wl.take j).map blkOf = blks (nsOf ((l.drop i).take n)) j := by
      have hz : (wl.take j).map blkOf = ((wl.take j).map (·.l)).map (fun y => ((y.getD 0 0, y.getD 1 0) : Pl)) := by
        rw [List.map_map]
        refine List.map_congr_left fun r _ => ?_
        unfold blkOf; rfl
      rw [hz, f3, List.map_map]
      have : ((fun y : List Int => ((y.getD 0 0, y.getD 1 0) : Pl)) ∘ lst) = id := by funext x; rfl
      rw [this, List.map_id]
    have h10 : (!okP (hdR (nsOf ((l.drop i).take n))) ((wl.take j).map blkOf) (ul.take s)) = true := h10
    rw [hbk, d2.2.1, hj, hs] at h10
    refine Ends.one () (fun h A B hp => ?_) ?_
    · obtain ⟨z1, z2, z3, z4, z5, z6⟩ := isPt_facts hp (by rw [hbl]; omega)
      rw [z6] at h10
      cases h10
    ((conv => (arg 1; reduce)); with_reducible repeat' (first | exact Tr.yes_h | refine Tr.and_h ?_ ?_ | refine Tr.imp_h fun _ => ?_ | refine Tr.all_h fun _ => ?_ | refine Tr.lf_h ?_))
    all_goals (first | first | (show Region.lexB _ _ = true; kernel_rfl) | (show planned _ _ = true; kernel_rfl) | exact rfl | exact True.intro | ((try dsimp only [imp, C0, cG, cInt, cPl, cSlot, cPg, rwCodec, cRaw] at *); (try refine inR64 ?_ ?_) <;> (try simp only [List.length_set, List.length_append, List.length_take, List.length_drop]) <;> omega))
  · rename_i b0 h4 v hv h5 bp h6 w hw h7 h8 u hu h9 h10
    have h4 : (decide ((n : Int) < 28) || decide ((n : Int).tmod 4 ≠ 0) || decide (nm l (((n : Int) - 4).toNat + i) ≠ crc ((l.drop i).take ((n : Int) - 4).toNat))) = false := h4
    rw [Int.tmod_eq_emod_of_nonneg (show (0 : Int) ≤ (n : Int) by omega)] at h4
    simp only [Bool.or_eq_false_iff, decide_eq_false_iff_not] at h4
    have h28 : 28 ≤ n := by omega
    have hm4 : n % 4 = 0 := by omega
    have e4 : ((n : Int) - 4).toNat = n - 4 := by omega
    obtain ⟨k, on, vb, vq, vl, vc⟩ := v
    obtain ⟨e1, e2⟩ : k ≤ (nsOf ((l.drop i).take n)).length ∧ Grw ((nsOf ((l.drop i).take n)).take k) vl on k vc := hv
    rw [hRl] at e1
    have h5 : ¬ 4 * (k : Int) + 4 < (n : Int) := of_decide_eq_false h5
    have hk : k = (n - 4) / 4 := by omega
    have hk4 : 4 * k = n - 4 := by omega
    have hg : ∀ t, t < k → vl.getD t 0 = (nsOf ((l.drop i).take n)).getD t 0 := by
      intro t ht
      rw [← tk_at (l := vl) (n := k) ht, e2.2.1, tk_at ht]
    have hon : on = true := on_of e2.2.2.2.2 (by omega)
    have hvl : k ≤ vl.length := Nat.le_trans e2.2.2.1 e2.2.2.2.1
    have htd : ((k : Int) - 6).tdiv 2 = ((k : Int) - 6) / 2 := Int.tdiv_eq_ediv_of_nonneg (by omega)
    have h6 : ¬ ((k : Int) - 6).tdiv 2 < vl.getD 4 0 := of_decide_eq_false h6
    rw [htd, hg 4 (by omega)] at h6
    have hu4 := ns_u32 (bv := ((l.drop i).take n)) hb 4
    obtain ⟨hB, hB2⟩ := nB_of (R := (nsOf ((l.drop i).take n))) (by rw [hRl]; omega) hu4.1 (by omega)
    obtain ⟨j, won, wb, wq, wl, wc⟩ := w
    obtain ⟨f1, f2, f3, f4⟩ : j ≤ nB (nsOf ((l.drop i).take n)) ∧ Grw (wl.take j) wl won j wc ∧ (wl.take j).map (·.l) = (blks (nsOf ((l.drop i).take n)) j).map lst ∧ ∀ r ∈ wl.take j, Rok r := hw
    have h7 : ¬ (j : Int) < vl.getD 4 0 := of_decide_eq_false h7
    rw [hg 4 (by omega), hB] at h7
    have hj : j = nB (nsOf ((l.drop i).take n)) := by omega
    have ht9 : ((k : Int) - (5 + 2 * (j : Int) + 1)).tdiv 9 = ((k : Int) - (5 + 2 * (j : Int) + 1)) / 9 := Int.tdiv_eq_ediv_of_nonneg (by omega)
    have q1 : vl.getD ((5 + 2 * (j : Int)).toNat + 0) 0 = (nsOf ((l.drop i).take n)).getD (5 + 2 * nB (nsOf ((l.drop i).take n))) 0 := by rw [show (5 + 2 * (j : Int)).toNat + 0 = 5 + 2 * nB (nsOf ((l.drop i).take n)) by omega]; exact hg _ (by omega)
    have hu5 := ns_u32 (bv := ((l.drop i).take n)) hb (5 + 2 * nB (nsOf ((l.drop i).take n)))
    have h8 : (decide (((k : Int) - (5 + 2 * (j : Int) + 1)).tdiv 9 < vl.getD ((5 + 2 * (j : Int)).toNat + 0) 0) || decide (5 + 2 * (j : Int) + 1 + 9 * vl.getD ((5 + 2 * (j : Int)).toNat + 0) 0 ≠ (k : Int))) = false := h8
    rw [ht9, q1] at h8
    simp only [Bool.or_eq_false_iff, decide_eq_false_iff_not] at h8
    obtain ⟨hS, hS2⟩ := nS_of (R := (nsOf ((l.drop i).take n))) (by omega) hu5.1 (by omega)
    obtain ⟨s, uon, ub, uq, ul, uc⟩ := u
    obtain ⟨d1, d2⟩ : s ≤ nS (nsOf ((l.drop i).take n)) ∧ Grw (slts (nsOf ((l.drop i).take n)) s) ul uon s uc := hu
    have h9 : ¬ (s : Int) < vl.getD ((5 + 2 * (j : Int)).toNat + 0) 0 := of_decide_eq_false h9
    rw [q1, hS] at h9
    have hs : s = nS (nsOf ((l.drop i).take n)) := by omega
    have hlen : ∀ r ∈ wl.take j, r.l.length = 2 := by
      intro r hr
      have hm : r.l ∈ (wl.take j).map (·.l) := List.mem_map.2 ⟨r, hr, rfl⟩
      rw [f3] at hm
      obtain ⟨x, _, hx⟩ := List.mem_map.1 hm
      rw [← hx]; rfl
    have hbk : (wl.take j).map blkOf = blks (nsOf ((l.drop i).take n)) j := by
      have hz : (wl.take j).map blkOf = ((wl.take j).map (·.l)).map (fun y => ((y.getD 0 0, y.getD 1 0) : Pl)) := by
        rw [List.map_map]
        refine List.map_congr_left fun r _ => ?_
        unfold blkOf; rfl
      rw [hz, f3, List.map_map]
      have : ((fun y : List Int => ((y.getD 0 0, y.getD 1 0) : Pl)) ∘ lst) = id := by funext x; rfl
      rw [this, List.map_id]
    have h10 : (!okP (hdR (nsOf ((l.drop i).take n))) ((wl.take j).map blkOf) (ul.take s)) = false := h10
    rw [hbk, d2.2.1, hj, hs] at h10
    have hnm : nm l ((n - 4) + i) = nm ((l.drop i).take n) (n - 4) := by
      rw [nm_take _ (by omega), nm_drop, Nat.add_comm]
    have hcr : (l.drop i).take (n - 4) = ((l.drop i).take n).take (n - 4) := by rw [List.take_take]; congr 1; omega
    have hcc := h4.2
    rw [e4, hnm, hcr] at hcc
    have hp := isPt_of (bv := ((l.drop i).take n)) hb (by rw [hbl]; omega) (by rw [hbl]; exact Decidable.of_not_not hcc) (by omega) (by rw [hbl]; omega) (by simpa using h10)
    refine Ends.next (Ends.one (hdR (nsOf ((l.drop i).take n)), (won, wb, wq, wl, j, wc), (uon, ub, uq, ul, s, uc)) ⟨?_, ⟨f2.2.2.1, Nat.le_trans f2.2.2.1 f2.2.2.2.1, f2.2.2.2.2⟩, ⟨d2.2.2.1, Nat.le_trans d2.2.2.1 d2.2.2.2.1, d2.2.2.2.2⟩, fun r hr => ⟨f4 r hr, hlen r hr⟩⟩ ?_)
    · show IsPt _ _ ((wl.take j).map blkOf) (ul.take s)
      rw [hbk, d2.2.1, hj, hs]
      exact hp
    ((conv => (arg 1; reduce)); with_reducible repeat' (first | exact Tr.yes_h | refine Tr.and_h ?_ ?_ | refine Tr.imp_h fun _ => ?_ | refine Tr.all_h fun _ => ?_ | refine Tr.lf_h ?_))
    all_goals (first | first | (show Region.lexB _ _ = true; kernel_rfl) | (show planned _ _ = true; kernel_rfl) | exact rfl | exact True.intro | ((try dsimp only [imp, C0, cG, cInt, cPl, cSlot, cPg, rwCodec, cRaw] at *); (try refine inR64 ?_ ?_) <;> (try simp only [List.length_set, List.length_append, List.length_take, List.length_drop]) <;> omega))
def fcRopen : Fc Tryd.prog C0 where
  tg := .fn 17
  X := Bool × Nat × Nat × List Int × Nat × Nat × Nat
  args := fun (o, b, q, l, i, n, c) => [.sl 0 i n c]
  mem := fun (o, b, q, l, i, n, c) => [⟨b, q, 1, false, some o, .rows 5 l⟩]
  pre := fun (o, b, q, l, i, n, c) => n ≤ c ∧ i + c ≤ l.length ∧ n < 140737488355000 ∧ (o = false → n = 0 ∧ c = 0) ∧ Bys ((l.drop i).take n) ∧ n ≤ 1000000
  alts := fun (o, b, q, l, i, n, c) => [⟨Unit, fun _ => ∀ h A B, ¬ IsPt ((l.drop i).take n) h A B, fun _ => .tup [ptv (0, 0, 0, 0) .nils .nils, .bool .f], fun _ => [⟨b, q, 1, false, some o, .rows 5 l⟩]⟩,
     ⟨Hd × (Bool × Nat × Nat × List (Rw Int) × Nat × Nat) × (Bool × Nat × Nat × List Slot × Nat × Nat), fun y => IsPt ((l.drop i).take n) y.1 ((y.2.1.2.2.2.1.take y.2.1.2.2.2.2.1).map blkOf) (y.2.2.2.2.2.1.take y.2.2.2.2.2.2.1) ∧ Sq.ok y.2.1 ∧ Sq.ok y.2.2 ∧ ∀ r ∈ y.2.1.2.2.2.1.take y.2.1.2.2.2.2.1, Rok r ∧ r.l.length = 2,
      fun y => .tup [ptv y.1 (.sl 1 0 y.2.1.2.2.2.2.1 y.2.1.2.2.2.2.2) (.sl 2 0 y.2.2.2.2.2.2.1 y.2.2.2.2.2.2.2), .bool .t],
      fun y => [⟨b, q, 1, false, some o, .rows 5 l⟩, ⟨y.2.1.2.1, y.2.1.2.2.1, 1, true, some y.2.1.1, .rows 71 y.2.1.2.2.2.1⟩, ⟨y.2.2.2.1, y.2.2.2.2.1, 9, true, some y.2.2.1, .rows 74 y.2.2.2.2.2.1⟩]⟩]
  mat vs m := match vs with
    | [.sl a i n c] => match nth m a with
      | ⟨b, q, _, _, g, .rows 5 l⟩ => some ((onOf g, b, q, l, i, n, c), [a])
      | _ => none
    | [.nils] => some ((false, 0, 0, [], 0, 0, 0), [m.length])
    | _ => none
  ok := fun (o, b, q, l, i, n, c) h => ropen_ok o b q l i n c h.1 h.2.1 h.2.2.1 h.2.2.2.1 h.2.2.2.2.1 h.2.2.2.2.2
end Go.Vx
