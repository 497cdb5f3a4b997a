/-
  Round 23: a point that may be, az the document has it.
  Round 23: a point's bytes, az the document has them.
  Round 23: bytes in pieces, az the document has it.
  Round 23: bytes of pieces, az the document has it.
  Round 23: a reader of numbers; what bytes are a point.
  Conditions: none.
-/
import Derived.Test.YtmdnpfocihfkdaaDoorM4
import Derived.Test.YtmdnpfocihfkdaaDoorM6
set_option linter.unusedSectionVars false
set_option maxRecDepth 100000
set_option linter.unusedVariables false
set_option linter.unusedSimpArgs false
namespace Go.Vx
open Go Go.Proofs
variable [Gl]

theorem map_at {l : List (Rw Int)} {n v : Nat} (hv : v < n) (h : n ≤ l.length) : ((l.take n).map blkOf).getD v (0, 0) = blkOf (l.getD v Rw.nil) := by
  rw [List.getD_eq_getElem?_getD, List.getElem?_map, List.getElem?_take_of_lt hv, List.getD_eq_getElem?_getD, List.getElem?_eq_getElem (by omega)]; rfl
theorem okBs_no {A : List Pl} {i : Nat} (h : okBs A i = false) : ∀ k, okBs A (i + k) = false
  | 0 => h
  | k + 1 => by
    show okBs A (i + k + 1) = false
    rw [okBs, okBs_no h k]; rfl
theorem okSs_no {A : List Pl} {ok : Bool} {B : List Slot} {i : Nat} (h : okSs A ok B i = false) : ∀ k, okSs A ok B (i + k) = false
  | 0 => h
  | k + 1 => by
    show okSs A ok B (i + k + 1) = false
    rw [okSs, okSs_no h k]; rfl
theorem okP_noS {h : Hd} {A : List Pl} {B : List Slot} {i : Nat} (hh : okSs A (okH h && okBs A A.length) B i = false) (hi : i ≤ B.length) : okP h A B = false := by
  have := okSs_no hh (B.length - i)
  rw [show i + (B.length - i) = B.length by omega] at this
  unfold okP; exact this
theorem okP_noB {h : Hd} {A : List Pl} {B : List Slot} {i : Nat} (hh : okBs A i = false) (hi : i ≤ A.length) : okP h A B = false := by
  have := okBs_no hh (A.length - i)
  rw [show i + (A.length - i) = A.length by omega] at this
  exact okP_noS (i := 0) (by rw [okSs, this, Bool.and_false]) (Nat.zero_le _)
theorem okP_noH {h : Hd} {A : List Pl} {B : List Slot} (hh : okH h = false) : okP h A B = false := okP_noS (i := 0) (by rw [okSs, hh]; rfl) (Nat.zero_le _)
theorem blk_no1 {ok : Bool} {i : Nat} {p b : Pl} (h : (decide (b.1 < 0) || decide (64 ≤ b.1) || !cn b.2) = true) : okB ok i p b = false := by
  unfold okB
  cases hk : cn b.2 with
  | false => simp
  | true =>
    rw [hk] at h
    simp only [Bool.not_true, Bool.or_false, Bool.or_eq_true, decide_eq_true_iff] at h
    rcases h with h | h
    · have : cn b.1 = false := by
        cases hc : cn b.1 with
        | false => rfl
        | true => have := cn_iff.1 hc; omega
      rw [this]; simp
    · rw [decide_eq_false (by omega : ¬ b.1 < 64)]; simp
theorem blk_no2 {ok : Bool} {i : Nat} {p b : Pl} (hi : 0 < i) (h : b.1 ≤ p.1) : okB ok i p b = false := by
  unfold okB
  rw [decide_eq_false (by omega : ¬ i = 0), decide_eq_false (by omega : ¬ p.1 < b.1)]; simp
theorem blk_yes {i : Nat} {p b : Pl} (h : (decide (b.1 < 0) || decide (64 ≤ b.1) || !cn b.2) = false) (h2 : i = 0 ∨ ¬ b.1 ≤ p.1) : (true && okB true i p b) = true := by
  simp only [Bool.or_eq_false_iff, decide_eq_false_iff_not, Bool.not_eq_false'] at h
  obtain ⟨⟨g1, g2⟩, g3⟩ := h
  unfold okB
  rw [g3, cn_iff.2 ⟨by omega, by omega⟩, decide_eq_true (by omega : b.1 < 64)]
  rcases h2 with h2 | h2
  · rw [decide_eq_true h2]; simp
  · rw [decide_eq_true (by omega : p.1 < b.1)]; simp
theorem slt_no1 {A : List Pl} {ok : Bool} {i : Nat} {p s : Slot} (h : (!anyF (fun x => decide (x.1 = s.pl.1)) A || decide (s.pl.2 < 0) || decide (64 ≤ s.pl.2) || !cn s.key || !okMe s.me) = true) : okS A ok i p s = false := by
  unfold okS
  cases h1 : anyF (fun x => decide (x.1 = s.pl.1)) A with
  | false => simp
  | true =>
    cases h2 : cn s.key with
    | false => simp
    | true =>
      cases h3 : okMe s.me with
      | false => simp
      | true =>
        rw [h1, h2, h3] at h
        simp only [Bool.not_true, Bool.or_false, Bool.false_or, Bool.or_eq_true, decide_eq_true_iff] at h
        rcases h with h | h
        · have : cn s.pl.2 = false := by
            cases hc : cn s.pl.2 with
            | false => rfl
            | true => have := cn_iff.1 hc; omega
          rw [this]; simp
        · rw [decide_eq_false (by omega : ¬ s.pl.2 < 64)]; simp
theorem slt_no2 {A : List Pl} {ok : Bool} {i : Nat} {p s : Slot} (hi : 0 < i) (h : (decide (s.pl.1 < p.pl.1) || (decide (p.pl.1 = s.pl.1) && decide (s.pl.2 ≤ p.pl.2))) = true) : okS A ok i p s = false := by
  simp only [Bool.or_eq_true, Bool.and_eq_true, decide_eq_true_iff] at h
  unfold okS
  have : (decide (i = 0) || (decide (p.pl.1 < s.pl.1) || (decide (p.pl.1 = s.pl.1) && decide (p.pl.2 < s.pl.2)))) = false := by
    simp only [Bool.or_eq_false_iff, Bool.and_eq_false_iff, decide_eq_false_iff_not]
    omega
  rw [this]; simp
theorem slt_yes {A : List Pl} {i : Nat} {p s : Slot} (h : (!anyF (fun x => decide (x.1 = s.pl.1)) A || decide (s.pl.2 < 0) || decide (64 ≤ s.pl.2) || !cn s.key || !okMe s.me) = false)
    (h2 : i = 0 ∨ (decide (s.pl.1 < p.pl.1) || (decide (p.pl.1 = s.pl.1) && decide (s.pl.2 ≤ p.pl.2))) = false) : okS A true i p s = true := by
  simp only [Bool.or_eq_false_iff, decide_eq_false_iff_not, Bool.not_eq_false'] at h
  obtain ⟨⟨⟨⟨g1, g2⟩, g3⟩, g4⟩, g5⟩ := h
  unfold okS
  have : (decide (i = 0) || (decide (p.pl.1 < s.pl.1) || (decide (p.pl.1 = s.pl.1) && decide (p.pl.2 < s.pl.2)))) = true := by
    simp only [Bool.or_eq_false_iff, Bool.and_eq_false_iff, decide_eq_false_iff_not] at h2
    simp only [Bool.or_eq_true, Bool.and_eq_true, decide_eq_true_iff]
    omega
  rw [this, g1, g4, g5, cn_iff.2 ⟨by omega, by omega⟩, decide_eq_true (by omega : s.pl.2 < 64)]
  rfl
def Mr4 (h : Hd) (A : List Pl) : Inv' C0 := ⟨4, Nat, fun i => [(3, .int .i64 (i : Int))], fun _ m => m, fun i => i ≤ A.length ∧ (okH h && okBs A i) = true, fun i => A.length - i⟩
def Mr10 (h : Hd) (A : List Pl) (B : List Slot) : Inv' C0 := ⟨10, Nat, fun i => [(5, .int .i64 (i : Int))], fun _ m => m, fun i => i ≤ B.length ∧ okSs A (okH h && okBs A A.length) B i = true, fun i => B.length - i⟩
def Mr15 (A : List Pl) (B : List Slot) : Inv' C0 := ⟨15, Nat × Bool × Nat, fun x => [(8, .int .i64 (x.1 : Int)), (7, .bool (.tm x.2.1)), (5, .int .i64 (x.2.2 : Int))], fun _ m => m, fun x => x.1 ≤ A.length ∧ x.2.1 = anyF (fun b => decide (b.1 = (B.getD x.2.2 slot0).pl.1)) (A.take x.1), fun x => A.length - x.1⟩
set_option maxHeartbeats 8000000 in
theorem rpmay_ok (h : Hd) (o : Bool) (b q : Nat) (l : List (Rw Int)) (n c : Nat) (o2 : Bool) (b2 q2 : Nat) (l2 : List Slot) (n2 c2 : Nat)
    (h1 : Sq.ok (o, b, q, l, n, c)) (h2 : Sq.ok (o2, b2, q2, l2, n2, c2)) (hr : ∀ r ∈ l.take n, Rok r ∧ r.l.length = 2) (hn : n ≤ 1000000) (hn2 : n2 ≤ 1000000) :
    Tells (C := C0) Tryd.prog (.fn 12) [⟨b, q, 1, false, some o, .rows 71 l⟩, ⟨b2, q2, 9, false, some o2, .rows 74 l2⟩] [ptv h (.sl 0 0 n c) (.sl 1 0 n2 c2)] (.bool (.tm (okP h ((l.take n).map blkOf) (l2.take n2)))) := by
  have hnl : n ≤ l.length := h1.2.1
  have hnl2 : n2 ≤ l2.length := h2.2.1
  have hAl : ((l.take n).map blkOf).length = n := by rw [List.length_map]; exact tk_len hnl
  refine loc_pc (P := Tryd.prog) (E := ⟨[], [pcCount, pcRmay], 169, [], [fI], []⟩) (L := [Mr4 h ((l.take n).map blkOf), Mr10 h ((l.take n).map blkOf) (l2.take n2), Mr15 ((l.take n).map blkOf) (l2.take n2)]) mix Tryd.func12 rfl (by kernel_rfl) (by kernel_rfl) rfl rfl ?_
  ((conv => (arg 1; reduce)); with_reducible repeat' (first | exact Tr.yes_h | refine Tr.and_h ?_ ?_ | refine Tr.imp_h fun _ => ?_ | refine Tr.all_h fun _ => ?_ | refine Tr.lf_h ?_))
  all_goals try (first | first | (show Region.lexB _ _ = true; kernel_rfl) | (show planned _ _ = true; kernel_rfl) | exact rfl | exact True.intro | ((try dsimp only [imp, C0, cG, cInt, cPl, cSlot, cPg, rwCodec, cRaw] at *); (try refine inR64 ?_ ?_) <;> (try simp only [List.length_set, List.length_append, List.length_take, List.length_drop]) <;> omega))
  · rename_i b0 h0
    have h0 : (!cn h.1 || !cn h.2.1 || !cn h.2.2.1 || !cn h.2.2.2) = true := h0
    refine (okP_noH ?_).symm
    unfold okH
    rw [← Bool.not_eq_true', Bool.not_and, Bool.not_and, Bool.not_and]
    exact h0
  · rename_i b0 h0
    have h0 : (!cn h.1 || !cn h.2.1 || !cn h.2.2.1 || !cn h.2.2.2) = false := h0
    have hH : okH h = true := by
      unfold okH
      rw [← Bool.not_eq_false', Bool.not_and, Bool.not_and, Bool.not_and]
      exact h0
    refine Stands.one (0 : Nat) ⟨⟨Nat.zero_le _, by rw [hH]; rfl⟩, ?_⟩
    ((conv => (arg 1; reduce)); with_reducible repeat' (first | exact Tr.yes_h | refine Tr.and_h ?_ ?_ | refine Tr.imp_h fun _ => ?_ | refine Tr.all_h fun _ => ?_ | refine Tr.lf_h ?_))
    all_goals (first | first | (show Region.lexB _ _ = true; kernel_rfl) | (show planned _ _ = true; kernel_rfl) | exact rfl | exact True.intro | ((try dsimp only [imp, C0, cG, cInt, cPl, cSlot, cPg, rwCodec, cRaw] at *); (try refine inR64 ?_ ?_) <;> (try simp only [List.length_set, List.length_append, List.length_take, List.length_drop]) <;> omega))
  · rename_i b0 h0 v hv h3
    change Nat at v
    obtain ⟨e1, e2⟩ : v ≤ ((l.take n).map blkOf).length ∧ (okH h && okBs ((l.take n).map blkOf) v) = true := hv
    have h3 : v < n := Int.ofNat_lt.1 (of_decide_eq_true h3)
    rw [hAl] at e1
    exact on_of h1.2.2 (Nat.lt_of_le_of_lt (Nat.zero_le _) h3)
  · rename_i b0 h0 v hv h3
    change Nat at v
    obtain ⟨e1, e2⟩ : v ≤ ((l.take n).map blkOf).length ∧ (okH h && okBs ((l.take n).map blkOf) v) = true := hv
    have h3 : v < n := Int.ofNat_lt.1 (of_decide_eq_true h3)
    rw [hAl] at e1
    exact Int.ofNat_lt.2 h3
  · rename_i b0 h0 v hv h3
    change Nat at v
    obtain ⟨e1, e2⟩ : v ≤ ((l.take n).map blkOf).length ∧ (okH h && okBs ((l.take n).map blkOf) v) = true := hv
    have h3 : v < n := Int.ofNat_lt.1 (of_decide_eq_true h3)
    rw [hAl] at e1
    exact on_of h1.2.2 (Nat.lt_of_le_of_lt (Nat.zero_le _) h3)
  · rename_i b0 h0 v hv h3
    change Nat at v
    obtain ⟨e1, e2⟩ : v ≤ ((l.take n).map blkOf).length ∧ (okH h && okBs ((l.take n).map blkOf) v) = true := hv
    have h3 : v < n := Int.ofNat_lt.1 (of_decide_eq_true h3)
    rw [hAl] at e1
    show (v : Int).toNat + 0 < l.length
    omega
  · rename_i b0 h0 v hv h3 r hr1
    change Nat at v
    obtain ⟨e1, e2⟩ : v ≤ ((l.take n).map blkOf).length ∧ (okH h && okBs ((l.take n).map blkOf) v) = true := hv
    have h3 : v < n := Int.ofNat_lt.1 (of_decide_eq_true h3)
    rw [hAl] at e1
    change Rw Int at r
    have hr1 : l.getD v Rw.nil = r := hr1
    obtain ⟨⟨g1, g2, g3⟩, g4⟩ := hr r (row_mem h3 hnl hr1)
    exact on_of g1 (by omega)
  · rename_i b0 h0 v hv h3 r hr1
    change Nat at v
    obtain ⟨e1, e2⟩ : v ≤ ((l.take n).map blkOf).length ∧ (okH h && okBs ((l.take n).map blkOf) v) = true := hv
    have h3 : v < n := Int.ofNat_lt.1 (of_decide_eq_true h3)
    rw [hAl] at e1
    change Rw Int at r
    have hr1 : l.getD v Rw.nil = r := hr1
    obtain ⟨⟨g1, g2, g3⟩, g4⟩ := hr r (row_mem h3 hnl hr1)
    show (0 : Int) < ((r.l.length : Nat) : Int)
    rw [g4]; decide
  · rename_i b0 h0 v hv h3 r hr1
    change Nat at v
    obtain ⟨e1, e2⟩ : v ≤ ((l.take n).map blkOf).length ∧ (okH h && okBs ((l.take n).map blkOf) v) = true := hv
    have h3 : v < n := Int.ofNat_lt.1 (of_decide_eq_true h3)
    rw [hAl] at e1
    change Rw Int at r
    have hr1 : l.getD v Rw.nil = r := hr1
    obtain ⟨⟨g1, g2, g3⟩, g4⟩ := hr r (row_mem h3 hnl hr1)
    exact on_of g1 (by omega)
  · rename_i b0 h0 v hv h3 r hr1
    change Nat at v
    obtain ⟨e1, e2⟩ : v ≤ ((l.take n).map blkOf).length ∧ (okH h && okBs ((l.take n).map blkOf) v) = true := hv
    have h3 : v < n := Int.ofNat_lt.1 (of_decide_eq_true h3)
    rw [hAl] at e1
    change Rw Int at r
    have hr1 : l.getD v Rw.nil = r := hr1
    obtain ⟨⟨g1, g2, g3⟩, g4⟩ := hr r (row_mem h3 hnl hr1)
    show (0 : Int).toNat + 0 < r.l.length
    rw [g4]; decide
  · rename_i b0 h0 v hv h3 r hr1 h5
    change Nat at v
    obtain ⟨e1, e2⟩ : v ≤ ((l.take n).map blkOf).length ∧ (okH h && okBs ((l.take n).map blkOf) v) = true := hv
    have h3 : v < n := Int.ofNat_lt.1 (of_decide_eq_true h3)
    rw [hAl] at e1
    change Rw Int at r
    have hr1 : l.getD v Rw.nil = r := hr1
    obtain ⟨⟨g1, g2, g3⟩, g4⟩ := hr r (row_mem h3 hnl hr1)
    exact on_of g1 (by omega)
  · rename_i b0 h0 v hv h3 r hr1 h5
    change Nat at v
    obtain ⟨e1, e2⟩ : v ≤ ((l.take n).map blkOf).length ∧ (okH h && okBs ((l.take n).map blkOf) v) = true := hv
    have h3 : v < n := Int.ofNat_lt.1 (of_decide_eq_true h3)
    rw [hAl] at e1
    change Rw Int at r
    have hr1 : l.getD v Rw.nil = r := hr1
    obtain ⟨⟨g1, g2, g3⟩, g4⟩ := hr r (row_mem h3 hnl hr1)
    show (0 : Int) < ((r.l.length : Nat) : Int)
    rw [g4]; decide
  · rename_i b0 h0 v hv h3 r hr1 h5
    change Nat at v
    obtain ⟨e1, e2⟩ : v ≤ ((l.take n).map blkOf).length ∧ (okH h && okBs ((l.take n).map blkOf) v) = true := hv
    have h3 : v < n := Int.ofNat_lt.1 (of_decide_eq_true h3)
    rw [hAl] at e1
    change Rw Int at r
    have hr1 : l.getD v Rw.nil = r := hr1
    obtain ⟨⟨g1, g2, g3⟩, g4⟩ := hr r (row_mem h3 hnl hr1)
    exact on_of g1 (by omega)
  · rename_i b0 h0 v hv h3 r hr1 h5
    change Nat at v
    obtain ⟨e1, e2⟩ : v ≤ ((l.take n).map blkOf).length ∧ (okH h && okBs ((l.take n).map blkOf) v) = true := hv
    have h3 : v < n := Int.ofNat_lt.1 (of_decide_eq_true h3)
    rw [hAl] at e1
    change Rw Int at r
    have hr1 : l.getD v Rw.nil = r := hr1
    obtain ⟨⟨g1, g2, g3⟩, g4⟩ := hr r (row_mem h3 hnl hr1)
    show (0 : Int).toNat + 0 < r.l.length
    rw [g4]; decide
  · rename_i b0 h0 v hv h3 r hr1 h5
    change Nat at v
    obtain ⟨e1, e2⟩ : v ≤ ((l.take n).map blkOf).length ∧ (okH h && okBs ((l.take n).map blkOf) v) = true := hv
    have h3 : v < n := Int.ofNat_lt.1 (of_decide_eq_true h3)
    rw [hAl] at e1
    change Rw Int at r
    have hr1 : l.getD v Rw.nil = r := hr1
    obtain ⟨⟨g1, g2, g3⟩, g4⟩ := hr r (row_mem h3 hnl hr1)
    exact on_of g1 (by omega)
  · rename_i b0 h0 v hv h3 r hr1 h5
    change Nat at v
    obtain ⟨e1, e2⟩ : v ≤ ((l.take n).map blkOf).length ∧ (okH h && okBs ((l.take n).map blkOf) v) = true := hv
    have h3 : v < n := Int.ofNat_lt.1 (of_decide_eq_true h3)
    rw [hAl] at e1
    change Rw Int at r
    have hr1 : l.getD v Rw.nil = r := hr1
    obtain ⟨⟨g1, g2, g3⟩, g4⟩ := hr r (row_mem h3 hnl hr1)
    show (1 : Int) < ((r.l.length : Nat) : Int)
    rw [g4]; decide
  · rename_i b0 h0 v hv h3 r hr1 h5
    change Nat at v
    obtain ⟨e1, e2⟩ : v ≤ ((l.take n).map blkOf).length ∧ (okH h && okBs ((l.take n).map blkOf) v) = true := hv
    have h3 : v < n := Int.ofNat_lt.1 (of_decide_eq_true h3)
    rw [hAl] at e1
    change Rw Int at r
    have hr1 : l.getD v Rw.nil = r := hr1
    obtain ⟨⟨g1, g2, g3⟩, g4⟩ := hr r (row_mem h3 hnl hr1)
    exact on_of g1 (by omega)
  · rename_i b0 h0 v hv h3 r hr1 h5
    change Nat at v
    obtain ⟨e1, e2⟩ : v ≤ ((l.take n).map blkOf).length ∧ (okH h && okBs ((l.take n).map blkOf) v) = true := hv
    have h3 : v < n := Int.ofNat_lt.1 (of_decide_eq_true h3)
    rw [hAl] at e1
    change Rw Int at r
    have hr1 : l.getD v Rw.nil = r := hr1
    obtain ⟨⟨g1, g2, g3⟩, g4⟩ := hr r (row_mem h3 hnl hr1)
    show (1 : Int).toNat + 0 < r.l.length
    rw [g4]; decide
  · rename_i b0 h0 v hv h3 r hr1 h5 h6
    change Nat at v
    obtain ⟨e1, e2⟩ : v ≤ ((l.take n).map blkOf).length ∧ (okH h && okBs ((l.take n).map blkOf) v) = true := hv
    have h3 : v < n := Int.ofNat_lt.1 (of_decide_eq_true h3)
    rw [hAl] at e1
    have h6 : 0 < v := Int.ofNat_lt.1 (of_decide_eq_true h6)
    exact inR64 (by show _ ≤ (v : Int) - 1; omega) (by show (v : Int) - 1 ≤ _; omega)
  · rename_i b0 h0 v hv h3 r hr1 h5 h6
    change Nat at v
    obtain ⟨e1, e2⟩ : v ≤ ((l.take n).map blkOf).length ∧ (okH h && okBs ((l.take n).map blkOf) v) = true := hv
    have h3 : v < n := Int.ofNat_lt.1 (of_decide_eq_true h3)
    rw [hAl] at e1
    exact on_of h1.2.2 (Nat.lt_of_le_of_lt (Nat.zero_le _) h3)
  · rename_i b0 h0 v hv h3 r hr1 h5 h6
    change Nat at v
    obtain ⟨e1, e2⟩ : v ≤ ((l.take n).map blkOf).length ∧ (okH h && okBs ((l.take n).map blkOf) v) = true := hv
    have h3 : v < n := Int.ofNat_lt.1 (of_decide_eq_true h3)
    rw [hAl] at e1
    have h6 : 0 < v := Int.ofNat_lt.1 (of_decide_eq_true h6)
    show (0 : Int) ≤ (v : Int) - 1
    omega
  · rename_i b0 h0 v hv h3 r hr1 h5 h6
    change Nat at v
    obtain ⟨e1, e2⟩ : v ≤ ((l.take n).map blkOf).length ∧ (okH h && okBs ((l.take n).map blkOf) v) = true := hv
    have h3 : v < n := Int.ofNat_lt.1 (of_decide_eq_true h3)
    rw [hAl] at e1
    have h6 : 0 < v := Int.ofNat_lt.1 (of_decide_eq_true h6)
    show (v : Int) - 1 < (n : Int)
    omega
  · rename_i b0 h0 v hv h3 r hr1 h5
    change Nat at v
    obtain ⟨e1, e2⟩ : v ≤ ((l.take n).map blkOf).length ∧ (okH h && okBs ((l.take n).map blkOf) v) = true := hv
    have h3 : v < n := Int.ofNat_lt.1 (of_decide_eq_true h3)
    rw [hAl] at e1
    change Rw Int at r
    have hr1 : l.getD v Rw.nil = r := hr1
    obtain ⟨⟨g1, g2, g3⟩, g4⟩ := hr r (row_mem h3 hnl hr1)
    have hAv : ((l.take n).map blkOf).getD v (0, 0) = blkOf r := by rw [map_at h3 hnl, hr1]
    have hb1 : (blkOf r).1 = r.l.getD 0 0 := by unfold blkOf; rfl
    have hb2 : (blkOf r).2 = r.l.getD 1 0 := by unfold blkOf; rfl
    have h5 : (decide (r.l.getD 0 0 < 0) || decide (64 ≤ r.l.getD 0 0) || !cn (r.l.getD 1 0)) = true := h5
    rw [← hb1, ← hb2] at h5
    refine (okP_noB (i := v + 1) ?_ (by rw [hAl]; omega)).symm
    rw [okBs, hAv]
    exact blk_no1 h5
  · rename_i b0 h0 v hv h3 r hr1 h5 h6
    change Nat at v
    obtain ⟨e1, e2⟩ : v ≤ ((l.take n).map blkOf).length ∧ (okH h && okBs ((l.take n).map blkOf) v) = true := hv
    have h3 : v < n := Int.ofNat_lt.1 (of_decide_eq_true h3)
    rw [hAl] at e1
    exact on_of h1.2.2 (Nat.lt_of_le_of_lt (Nat.zero_le _) h3)
  · rename_i b0 h0 v hv h3 r hr1 h5 h6
    change Nat at v
    obtain ⟨e1, e2⟩ : v ≤ ((l.take n).map blkOf).length ∧ (okH h && okBs ((l.take n).map blkOf) v) = true := hv
    have h3 : v < n := Int.ofNat_lt.1 (of_decide_eq_true h3)
    rw [hAl] at e1
    have h6 : 0 < v := Int.ofNat_lt.1 (of_decide_eq_true h6)
    show ((v : Int) - 1).toNat + 0 < l.length
    omega
  · rename_i b0 h0 v hv h3 r hr1 h5 h6 r2 hr2
    change Nat at v
    obtain ⟨e1, e2⟩ : v ≤ ((l.take n).map blkOf).length ∧ (okH h && okBs ((l.take n).map blkOf) v) = true := hv
    have h3 : v < n := Int.ofNat_lt.1 (of_decide_eq_true h3)
    rw [hAl] at e1
    have h6 : 0 < v := Int.ofNat_lt.1 (of_decide_eq_true h6)
    change Rw Int at r2
    have hr2 : l.getD ((v : Int) - 1).toNat Rw.nil = r2 := hr2
    obtain ⟨⟨g1, g2, g3⟩, g4⟩ := hr r2 (row_mem (by omega) hnl hr2)
    exact on_of g1 (by omega)
  · rename_i b0 h0 v hv h3 r hr1 h5 h6 r2 hr2
    change Nat at v
    obtain ⟨e1, e2⟩ : v ≤ ((l.take n).map blkOf).length ∧ (okH h && okBs ((l.take n).map blkOf) v) = true := hv
    have h3 : v < n := Int.ofNat_lt.1 (of_decide_eq_true h3)
    rw [hAl] at e1
    have h6 : 0 < v := Int.ofNat_lt.1 (of_decide_eq_true h6)
    change Rw Int at r2
    have hr2 : l.getD ((v : Int) - 1).toNat Rw.nil = r2 := hr2
    obtain ⟨⟨g1, g2, g3⟩, g4⟩ := hr r2 (row_mem (by omega) hnl hr2)
    show (0 : Int) < ((r2.l.length : Nat) : Int)
    rw [g4]; decide
  · rename_i b0 h0 v hv h3 r hr1 h5 h6 r2 hr2
    change Nat at v
    obtain ⟨e1, e2⟩ : v ≤ ((l.take n).map blkOf).length ∧ (okH h && okBs ((l.take n).map blkOf) v) = true := hv
    have h3 : v < n := Int.ofNat_lt.1 (of_decide_eq_true h3)
    rw [hAl] at e1
    have h6 : 0 < v := Int.ofNat_lt.1 (of_decide_eq_true h6)
    change Rw Int at r2
    have hr2 : l.getD ((v : Int) - 1).toNat Rw.nil = r2 := hr2
    obtain ⟨⟨g1, g2, g3⟩, g4⟩ := hr r2 (row_mem (by omega) hnl hr2)
    exact on_of g1 (by omega)
  · rename_i b0 h0 v hv h3 r hr1 h5 h6 r2 hr2
    change Nat at v
    obtain ⟨e1, e2⟩ : v ≤ ((l.take n).map blkOf).length ∧ (okH h && okBs ((l.take n).map blkOf) v) = true := hv
    have h3 : v < n := Int.ofNat_lt.1 (of_decide_eq_true h3)
    rw [hAl] at e1
    have h6 : 0 < v := Int.ofNat_lt.1 (of_decide_eq_true h6)
    change Rw Int at r2
    have hr2 : l.getD ((v : Int) - 1).toNat Rw.nil = r2 := hr2
    obtain ⟨⟨g1, g2, g3⟩, g4⟩ := hr r2 (row_mem (by omega) hnl hr2)
    show (0 : Int).toNat + 0 < r2.l.length
    rw [g4]; decide
  · rename_i b0 h0 v hv h3 r hr1 h5 h6 r2 hr2
    change Nat at v
    obtain ⟨e1, e2⟩ : v ≤ ((l.take n).map blkOf).length ∧ (okH h && okBs ((l.take n).map blkOf) v) = true := hv
    have h3 : v < n := Int.ofNat_lt.1 (of_decide_eq_true h3)
    rw [hAl] at e1
    change Rw Int at r
    have hr1 : l.getD v Rw.nil = r := hr1
    obtain ⟨⟨g1, g2, g3⟩, g4⟩ := hr r (row_mem h3 hnl hr1)
    exact on_of g1 (by omega)
  · rename_i b0 h0 v hv h3 r hr1 h5 h6 r2 hr2
    change Nat at v
    obtain ⟨e1, e2⟩ : v ≤ ((l.take n).map blkOf).length ∧ (okH h && okBs ((l.take n).map blkOf) v) = true := hv
    have h3 : v < n := Int.ofNat_lt.1 (of_decide_eq_true h3)
    rw [hAl] at e1
    change Rw Int at r
    have hr1 : l.getD v Rw.nil = r := hr1
    obtain ⟨⟨g1, g2, g3⟩, g4⟩ := hr r (row_mem h3 hnl hr1)
    show (0 : Int) < ((r.l.length : Nat) : Int)
    rw [g4]; decide
  · rename_i b0 h0 v hv h3 r hr1 h5 h6 r2 hr2
    change Nat at v
    obtain ⟨e1, e2⟩ : v ≤ ((l.take n).map blkOf).length ∧ (okH h && okBs ((l.take n).map blkOf) v) = true := hv
    have h3 : v < n := Int.ofNat_lt.1 (of_decide_eq_true h3)
    rw [hAl] at e1
    change Rw Int at r
    have hr1 : l.getD v Rw.nil = r := hr1
    obtain ⟨⟨g1, g2, g3⟩, g4⟩ := hr r (row_mem h3 hnl hr1)
    exact on_of g1 (by omega)
  · rename_i b0 h0 v hv h3 r hr1 h5 h6 r2 hr2
    change Nat at v
    obtain ⟨e1, e2⟩ : v ≤ ((l.take n).map blkOf).length ∧ (okH h && okBs ((l.take n).map blkOf) v) = true := hv
    have h3 : v < n := Int.ofNat_lt.1 (of_decide_eq_true h3)
    rw [hAl] at e1
    change Rw Int at r
    have hr1 : l.getD v Rw.nil = r := hr1
    obtain ⟨⟨g1, g2, g3⟩, g4⟩ := hr r (row_mem h3 hnl hr1)
    show (0 : Int).toNat + 0 < r.l.length
    rw [g4]; decide
  · rename_i b0 h0 v hv h3 r hr1 h5 h6 r2 hr2 h7
    change Nat at v
    obtain ⟨e1, e2⟩ : v ≤ ((l.take n).map blkOf).length ∧ (okH h && okBs ((l.take n).map blkOf) v) = true := hv
    have h3 : v < n := Int.ofNat_lt.1 (of_decide_eq_true h3)
    rw [hAl] at e1
    have h6 : 0 < v := Int.ofNat_lt.1 (of_decide_eq_true h6)
    change Rw Int at r
    have hr1 : l.getD v Rw.nil = r := hr1
    obtain ⟨⟨g1, g2, g3⟩, g4⟩ := hr r (row_mem h3 hnl hr1)
    change Rw Int at r2
    have hr2 : l.getD ((v : Int) - 1).toNat Rw.nil = r2 := hr2
    obtain _ := hr r2 (row_mem (by omega) hnl hr2)
    have hAv : ((l.take n).map blkOf).getD v (0, 0) = blkOf r := by rw [map_at h3 hnl, hr1]
    have hb1 : (blkOf r).1 = r.l.getD 0 0 := by unfold blkOf; rfl
    have hb2 : (blkOf r).2 = r.l.getD 1 0 := by unfold blkOf; rfl
    have h5 : (decide (r.l.getD 0 0 < 0) || decide (64 ≤ r.l.getD 0 0) || !cn (r.l.getD 1 0)) = false := h5
    rw [← hb1, ← hb2] at h5
    have hAp : ((l.take n).map blkOf).getD (v - 1) (0, 0) = blkOf r2 := by
      rw [map_at (by omega) hnl, ← hr2]; congr 2; omega
    have hb3 : (blkOf r2).1 = r2.l.getD 0 0 := by unfold blkOf; rfl
    have h7 : decide (r.l.getD 0 0 ≤ r2.l.getD 0 0) = true := h7
    rw [← hb1, ← hb3] at h7
    refine (okP_noB (i := v + 1) ?_ (by rw [hAl]; omega)).symm
    rw [okBs, hAv]
    rw [hAp]
    exact blk_no2 h6 (of_decide_eq_true h7)
  · rename_i b0 h0 v hv h3 r hr1 h5 h6 r2 hr2 h7
    change Nat at v
    obtain ⟨e1, e2⟩ : v ≤ ((l.take n).map blkOf).length ∧ (okH h && okBs ((l.take n).map blkOf) v) = true := hv
    have h3 : v < n := Int.ofNat_lt.1 (of_decide_eq_true h3)
    rw [hAl] at e1
    exact inR64 (by show _ ≤ (v : Int) + 1; omega) (by show (v : Int) + 1 ≤ _; omega)
  · rename_i b0 h0 v hv h3 r hr1 h5 h6 r2 hr2 h7
    change Nat at v
    obtain ⟨e1, e2⟩ : v ≤ ((l.take n).map blkOf).length ∧ (okH h && okBs ((l.take n).map blkOf) v) = true := hv
    have h3 : v < n := Int.ofNat_lt.1 (of_decide_eq_true h3)
    rw [hAl] at e1
    have h6 : 0 < v := Int.ofNat_lt.1 (of_decide_eq_true h6)
    change Rw Int at r
    have hr1 : l.getD v Rw.nil = r := hr1
    obtain ⟨⟨g1, g2, g3⟩, g4⟩ := hr r (row_mem h3 hnl hr1)
    change Rw Int at r2
    have hr2 : l.getD ((v : Int) - 1).toNat Rw.nil = r2 := hr2
    obtain _ := hr r2 (row_mem (by omega) hnl hr2)
    have hAv : ((l.take n).map blkOf).getD v (0, 0) = blkOf r := by rw [map_at h3 hnl, hr1]
    have hb1 : (blkOf r).1 = r.l.getD 0 0 := by unfold blkOf; rfl
    have hb2 : (blkOf r).2 = r.l.getD 1 0 := by unfold blkOf; rfl
    have h5 : (decide (r.l.getD 0 0 < 0) || decide (64 ≤ r.l.getD 0 0) || !cn (r.l.getD 1 0)) = false := h5
    rw [← hb1, ← hb2] at h5
    have hAp : ((l.take n).map blkOf).getD (v - 1) (0, 0) = blkOf r2 := by
      rw [map_at (by omega) hnl, ← hr2]; congr 2; omega
    have hb3 : (blkOf r2).1 = r2.l.getD 0 0 := by unfold blkOf; rfl
    have h7 : decide (r.l.getD 0 0 ≤ r2.l.getD 0 0) = false := h7
    rw [← hb1, ← hb3] at h7
    simp only [Bool.and_eq_true] at e2
    refine Stands.one (v + 1 : Nat) ⟨⟨by rw [hAl]; exact h3, ?_⟩, ?_, ?_⟩
    · show (okH h && okBs ((l.take n).map blkOf) (v + 1)) = true
      rw [okBs, hAv, e2.1, e2.2]
      rw [hAp]; exact blk_yes h5 (.inr (of_decide_eq_false h7))
    · show ((l.take n).map blkOf).length - (v + 1) < ((l.take n).map blkOf).length - v
      rw [hAl]; omega
    ((conv => (arg 1; reduce)); with_reducible repeat' (first | exact Tr.yes_h | refine Tr.and_h ?_ ?_ | refine Tr.imp_h fun _ => ?_ | refine Tr.all_h fun _ => ?_ | refine Tr.lf_h ?_))
    all_goals (first | first | (show Region.lexB _ _ = true; kernel_rfl) | (show planned _ _ = true; kernel_rfl) | exact rfl | exact True.intro | ((try dsimp only [imp, C0, cG, cInt, cPl, cSlot, cPg, rwCodec, cRaw] at *); (try refine inR64 ?_ ?_) <;> (try simp only [List.length_set, List.length_append, List.length_take, List.length_drop]) <;> omega))
  · rename_i b0 h0 v hv h3 r hr1 h5 h6
    change Nat at v
    obtain ⟨e1, e2⟩ : v ≤ ((l.take n).map blkOf).length ∧ (okH h && okBs ((l.take n).map blkOf) v) = true := hv
    have h3 : v < n := Int.ofNat_lt.1 (of_decide_eq_true h3)
    rw [hAl] at e1
    exact inR64 (by show _ ≤ (v : Int) + 1; omega) (by show (v : Int) + 1 ≤ _; omega)
  · rename_i b0 h0 v hv h3 r hr1 h5 h6
    change Nat at v
    obtain ⟨e1, e2⟩ : v ≤ ((l.take n).map blkOf).length ∧ (okH h && okBs ((l.take n).map blkOf) v) = true := hv
    have h3 : v < n := Int.ofNat_lt.1 (of_decide_eq_true h3)
    rw [hAl] at e1
    have h6 : ¬ 0 < v := fun hq => of_decide_eq_false h6 (Int.ofNat_lt.2 hq)
    change Rw Int at r
    have hr1 : l.getD v Rw.nil = r := hr1
    obtain ⟨⟨g1, g2, g3⟩, g4⟩ := hr r (row_mem h3 hnl hr1)
    have hAv : ((l.take n).map blkOf).getD v (0, 0) = blkOf r := by rw [map_at h3 hnl, hr1]
    have hb1 : (blkOf r).1 = r.l.getD 0 0 := by unfold blkOf; rfl
    have hb2 : (blkOf r).2 = r.l.getD 1 0 := by unfold blkOf; rfl
    have h5 : (decide (r.l.getD 0 0 < 0) || decide (64 ≤ r.l.getD 0 0) || !cn (r.l.getD 1 0)) = false := h5
    rw [← hb1, ← hb2] at h5
    simp only [Bool.and_eq_true] at e2
    refine Stands.one (v + 1 : Nat) ⟨⟨by rw [hAl]; exact h3, ?_⟩, ?_, ?_⟩
    · show (okH h && okBs ((l.take n).map blkOf) (v + 1)) = true
      rw [okBs, hAv, e2.1, e2.2]
      exact blk_yes h5 (.inl (by omega))
    · show ((l.take n).map blkOf).length - (v + 1) < ((l.take n).map blkOf).length - v
      rw [hAl]; omega
    ((conv => (arg 1; reduce)); with_reducible repeat' (first | exact Tr.yes_h | refine Tr.and_h ?_ ?_ | refine Tr.imp_h fun _ => ?_ | refine Tr.all_h fun _ => ?_ | refine Tr.lf_h ?_))
    all_goals (first | first | (show Region.lexB _ _ = true; kernel_rfl) | (show planned _ _ = true; kernel_rfl) | exact rfl | exact True.intro | ((try dsimp only [imp, C0, cG, cInt, cPl, cSlot, cPg, rwCodec, cRaw] at *); (try refine inR64 ?_ ?_) <;> (try simp only [List.length_set, List.length_append, List.length_take, List.length_drop]) <;> omega))
  · rename_i b0 h0 v hv h3
    change Nat at v
    obtain ⟨e1, e2⟩ : v ≤ ((l.take n).map blkOf).length ∧ (okH h && okBs ((l.take n).map blkOf) v) = true := hv
    have h3 : ¬ v < n := fun hq => of_decide_eq_false h3 (Int.ofNat_lt.2 hq)
    rw [hAl] at e1
    obtain rfl : v = n := by omega
    refine Stands.one (0 : Nat) ⟨⟨Nat.zero_le _, by rw [okSs, hAl]; exact e2⟩, ?_⟩
    ((conv => (arg 1; reduce)); with_reducible repeat' (first | exact Tr.yes_h | refine Tr.and_h ?_ ?_ | refine Tr.imp_h fun _ => ?_ | refine Tr.all_h fun _ => ?_ | refine Tr.lf_h ?_))
    all_goals (first | first | (show Region.lexB _ _ = true; kernel_rfl) | (show planned _ _ = true; kernel_rfl) | exact rfl | exact True.intro | ((try dsimp only [imp, C0, cG, cInt, cPl, cSlot, cPg, rwCodec, cRaw] at *); (try refine inR64 ?_ ?_) <;> (try simp only [List.length_set, List.length_append, List.length_take, List.length_drop]) <;> omega))
  · rename_i b0 h0 v hv h3 w hw h4
    change Nat at w
    obtain ⟨f1, f2⟩ : w ≤ (l2.take n2).length ∧ okSs ((l.take n).map blkOf) (okH h && okBs ((l.take n).map blkOf) ((l.take n).map blkOf).length) (l2.take n2) w = true := hw
    have h4 : w < n2 := Int.ofNat_lt.1 (of_decide_eq_true h4)
    have hBw : (l2.take n2).getD w slot0 = l2.getD w slot0 := tk_at h4
    exact on_of h2.2.2 (Nat.lt_of_le_of_lt (Nat.zero_le _) h4)
  · rename_i b0 h0 v hv h3 w hw h4
    change Nat at w
    obtain ⟨f1, f2⟩ : w ≤ (l2.take n2).length ∧ okSs ((l.take n).map blkOf) (okH h && okBs ((l.take n).map blkOf) ((l.take n).map blkOf).length) (l2.take n2) w = true := hw
    have h4 : w < n2 := Int.ofNat_lt.1 (of_decide_eq_true h4)
    have hBw : (l2.take n2).getD w slot0 = l2.getD w slot0 := tk_at h4
    exact Int.ofNat_lt.2 h4
  · rename_i b0 h0 v hv h3 w hw h4
    change Nat at w
    obtain ⟨f1, f2⟩ : w ≤ (l2.take n2).length ∧ okSs ((l.take n).map blkOf) (okH h && okBs ((l.take n).map blkOf) ((l.take n).map blkOf).length) (l2.take n2) w = true := hw
    have h4 : w < n2 := Int.ofNat_lt.1 (of_decide_eq_true h4)
    have hBw : (l2.take n2).getD w slot0 = l2.getD w slot0 := tk_at h4
    exact on_of h2.2.2 (Nat.lt_of_le_of_lt (Nat.zero_le _) h4)
  · rename_i b0 h0 v hv h3 w hw h4
    change Nat at w
    obtain ⟨f1, f2⟩ : w ≤ (l2.take n2).length ∧ okSs ((l.take n).map blkOf) (okH h && okBs ((l.take n).map blkOf) ((l.take n).map blkOf).length) (l2.take n2) w = true := hw
    have h4 : w < n2 := Int.ofNat_lt.1 (of_decide_eq_true h4)
    have hBw : (l2.take n2).getD w slot0 = l2.getD w slot0 := tk_at h4
    show (w : Int).toNat + 0 < l2.length
    omega
  · rename_i b0 h0 v hv h3 w hw h4 bs
    change Nat at w
    obtain ⟨f1, f2⟩ : w ≤ (l2.take n2).length ∧ okSs ((l.take n).map blkOf) (okH h && okBs ((l.take n).map blkOf) ((l.take n).map blkOf).length) (l2.take n2) w = true := hw
    have h4 : w < n2 := Int.ofNat_lt.1 (of_decide_eq_true h4)
    have hBw : (l2.take n2).getD w slot0 = l2.getD w slot0 := tk_at h4
    refine Stands.one (0, false, w) ⟨⟨Nat.zero_le _, anyF_zero.symm⟩, ?_⟩
    ((conv => (arg 1; reduce)); with_reducible repeat' (first | exact Tr.yes_h | refine Tr.and_h ?_ ?_ | refine Tr.imp_h fun _ => ?_ | refine Tr.all_h fun _ => ?_ | refine Tr.lf_h ?_))
    all_goals (first | first | (show Region.lexB _ _ = true; kernel_rfl) | (show planned _ _ = true; kernel_rfl) | exact rfl | exact True.intro | ((try dsimp only [imp, C0, cG, cInt, cPl, cSlot, cPg, rwCodec, cRaw] at *); (try refine inR64 ?_ ?_) <;> (try simp only [List.length_set, List.length_append, List.length_take, List.length_drop]) <;> omega))
  · rename_i b0 h0 v hv h3 w hw h4 bs k hk hl h5 h6
    change Nat at w
    obtain ⟨f1, f2⟩ : w ≤ (l2.take n2).length ∧ okSs ((l.take n).map blkOf) (okH h && okBs ((l.take n).map blkOf) ((l.take n).map blkOf).length) (l2.take n2) w = true := hw
    have h4 : w < n2 := Int.ofNat_lt.1 (of_decide_eq_true h4)
    have hBw : (l2.take n2).getD w slot0 = l2.getD w slot0 := tk_at h4
    obtain ⟨k, nd, w2⟩ := k
    obtain rfl : w = w2 := Int.ofNat_inj.1 hl
    obtain ⟨k1, k2⟩ : k ≤ ((l.take n).map blkOf).length ∧ nd = anyF (fun b => decide (b.1 = ((l2.take n2).getD w slot0).pl.1)) (((l.take n).map blkOf).take k) := hk
    rw [hBw] at k2
    have h5n : k < n := Int.ofNat_lt.1 (of_decide_eq_true h5)
    exact on_of h1.2.2 (Nat.lt_of_le_of_lt (Nat.zero_le _) h5n)
  · rename_i b0 h0 v hv h3 w hw h4 bs k hk hl h5 h6
    change Nat at w
    obtain ⟨f1, f2⟩ : w ≤ (l2.take n2).length ∧ okSs ((l.take n).map blkOf) (okH h && okBs ((l.take n).map blkOf) ((l.take n).map blkOf).length) (l2.take n2) w = true := hw
    have h4 : w < n2 := Int.ofNat_lt.1 (of_decide_eq_true h4)
    have hBw : (l2.take n2).getD w slot0 = l2.getD w slot0 := tk_at h4
    obtain ⟨k, nd, w2⟩ := k
    obtain rfl : w = w2 := Int.ofNat_inj.1 hl
    obtain ⟨k1, k2⟩ : k ≤ ((l.take n).map blkOf).length ∧ nd = anyF (fun b => decide (b.1 = ((l2.take n2).getD w slot0).pl.1)) (((l.take n).map blkOf).take k) := hk
    rw [hBw] at k2
    have h5n : k < n := Int.ofNat_lt.1 (of_decide_eq_true h5)
    exact Int.ofNat_lt.2 h5n
  · rename_i b0 h0 v hv h3 w hw h4 bs k hk hl h5 h6
    change Nat at w
    obtain ⟨f1, f2⟩ : w ≤ (l2.take n2).length ∧ okSs ((l.take n).map blkOf) (okH h && okBs ((l.take n).map blkOf) ((l.take n).map blkOf).length) (l2.take n2) w = true := hw
    have h4 : w < n2 := Int.ofNat_lt.1 (of_decide_eq_true h4)
    have hBw : (l2.take n2).getD w slot0 = l2.getD w slot0 := tk_at h4
    obtain ⟨k, nd, w2⟩ := k
    obtain rfl : w = w2 := Int.ofNat_inj.1 hl
    obtain ⟨k1, k2⟩ : k ≤ ((l.take n).map blkOf).length ∧ nd = anyF (fun b => decide (b.1 = ((l2.take n2).getD w slot0).pl.1)) (((l.take n).map blkOf).take k) := hk
    rw [hBw] at k2
    have h5n : k < n := Int.ofNat_lt.1 (of_decide_eq_true h5)
    exact inR64 (by show _ ≤ (k : Int) + 1; omega) (by show (k : Int) + 1 ≤ _; omega)
  · rename_i b0 h0 v hv h3 w hw h4 bs k hk hl h5 h6
    change Nat at w
    obtain ⟨f1, f2⟩ : w ≤ (l2.take n2).length ∧ okSs ((l.take n).map blkOf) (okH h && okBs ((l.take n).map blkOf) ((l.take n).map blkOf).length) (l2.take n2) w = true := hw
    have h4 : w < n2 := Int.ofNat_lt.1 (of_decide_eq_true h4)
    have hBw : (l2.take n2).getD w slot0 = l2.getD w slot0 := tk_at h4
    obtain ⟨k, nd, w2⟩ := k
    obtain rfl : w = w2 := Int.ofNat_inj.1 hl
    obtain ⟨k1, k2⟩ : k ≤ ((l.take n).map blkOf).length ∧ nd = anyF (fun b => decide (b.1 = ((l2.take n2).getD w slot0).pl.1)) (((l.take n).map blkOf).take k) := hk
    rw [hBw] at k2
    have h5n : k < n := Int.ofNat_lt.1 (of_decide_eq_true h5)
    have h6 : nd = true := h6
    subst h6
    refine Stands.one (k + 1, true, w) ⟨⟨by rw [hAl]; exact h5n, ?_⟩, ?_, ?_⟩
    · show _ = anyF (fun b => decide (b.1 = ((l2.take n2).getD w slot0).pl.1)) (((l.take n).map blkOf).take (k + 1))
      rw [hBw, anyF_snoc (d := (0, 0)) (by rw [hAl]; exact h5n), ← k2]
      rfl
    · show ((l.take n).map blkOf).length - (k + 1) < ((l.take n).map blkOf).length - k
      rw [hAl]; omega
    ((conv => (arg 1; reduce)); with_reducible repeat' (first | exact Tr.yes_h | refine Tr.and_h ?_ ?_ | refine Tr.imp_h fun _ => ?_ | refine Tr.all_h fun _ => ?_ | refine Tr.lf_h ?_))
    all_goals (first | first | (show Region.lexB _ _ = true; kernel_rfl) | (show planned _ _ = true; kernel_rfl) | exact rfl | exact True.intro | ((try dsimp only [imp, C0, cG, cInt, cPl, cSlot, cPg, rwCodec, cRaw] at *); (try refine inR64 ?_ ?_) <;> (try simp only [List.length_set, List.length_append, List.length_take, List.length_drop]) <;> omega))
  · rename_i b0 h0 v hv h3 w hw h4 bs k hk hl h5 h6
    change Nat at w
    obtain ⟨f1, f2⟩ : w ≤ (l2.take n2).length ∧ okSs ((l.take n).map blkOf) (okH h && okBs ((l.take n).map blkOf) ((l.take n).map blkOf).length) (l2.take n2) w = true := hw
    have h4 : w < n2 := Int.ofNat_lt.1 (of_decide_eq_true h4)
    have hBw : (l2.take n2).getD w slot0 = l2.getD w slot0 := tk_at h4
    obtain ⟨k, nd, w2⟩ := k
    obtain rfl : w = w2 := Int.ofNat_inj.1 hl
    obtain ⟨k1, k2⟩ : k ≤ ((l.take n).map blkOf).length ∧ nd = anyF (fun b => decide (b.1 = ((l2.take n2).getD w slot0).pl.1)) (((l.take n).map blkOf).take k) := hk
    rw [hBw] at k2
    have h5n : k < n := Int.ofNat_lt.1 (of_decide_eq_true h5)
    exact on_of h1.2.2 (Nat.lt_of_le_of_lt (Nat.zero_le _) h5n)
  · rename_i b0 h0 v hv h3 w hw h4 bs k hk hl h5 h6
    change Nat at w
    obtain ⟨f1, f2⟩ : w ≤ (l2.take n2).length ∧ okSs ((l.take n).map blkOf) (okH h && okBs ((l.take n).map blkOf) ((l.take n).map blkOf).length) (l2.take n2) w = true := hw
    have h4 : w < n2 := Int.ofNat_lt.1 (of_decide_eq_true h4)
    have hBw : (l2.take n2).getD w slot0 = l2.getD w slot0 := tk_at h4
    obtain ⟨k, nd, w2⟩ := k
    obtain rfl : w = w2 := Int.ofNat_inj.1 hl
    obtain ⟨k1, k2⟩ : k ≤ ((l.take n).map blkOf).length ∧ nd = anyF (fun b => decide (b.1 = ((l2.take n2).getD w slot0).pl.1)) (((l.take n).map blkOf).take k) := hk
    rw [hBw] at k2
    have h5n : k < n := Int.ofNat_lt.1 (of_decide_eq_true h5)
    show (k : Int).toNat + 0 < l.length
    omega
  · rename_i b0 h0 v hv h3 w hw h4 bs k hk hl h5 h6 r hr1
    change Nat at w
    obtain ⟨f1, f2⟩ : w ≤ (l2.take n2).length ∧ okSs ((l.take n).map blkOf) (okH h && okBs ((l.take n).map blkOf) ((l.take n).map blkOf).length) (l2.take n2) w = true := hw
    have h4 : w < n2 := Int.ofNat_lt.1 (of_decide_eq_true h4)
    have hBw : (l2.take n2).getD w slot0 = l2.getD w slot0 := tk_at h4
    obtain ⟨k, nd, w2⟩ := k
    obtain rfl : w = w2 := Int.ofNat_inj.1 hl
    obtain ⟨k1, k2⟩ : k ≤ ((l.take n).map blkOf).length ∧ nd = anyF (fun b => decide (b.1 = ((l2.take n2).getD w slot0).pl.1)) (((l.take n).map blkOf).take k) := hk
    rw [hBw] at k2
    have h5n : k < n := Int.ofNat_lt.1 (of_decide_eq_true h5)
    change Rw Int at r
    have hr1n : l.getD k Rw.nil = r := hr1
    obtain ⟨⟨g1, g2, g3⟩, g4⟩ := hr r (row_mem h5n hnl hr1n)
    exact on_of g1 (by omega)
  · rename_i b0 h0 v hv h3 w hw h4 bs k hk hl h5 h6 r hr1
    change Nat at w
    obtain ⟨f1, f2⟩ : w ≤ (l2.take n2).length ∧ okSs ((l.take n).map blkOf) (okH h && okBs ((l.take n).map blkOf) ((l.take n).map blkOf).length) (l2.take n2) w = true := hw
    have h4 : w < n2 := Int.ofNat_lt.1 (of_decide_eq_true h4)
    have hBw : (l2.take n2).getD w slot0 = l2.getD w slot0 := tk_at h4
    obtain ⟨k, nd, w2⟩ := k
    obtain rfl : w = w2 := Int.ofNat_inj.1 hl
    obtain ⟨k1, k2⟩ : k ≤ ((l.take n).map blkOf).length ∧ nd = anyF (fun b => decide (b.1 = ((l2.take n2).getD w slot0).pl.1)) (((l.take n).map blkOf).take k) := hk
    rw [hBw] at k2
    have h5n : k < n := Int.ofNat_lt.1 (of_decide_eq_true h5)
    change Rw Int at r
    have hr1n : l.getD k Rw.nil = r := hr1
    obtain ⟨⟨g1, g2, g3⟩, g4⟩ := hr r (row_mem h5n hnl hr1n)
    show (0 : Int) < ((r.l.length : Nat) : Int)
    rw [g4]; decide
  · rename_i b0 h0 v hv h3 w hw h4 bs k hk hl h5 h6 r hr1
    change Nat at w
    obtain ⟨f1, f2⟩ : w ≤ (l2.take n2).length ∧ okSs ((l.take n).map blkOf) (okH h && okBs ((l.take n).map blkOf) ((l.take n).map blkOf).length) (l2.take n2) w = true := hw
    have h4 : w < n2 := Int.ofNat_lt.1 (of_decide_eq_true h4)
    have hBw : (l2.take n2).getD w slot0 = l2.getD w slot0 := tk_at h4
    obtain ⟨k, nd, w2⟩ := k
    obtain rfl : w = w2 := Int.ofNat_inj.1 hl
    obtain ⟨k1, k2⟩ : k ≤ ((l.take n).map blkOf).length ∧ nd = anyF (fun b => decide (b.1 = ((l2.take n2).getD w slot0).pl.1)) (((l.take n).map blkOf).take k) := hk
    rw [hBw] at k2
    have h5n : k < n := Int.ofNat_lt.1 (of_decide_eq_true h5)
    change Rw Int at r
    have hr1n : l.getD k Rw.nil = r := hr1
    obtain ⟨⟨g1, g2, g3⟩, g4⟩ := hr r (row_mem h5n hnl hr1n)
    exact on_of g1 (by omega)
  · rename_i b0 h0 v hv h3 w hw h4 bs k hk hl h5 h6 r hr1
    change Nat at w
    obtain ⟨f1, f2⟩ : w ≤ (l2.take n2).length ∧ okSs ((l.take n).map blkOf) (okH h && okBs ((l.take n).map blkOf) ((l.take n).map blkOf).length) (l2.take n2) w = true := hw
    have h4 : w < n2 := Int.ofNat_lt.1 (of_decide_eq_true h4)
    have hBw : (l2.take n2).getD w slot0 = l2.getD w slot0 := tk_at h4
    obtain ⟨k, nd, w2⟩ := k
    obtain rfl : w = w2 := Int.ofNat_inj.1 hl
    obtain ⟨k1, k2⟩ : k ≤ ((l.take n).map blkOf).length ∧ nd = anyF (fun b => decide (b.1 = ((l2.take n2).getD w slot0).pl.1)) (((l.take n).map blkOf).take k) := hk
    rw [hBw] at k2
    have h5n : k < n := Int.ofNat_lt.1 (of_decide_eq_true h5)
    change Rw Int at r
    have hr1n : l.getD k Rw.nil = r := hr1
    obtain ⟨⟨g1, g2, g3⟩, g4⟩ := hr r (row_mem h5n hnl hr1n)
    show (0 : Int).toNat + 0 < r.l.length
    rw [g4]; decide
  · rename_i b0 h0 v hv h3 w hw h4 bs k hk hl h5 h6 r hr1
    change Nat at w
    obtain ⟨f1, f2⟩ : w ≤ (l2.take n2).length ∧ okSs ((l.take n).map blkOf) (okH h && okBs ((l.take n).map blkOf) ((l.take n).map blkOf).length) (l2.take n2) w = true := hw
    have h4 : w < n2 := Int.ofNat_lt.1 (of_decide_eq_true h4)
    have hBw : (l2.take n2).getD w slot0 = l2.getD w slot0 := tk_at h4
    obtain ⟨k, nd, w2⟩ := k
    obtain rfl : w = w2 := Int.ofNat_inj.1 hl
    obtain ⟨k1, k2⟩ : k ≤ ((l.take n).map blkOf).length ∧ nd = anyF (fun b => decide (b.1 = ((l2.take n2).getD w slot0).pl.1)) (((l.take n).map blkOf).take k) := hk
    rw [hBw] at k2
    have h5n : k < n := Int.ofNat_lt.1 (of_decide_eq_true h5)
    exact inR64 (by show _ ≤ (k : Int) + 1; omega) (by show (k : Int) + 1 ≤ _; omega)
  · rename_i b0 h0 v hv h3 w hw h4 bs k hk hl h5 h6 r hr1
    change Nat at w
    obtain ⟨f1, f2⟩ : w ≤ (l2.take n2).length ∧ okSs ((l.take n).map blkOf) (okH h && okBs ((l.take n).map blkOf) ((l.take n).map blkOf).length) (l2.take n2) w = true := hw
    have h4 : w < n2 := Int.ofNat_lt.1 (of_decide_eq_true h4)
    have hBw : (l2.take n2).getD w slot0 = l2.getD w slot0 := tk_at h4
    obtain ⟨k, nd, w2⟩ := k
    obtain rfl : w = w2 := Int.ofNat_inj.1 hl
    obtain ⟨k1, k2⟩ : k ≤ ((l.take n).map blkOf).length ∧ nd = anyF (fun b => decide (b.1 = ((l2.take n2).getD w slot0).pl.1)) (((l.take n).map blkOf).take k) := hk
    rw [hBw] at k2
    have h5n : k < n := Int.ofNat_lt.1 (of_decide_eq_true h5)
    change Rw Int at r
    have hr1n : l.getD k Rw.nil = r := hr1
    obtain ⟨⟨g1, g2, g3⟩, g4⟩ := hr r (row_mem h5n hnl hr1n)
    have h6 : nd = false := h6
    subst h6
    refine Stands.one (k + 1, decide (r.l.getD 0 0 = (l2.getD w slot0).pl.1), w) ⟨⟨by rw [hAl]; exact h5n, ?_⟩, ?_, ?_⟩
    · show _ = anyF (fun b => decide (b.1 = ((l2.take n2).getD w slot0).pl.1)) (((l.take n).map blkOf).take (k + 1))
      rw [hBw, anyF_snoc (d := (0, 0)) (by rw [hAl]; exact h5n), ← k2]
      rw [map_at h5n hnl, hr1n, Bool.false_or]
      unfold blkOf; rfl
    · show ((l.take n).map blkOf).length - (k + 1) < ((l.take n).map blkOf).length - k
      rw [hAl]; omega
    ((conv => (arg 1; reduce)); with_reducible repeat' (first | exact Tr.yes_h | refine Tr.and_h ?_ ?_ | refine Tr.imp_h fun _ => ?_ | refine Tr.all_h fun _ => ?_ | refine Tr.lf_h ?_))
    all_goals (first | first | (show Region.lexB _ _ = true; kernel_rfl) | (show planned _ _ = true; kernel_rfl) | exact rfl | exact True.intro | ((try dsimp only [imp, C0, cG, cInt, cPl, cSlot, cPg, rwCodec, cRaw] at *); (try refine inR64 ?_ ?_) <;> (try simp only [List.length_set, List.length_append, List.length_take, List.length_drop]) <;> omega))
  · rename_i b0 h0 v hv h3 w hw h4 bs k hk hl h5 h6
    change Nat at w
    obtain ⟨f1, f2⟩ : w ≤ (l2.take n2).length ∧ okSs ((l.take n).map blkOf) (okH h && okBs ((l.take n).map blkOf) ((l.take n).map blkOf).length) (l2.take n2) w = true := hw
    have h4 : w < n2 := Int.ofNat_lt.1 (of_decide_eq_true h4)
    have hBw : (l2.take n2).getD w slot0 = l2.getD w slot0 := tk_at h4
    obtain ⟨k, nd, w2⟩ := k
    obtain rfl : w = w2 := Int.ofNat_inj.1 hl
    obtain ⟨k1, k2⟩ : k ≤ ((l.take n).map blkOf).length ∧ nd = anyF (fun b => decide (b.1 = ((l2.take n2).getD w slot0).pl.1)) (((l.take n).map blkOf).take k) := hk
    rw [hBw] at k2
    have h5 : ¬ k < n := fun hq => of_decide_eq_false h5 (Int.ofNat_lt.2 hq)
    rw [hAl] at k1
    rw [List.take_of_length_le (l := (l.take n).map blkOf) (by rw [hAl]; omega)] at k2
    have h6 : (!nd || decide ((l2.getD w slot0).pl.2 < 0) || decide (64 ≤ (l2.getD w slot0).pl.2) || !cn (l2.getD w slot0).key || !okMe (l2.getD w slot0).me) = true := h6
    rw [k2] at h6
    refine (okP_noS (i := w + 1) ?_ (by rw [tk_len hnl2]; omega)).symm
    rw [okSs, hBw]
    exact slt_no1 h6
  · rename_i b0 h0 v hv h3 w hw h4 bs k hk hl h5 h6 h7
    change Nat at w
    obtain ⟨f1, f2⟩ : w ≤ (l2.take n2).length ∧ okSs ((l.take n).map blkOf) (okH h && okBs ((l.take n).map blkOf) ((l.take n).map blkOf).length) (l2.take n2) w = true := hw
    have h4 : w < n2 := Int.ofNat_lt.1 (of_decide_eq_true h4)
    have hBw : (l2.take n2).getD w slot0 = l2.getD w slot0 := tk_at h4
    obtain ⟨k, nd, w2⟩ := k
    obtain rfl : w = w2 := Int.ofNat_inj.1 hl
    obtain ⟨k1, k2⟩ : k ≤ ((l.take n).map blkOf).length ∧ nd = anyF (fun b => decide (b.1 = ((l2.take n2).getD w slot0).pl.1)) (((l.take n).map blkOf).take k) := hk
    rw [hBw] at k2
    have h7 : 0 < w := Int.ofNat_lt.1 (of_decide_eq_true h7)
    exact inR64 (by show _ ≤ (w : Int) - 1; omega) (by show (w : Int) - 1 ≤ _; omega)
  · rename_i b0 h0 v hv h3 w hw h4 bs k hk hl h5 h6 h7
    change Nat at w
    obtain ⟨f1, f2⟩ : w ≤ (l2.take n2).length ∧ okSs ((l.take n).map blkOf) (okH h && okBs ((l.take n).map blkOf) ((l.take n).map blkOf).length) (l2.take n2) w = true := hw
    have h4 : w < n2 := Int.ofNat_lt.1 (of_decide_eq_true h4)
    have hBw : (l2.take n2).getD w slot0 = l2.getD w slot0 := tk_at h4
    obtain ⟨k, nd, w2⟩ := k
    obtain rfl : w = w2 := Int.ofNat_inj.1 hl
    obtain ⟨k1, k2⟩ : k ≤ ((l.take n).map blkOf).length ∧ nd = anyF (fun b => decide (b.1 = ((l2.take n2).getD w slot0).pl.1)) (((l.take n).map blkOf).take k) := hk
    rw [hBw] at k2
    exact on_of h2.2.2 (Nat.lt_of_le_of_lt (Nat.zero_le _) h4)
  · rename_i b0 h0 v hv h3 w hw h4 bs k hk hl h5 h6 h7
    change Nat at w
    obtain ⟨f1, f2⟩ : w ≤ (l2.take n2).length ∧ okSs ((l.take n).map blkOf) (okH h && okBs ((l.take n).map blkOf) ((l.take n).map blkOf).length) (l2.take n2) w = true := hw
    have h4 : w < n2 := Int.ofNat_lt.1 (of_decide_eq_true h4)
    have hBw : (l2.take n2).getD w slot0 = l2.getD w slot0 := tk_at h4
    obtain ⟨k, nd, w2⟩ := k
    obtain rfl : w = w2 := Int.ofNat_inj.1 hl
    obtain ⟨k1, k2⟩ : k ≤ ((l.take n).map blkOf).length ∧ nd = anyF (fun b => decide (b.1 = ((l2.take n2).getD w slot0).pl.1)) (((l.take n).map blkOf).take k) := hk
    rw [hBw] at k2
    have h7 : 0 < w := Int.ofNat_lt.1 (of_decide_eq_true h7)
    show (0 : Int) ≤ (w : Int) - 1
    omega
  · rename_i b0 h0 v hv h3 w hw h4 bs k hk hl h5 h6 h7
    change Nat at w
    obtain ⟨f1, f2⟩ : w ≤ (l2.take n2).length ∧ okSs ((l.take n).map blkOf) (okH h && okBs ((l.take n).map blkOf) ((l.take n).map blkOf).length) (l2.take n2) w = true := hw
    have h4 : w < n2 := Int.ofNat_lt.1 (of_decide_eq_true h4)
    have hBw : (l2.take n2).getD w slot0 = l2.getD w slot0 := tk_at h4
    obtain ⟨k, nd, w2⟩ := k
    obtain rfl : w = w2 := Int.ofNat_inj.1 hl
    obtain ⟨k1, k2⟩ : k ≤ ((l.take n).map blkOf).length ∧ nd = anyF (fun b => decide (b.1 = ((l2.take n2).getD w slot0).pl.1)) (((l.take n).map blkOf).take k) := hk
    rw [hBw] at k2
    have h7 : 0 < w := Int.ofNat_lt.1 (of_decide_eq_true h7)
    show (w : Int) - 1 < (n2 : Int)
    omega
  · rename_i b0 h0 v hv h3 w hw h4 bs k hk hl h5 h6 h7
    change Nat at w
    obtain ⟨f1, f2⟩ : w ≤ (l2.take n2).length ∧ okSs ((l.take n).map blkOf) (okH h && okBs ((l.take n).map blkOf) ((l.take n).map blkOf).length) (l2.take n2) w = true := hw
    have h4 : w < n2 := Int.ofNat_lt.1 (of_decide_eq_true h4)
    have hBw : (l2.take n2).getD w slot0 = l2.getD w slot0 := tk_at h4
    obtain ⟨k, nd, w2⟩ := k
    obtain rfl : w = w2 := Int.ofNat_inj.1 hl
    obtain ⟨k1, k2⟩ : k ≤ ((l.take n).map blkOf).length ∧ nd = anyF (fun b => decide (b.1 = ((l2.take n2).getD w slot0).pl.1)) (((l.take n).map blkOf).take k) := hk
    rw [hBw] at k2
    exact on_of h2.2.2 (Nat.lt_of_le_of_lt (Nat.zero_le _) h4)
  · rename_i b0 h0 v hv h3 w hw h4 bs k hk hl h5 h6 h7
    change Nat at w
    obtain ⟨f1, f2⟩ : w ≤ (l2.take n2).length ∧ okSs ((l.take n).map blkOf) (okH h && okBs ((l.take n).map blkOf) ((l.take n).map blkOf).length) (l2.take n2) w = true := hw
    have h4 : w < n2 := Int.ofNat_lt.1 (of_decide_eq_true h4)
    have hBw : (l2.take n2).getD w slot0 = l2.getD w slot0 := tk_at h4
    obtain ⟨k, nd, w2⟩ := k
    obtain rfl : w = w2 := Int.ofNat_inj.1 hl
    obtain ⟨k1, k2⟩ : k ≤ ((l.take n).map blkOf).length ∧ nd = anyF (fun b => decide (b.1 = ((l2.take n2).getD w slot0).pl.1)) (((l.take n).map blkOf).take k) := hk
    rw [hBw] at k2
    have h7 : 0 < w := Int.ofNat_lt.1 (of_decide_eq_true h7)
    show ((w : Int) - 1).toNat + 0 < l2.length
    omega
  · rename_i b0 h0 v hv h3 w hw h4 bs k hk hl h5 h6 h7 bq h8
    change Nat at w
    obtain ⟨f1, f2⟩ : w ≤ (l2.take n2).length ∧ okSs ((l.take n).map blkOf) (okH h && okBs ((l.take n).map blkOf) ((l.take n).map blkOf).length) (l2.take n2) w = true := hw
    have h4 : w < n2 := Int.ofNat_lt.1 (of_decide_eq_true h4)
    have hBw : (l2.take n2).getD w slot0 = l2.getD w slot0 := tk_at h4
    obtain ⟨k, nd, w2⟩ := k
    obtain rfl : w = w2 := Int.ofNat_inj.1 hl
    obtain ⟨k1, k2⟩ : k ≤ ((l.take n).map blkOf).length ∧ nd = anyF (fun b => decide (b.1 = ((l2.take n2).getD w slot0).pl.1)) (((l.take n).map blkOf).take k) := hk
    rw [hBw] at k2
    have h5 : ¬ k < n := fun hq => of_decide_eq_false h5 (Int.ofNat_lt.2 hq)
    rw [hAl] at k1
    rw [List.take_of_length_le (l := (l.take n).map blkOf) (by rw [hAl]; omega)] at k2
    have h6 : (!nd || decide ((l2.getD w slot0).pl.2 < 0) || decide (64 ≤ (l2.getD w slot0).pl.2) || !cn (l2.getD w slot0).key || !okMe (l2.getD w slot0).me) = false := h6
    rw [k2] at h6
    have h7 : 0 < w := Int.ofNat_lt.1 (of_decide_eq_true h7)
    have h8 : (decide ((l2.getD w slot0).pl.1 < (l2.getD (((w : Int) - 1).toNat + 0) slot0).pl.1) || (decide ((l2.getD (((w : Int) - 1).toNat + 0) slot0).pl.1 = (l2.getD w slot0).pl.1) && decide ((l2.getD w slot0).pl.2 ≤ (l2.getD (((w : Int) - 1).toNat + 0) slot0).pl.2))) = true := h8
    rw [pred_nat] at h8
    have hBp : (l2.take n2).getD (w - 1) slot0 = l2.getD (w - 1) slot0 := tk_at (by omega)
    refine (okP_noS (i := w + 1) ?_ (by rw [tk_len hnl2]; omega)).symm
    rw [okSs, hBw]
    rw [hBp]
    exact slt_no2 h7 h8
  · rename_i b0 h0 v hv h3 w hw h4 bs k hk hl h5 h6 h7 bq h8
    change Nat at w
    obtain ⟨f1, f2⟩ : w ≤ (l2.take n2).length ∧ okSs ((l.take n).map blkOf) (okH h && okBs ((l.take n).map blkOf) ((l.take n).map blkOf).length) (l2.take n2) w = true := hw
    have h4 : w < n2 := Int.ofNat_lt.1 (of_decide_eq_true h4)
    have hBw : (l2.take n2).getD w slot0 = l2.getD w slot0 := tk_at h4
    obtain ⟨k, nd, w2⟩ := k
    obtain rfl : w = w2 := Int.ofNat_inj.1 hl
    obtain ⟨k1, k2⟩ : k ≤ ((l.take n).map blkOf).length ∧ nd = anyF (fun b => decide (b.1 = ((l2.take n2).getD w slot0).pl.1)) (((l.take n).map blkOf).take k) := hk
    rw [hBw] at k2
    exact inR64 (by show _ ≤ (w : Int) + 1; omega) (by show (w : Int) + 1 ≤ _; omega)
  · rename_i b0 h0 v hv h3 w hw h4 bs k hk hl h5 h6 h7 bq h8
    change Nat at w
    obtain ⟨f1, f2⟩ : w ≤ (l2.take n2).length ∧ okSs ((l.take n).map blkOf) (okH h && okBs ((l.take n).map blkOf) ((l.take n).map blkOf).length) (l2.take n2) w = true := hw
    have h4 : w < n2 := Int.ofNat_lt.1 (of_decide_eq_true h4)
    have hBw : (l2.take n2).getD w slot0 = l2.getD w slot0 := tk_at h4
    obtain ⟨k, nd, w2⟩ := k
    obtain rfl : w = w2 := Int.ofNat_inj.1 hl
    obtain ⟨k1, k2⟩ : k ≤ ((l.take n).map blkOf).length ∧ nd = anyF (fun b => decide (b.1 = ((l2.take n2).getD w slot0).pl.1)) (((l.take n).map blkOf).take k) := hk
    rw [hBw] at k2
    have h5 : ¬ k < n := fun hq => of_decide_eq_false h5 (Int.ofNat_lt.2 hq)
    rw [hAl] at k1
    rw [List.take_of_length_le (l := (l.take n).map blkOf) (by rw [hAl]; omega)] at k2
    have h6 : (!nd || decide ((l2.getD w slot0).pl.2 < 0) || decide (64 ≤ (l2.getD w slot0).pl.2) || !cn (l2.getD w slot0).key || !okMe (l2.getD w slot0).me) = false := h6
    rw [k2] at h6
    have h7 : 0 < w := Int.ofNat_lt.1 (of_decide_eq_true h7)
    have h8 : (decide ((l2.getD w slot0).pl.1 < (l2.getD (((w : Int) - 1).toNat + 0) slot0).pl.1) || (decide ((l2.getD (((w : Int) - 1).toNat + 0) slot0).pl.1 = (l2.getD w slot0).pl.1) && decide ((l2.getD w slot0).pl.2 ≤ (l2.getD (((w : Int) - 1).toNat + 0) slot0).pl.2))) = false := h8
    rw [pred_nat] at h8
    have hBp : (l2.take n2).getD (w - 1) slot0 = l2.getD (w - 1) slot0 := tk_at (by omega)
    refine Stands.one (w + 1 : Nat) ⟨⟨by rw [tk_len hnl2]; exact h4, ?_⟩, ?_, ?_⟩
    · show okSs _ _ _ (w + 1) = true
      rw [okSs, hBw, f2]
      rw [hBp]; exact slt_yes h6 (.inr h8)
    · show (l2.take n2).length - (w + 1) < (l2.take n2).length - w
      rw [tk_len hnl2]; omega
    ((conv => (arg 1; reduce)); with_reducible repeat' (first | exact Tr.yes_h | refine Tr.and_h ?_ ?_ | refine Tr.imp_h fun _ => ?_ | refine Tr.all_h fun _ => ?_ | refine Tr.lf_h ?_))
    all_goals (first | first | (show Region.lexB _ _ = true; kernel_rfl) | (show planned _ _ = true; kernel_rfl) | exact rfl | exact True.intro | ((try dsimp only [imp, C0, cG, cInt, cPl, cSlot, cPg, rwCodec, cRaw] at *); (try refine inR64 ?_ ?_) <;> (try simp only [List.length_set, List.length_append, List.length_take, List.length_drop]) <;> omega))
  · rename_i b0 h0 v hv h3 w hw h4 bs k hk hl h5 h6 h7
    change Nat at w
    obtain ⟨f1, f2⟩ : w ≤ (l2.take n2).length ∧ okSs ((l.take n).map blkOf) (okH h && okBs ((l.take n).map blkOf) ((l.take n).map blkOf).length) (l2.take n2) w = true := hw
    have h4 : w < n2 := Int.ofNat_lt.1 (of_decide_eq_true h4)
    have hBw : (l2.take n2).getD w slot0 = l2.getD w slot0 := tk_at h4
    obtain ⟨k, nd, w2⟩ := k
    obtain rfl : w = w2 := Int.ofNat_inj.1 hl
    obtain ⟨k1, k2⟩ : k ≤ ((l.take n).map blkOf).length ∧ nd = anyF (fun b => decide (b.1 = ((l2.take n2).getD w slot0).pl.1)) (((l.take n).map blkOf).take k) := hk
    rw [hBw] at k2
    exact inR64 (by show _ ≤ (w : Int) + 1; omega) (by show (w : Int) + 1 ≤ _; omega)
  · rename_i b0 h0 v hv h3 w hw h4 bs k hk hl h5 h6 h7
    change Nat at w
    obtain ⟨f1, f2⟩ : w ≤ (l2.take n2).length ∧ okSs ((l.take n).map blkOf) (okH h && okBs ((l.take n).map blkOf) ((l.take n).map blkOf).length) (l2.take n2) w = true := hw
    have h4 : w < n2 := Int.ofNat_lt.1 (of_decide_eq_true h4)
    have hBw : (l2.take n2).getD w slot0 = l2.getD w slot0 := tk_at h4
    obtain ⟨k, nd, w2⟩ := k
    obtain rfl : w = w2 := Int.ofNat_inj.1 hl
    obtain ⟨k1, k2⟩ : k ≤ ((l.take n).map blkOf).length ∧ nd = anyF (fun b => decide (b.1 = ((l2.take n2).getD w slot0).pl.1)) (((l.take n).map blkOf).take k) := hk
    rw [hBw] at k2
    have h5 : ¬ k < n := fun hq => of_decide_eq_false h5 (Int.ofNat_lt.2 hq)
    rw [hAl] at k1
    rw [List.take_of_length_le (l := (l.take n).map blkOf) (by rw [hAl]; omega)] at k2
    have h6 : (!nd || decide ((l2.getD w slot0).pl.2 < 0) || decide (64 ≤ (l2.getD w slot0).pl.2) || !cn (l2.getD w slot0).key || !okMe (l2.getD w slot0).me) = false := h6
    rw [k2] at h6
    have h7 : ¬ 0 < w := fun hq => of_decide_eq_false h7 (Int.ofNat_lt.2 hq)
    refine Stands.one (w + 1 : Nat) ⟨⟨by rw [tk_len hnl2]; exact h4, ?_⟩, ?_, ?_⟩
    · show okSs _ _ _ (w + 1) = true
      rw [okSs, hBw, f2]
      exact slt_yes h6 (.inl (by omega))
    · show (l2.take n2).length - (w + 1) < (l2.take n2).length - w
      rw [tk_len hnl2]; omega
    ((conv => (arg 1; reduce)); with_reducible repeat' (first | exact Tr.yes_h | refine Tr.and_h ?_ ?_ | refine Tr.imp_h fun _ => ?_ | refine Tr.all_h fun _ => ?_ | refine Tr.lf_h ?_))
    all_goals (first | first | (show Region.lexB _ _ = true; kernel_rfl) | (show planned _ _ = true; kernel_rfl) | exact rfl | exact True.intro | ((try dsimp only [imp, C0, cG, cInt, cPl, cSlot, cPg, rwCodec, cRaw] at *); (try refine inR64 ?_ ?_) <;> (try simp only [List.length_set, List.length_append, List.length_take, List.length_drop]) <;> omega))
  · rename_i b0 h0 v hv h3 w hw h4
    change Nat at w
    obtain ⟨f1, f2⟩ : w ≤ (l2.take n2).length ∧ okSs ((l.take n).map blkOf) (okH h && okBs ((l.take n).map blkOf) ((l.take n).map blkOf).length) (l2.take n2) w = true := hw
    have h4 : ¬ w < n2 := fun hq => of_decide_eq_false h4 (Int.ofNat_lt.2 hq)
    have hw2 : w = (l2.take n2).length := by rw [tk_len hnl2] at f1 ⊢; omega
    show true = okP _ _ _
    unfold okP
    rw [← hw2, f2]
def pcRpmay : Pc Tryd.prog C0 where
  tg := .fn 12
  X := Hd × Sq (Rw Int) × Sq Slot
  args := fun (h, (o, b, q, l, n, c), (o2, b2, q2, l2, n2, c2)) => [ptv h (.sl 0 0 n c) (.sl 1 0 n2 c2)]
  mem := fun (h, (o, b, q, l, n, c), (o2, b2, q2, l2, n2, c2)) => [⟨b, q, 1, false, some o, .rows 71 l⟩, ⟨b2, q2, 9, false, some o2, .rows 74 l2⟩]
  pre := fun (h, (o, b, q, l, n, c), (o2, b2, q2, l2, n2, c2)) => Sq.ok (o, b, q, l, n, c) ∧ Sq.ok (o2, b2, q2, l2, n2, c2) ∧ (∀ r ∈ l.take n, Rok r ∧ r.l.length = 2) ∧ n ≤ 1000000 ∧ n2 ≤ 1000000
  res := fun (h, (o, b, q, l, n, c), (o2, b2, q2, l2, n2, c2)) => .bool (.tm (okP h ((l.take n).map blkOf) (l2.take n2)))
  mat vs m := match vs with
    | [.agg [.int _ h1, .int _ h2, .int _ h3, .int _ h4, .sl a 0 n c, .sl a' 0 n' c']] => match nth m a, nth m a' with
      | ⟨b, q, _, _, g, .rows 71 l⟩, ⟨b', q', _, _, g', .rows 74 l'⟩ => some (((h1, h2, h3, h4), (onOf g, b, q, l, n, c), (onOf g', b', q', l', n', c')), [a, a'])
      | _, _ => none
    | _ => none
  ok := fun (h, (o, b, q, l, n, c), (o2, b2, q2, l2, n2, c2)) x => rpmay_ok h o b q l n c o2 b2 q2 l2 n2 c2 x.1 x.2.1 x.2.2.1 x.2.2.2.1 x.2.2.2.2
end Go.Vx
set_option linter.unusedSectionVars false
set_option maxRecDepth 100000
set_option linter.unusedVariables false
set_option linter.unusedSimpArgs false
namespace Go.Vx
open Go Go.Proofs
variable [Gl]

theorem fr1 {N : List Int} {x : Int} {g g' : List Int} {k c c' : Nat} (h : Gr (fours N) g k c) (hy : Gr (g.take k ++ four x) g' (k + 4) c') : Gr (fours (N ++ [x])) g' (k + 4) c' := by
  rw [fours_app, fours_one, ← h.2.1]; exact hy
theorem fpre {N : List Int} {g : List Int} {k c : Nat} (h : Gr (fours N) g k c) (hk : k < 140737488355000) : k ≤ c ∧ c ≤ g.length ∧ k < 140737488355000 ∧ (true = false → k = 0 ∧ c = 0) := ⟨h.2.2.1, h.2.2.2, hk, fun h => Bool.noConfusion h⟩
theorem blk_lst (r : Rw Int) : lst (blkOf r) = [r.l.getD 0 0, r.l.getD 1 0] := by unfold blkOf; rfl
theorem slot_lst (s : Slot) : slotN s = [s.key] ++ [s.pl.1] ++ [s.pl.2] ++ [s.me.kind] ++ [s.me.key] ++ [s.me.seq] ++ [s.me.stamp] ++ [s.me.batch] ++ [s.me.floor] := rfl
abbrev Fx := Nat × Nat × List Int × Nat
def Pb4 (h : Hd) (A : List Pl) : Inv' C0 := ⟨4, Nat × Fx, fun x => [(4, .int .i64 (x.1 : Int)), (3, .sl 8 0 (20 + 8 * x.1) x.2.2.2.2), (23, .junk)], fun x m => match m with
  | [a0, a1, bx, d1, d2, d3, d4, d5, y] => [a0, a1, bx, d1, d2, d3, d4, d5, ⟨x.2.1, x.2.2.1, 1, true, none, .rows 5 x.2.2.2.1⟩]
  | m => m, fun x => x.1 ≤ A.length ∧ Gr (fours (hdN h A.length ++ (A.take x.1).flatMap lst)) x.2.2.2.1 (20 + 8 * x.1) x.2.2.2.2, fun x => A.length - x.1⟩
def Pb9 (h : Hd) (A : List Pl) (B : List Slot) : Inv' C0 := ⟨9, Nat × Fx, fun x => [(5, .int .i64 (x.1 : Int)), (3, .sl 9 0 (24 + 8 * A.length + 36 * x.1) x.2.2.2.2), (52, .junk)], fun x m => match m with
  | [a0, a1, bx, d1, d2, d3, d4, d5, d6, y] => [a0, a1, bx, d1, d2, d3, d4, d5, d6, ⟨x.2.1, x.2.2.1, 1, true, none, .rows 5 x.2.2.2.1⟩]
  | m => m, fun x => x.1 ≤ B.length ∧ Gr (fours (hdN h A.length ++ A.flatMap lst ++ [(B.length : Int)] ++ (B.take x.1).flatMap slotN)) x.2.2.2.1 (24 + 8 * A.length + 36 * x.1) x.2.2.2.2, fun x => B.length - x.1⟩
set_option maxHeartbeats 16000000 in
theorem pbytes_ok (h : Hd) (o : Bool) (b q : Nat) (l : List (Rw Int)) (n c : Nat) (o2 : Bool) (b2 q2 : Nat) (l2 : List Slot) (n2 c2 : Nat)
    (h1 : Sq.ok (o, b, q, l, n, c)) (h2 : Sq.ok (o2, b2, q2, l2, n2, c2)) (hr : ∀ r ∈ l.take n, Rok r ∧ r.l.length = 2) (hn : n ≤ 1000000) (hn2 : n2 ≤ 1000000) :
    Does (C := C0) Tryd.prog (.fn 15) [⟨b, q, 1, false, some o, .rows 71 l⟩, ⟨b2, q2, 9, false, some o2, .rows 74 l2⟩] [ptv h (.sl 0 0 n c) (.sl 1 0 n2 c2)]
    [⟨Fx, fun y => Gr (bytesP h ((l.take n).map blkOf) (l2.take n2)) y.2.2.1 (bytesP h ((l.take n).map blkOf) (l2.take n2)).length y.2.2.2, fun y => .sl 2 0 (bytesP h ((l.take n).map blkOf) (l2.take n2)).length y.2.2.2,
      fun y => [⟨b, q, 1, false, some o, .rows 71 l⟩, ⟨b2, q2, 9, false, some o2, .rows 74 l2⟩, ⟨y.1, y.2.1, 1, true, none, .rows 5 y.2.2.1⟩]⟩] := by
  have hnl : n ≤ l.length := h1.2.1
  have hnl2 : n2 ≤ l2.length := h2.2.1
  have hAl : ((l.take n).map blkOf).length = n := by rw [List.length_map]; exact tk_len hnl
  refine loc_fn (P := Tryd.prog) (E := ⟨[fcFour], [pcRcrc], 107, [(1, [2], [.p 0, .p 1, .p 3, .p 4, .p 6, .p 7, .p 9, .p 10, .e 2, .e 5, .e 8, .e 11, .p 12]),
    (6, [0, 2], [.p 0, .p 1, .p 2, .p 3, .p 4, .p 5, .p 6, .p 7, .p 9, .p 10, .p 11, .p 12, .p 13, .p 14, .p 15, .e 8, .e 16, .p 17]),
    (12, [10], [.p 0, .p 1, .p 2, .p 4, .p 5, .p 6, .p 8, .p 9, .p 10, .e 3, .e 7, .e 11, .p 12]),
    (13, [10], [.p 0, .p 1, .p 2, .p 3, .p 5, .p 6, .p 7, .p 9, .p 10, .p 11, .e 4, .e 8, .e 12, .p 13]),
    (14, [10], [.p 0, .p 1, .p 2, .p 3, .p 5, .p 6, .p 7, .p 9, .p 10, .p 11, .e 4, .e 8, .e 12, .p 13])], [fI], []⟩) (L := [Pb4 h ((l.take n).map blkOf), Pb9 h ((l.take n).map blkOf) (l2.take n2)]) mix Tryd.func15 rfl (by kernel_rfl) (by kernel_rfl) rfl rfl ?_
  ((conv => (arg 1; reduce)); with_reducible repeat' (first | exact Tr.yes_h | refine Tr.and_h ?_ ?_ | refine Tr.imp_h fun _ => ?_ | refine Tr.all_h fun _ => ?_ | refine Tr.lf_h ?_))
  all_goals try (first | first | (show Region.lexB _ _ = true; kernel_rfl) | (show planned _ _ = true; kernel_rfl) | exact rfl | exact True.intro | ((try dsimp only [imp, C0, cG, cInt, cPl, cSlot, cPg, rwCodec, cRaw] at *); (try refine inR64 ?_ ?_) <;> (try simp only [List.length_set, List.length_append, List.length_take, List.length_drop]) <;> omega))
  · exact ⟨Nat.le_refl _, Nat.le_refl _, by decide, fun _ => ⟨rfl, rfl⟩⟩
  · rename_i b0 y1 hy1
    have f0 : Gr (fours []) [] 0 0 := by rw [fours_nil]; exact ⟨rfl, rfl, Nat.le_refl _, Nat.le_refl _⟩
    have f1 := fr1 f0 hy1
    exact fpre f1 (by decide)
  · rename_i b0 y1 hy1 y2 hy2
    have f0 : Gr (fours []) [] 0 0 := by rw [fours_nil]; exact ⟨rfl, rfl, Nat.le_refl _, Nat.le_refl _⟩
    have f1 := fr1 f0 hy1
    have f2 := fr1 f1 hy2
    exact fpre f2 (by decide)
  · rename_i b0 y1 hy1 y2 hy2 y3 hy3
    have f0 : Gr (fours []) [] 0 0 := by rw [fours_nil]; exact ⟨rfl, rfl, Nat.le_refl _, Nat.le_refl _⟩
    have f1 := fr1 f0 hy1
    have f2 := fr1 f1 hy2
    have f3 := fr1 f2 hy3
    exact fpre f3 (by decide)
  · rename_i b0 y1 hy1 y2 hy2 y3 hy3 y4 hy4
    have f0 : Gr (fours []) [] 0 0 := by rw [fours_nil]; exact ⟨rfl, rfl, Nat.le_refl _, Nat.le_refl _⟩
    have f1 := fr1 f0 hy1
    have f2 := fr1 f1 hy2
    have f3 := fr1 f2 hy3
    have f4 := fr1 f3 hy4
    exact fpre f4 (by decide)
  · rename_i b0 y1 hy1 y2 hy2 y3 hy3 y4 hy4 y5 hy5
    have f0 : Gr (fours []) [] 0 0 := by rw [fours_nil]; exact ⟨rfl, rfl, Nat.le_refl _, Nat.le_refl _⟩
    have f1 := fr1 f0 hy1
    have f2 := fr1 f1 hy2
    have f3 := fr1 f2 hy3
    have f4 := fr1 f3 hy4
    have f5 := fr1 f4 hy5
    refine Stands.one (0, y5) ⟨⟨Nat.zero_le _, ?_⟩, ?_⟩
    · show Gr (fours (hdN h ((l.take n).map blkOf).length ++ [])) _ _ _
      rw [hAl]
      exact f5
    ((conv => (arg 1; reduce)); with_reducible repeat' (first | exact Tr.yes_h | refine Tr.and_h ?_ ?_ | refine Tr.imp_h fun _ => ?_ | refine Tr.all_h fun _ => ?_ | refine Tr.lf_h ?_))
    all_goals (first | first | (show Region.lexB _ _ = true; kernel_rfl) | (show planned _ _ = true; kernel_rfl) | exact rfl | exact True.intro | ((try dsimp only [imp, C0, cG, cInt, cPl, cSlot, cPg, rwCodec, cRaw] at *); (try refine inR64 ?_ ?_) <;> (try simp only [List.length_set, List.length_append, List.length_take, List.length_drop]) <;> omega))
  · rename_i b0 y1 hy1 y2 hy2 y3 hy3 y4 hy4 y5 hy5 v hv h3
    obtain ⟨v, y⟩ := v
    obtain ⟨e1, e2⟩ : v ≤ ((l.take n).map blkOf).length ∧ Gr (fours (hdN h ((l.take n).map blkOf).length ++ (((l.take n).map blkOf).take v).flatMap lst)) y.2.2.1 (20 + 8 * v) y.2.2.2 := hv
    have h3n : v < n := Int.ofNat_lt.1 (of_decide_eq_true h3)
    exact on_of h1.2.2 (Nat.lt_of_le_of_lt (Nat.zero_le _) h3n)
  · rename_i b0 y1 hy1 y2 hy2 y3 hy3 y4 hy4 y5 hy5 v hv h3
    obtain ⟨v, y⟩ := v
    obtain ⟨e1, e2⟩ : v ≤ ((l.take n).map blkOf).length ∧ Gr (fours (hdN h ((l.take n).map blkOf).length ++ (((l.take n).map blkOf).take v).flatMap lst)) y.2.2.1 (20 + 8 * v) y.2.2.2 := hv
    have h3n : v < n := Int.ofNat_lt.1 (of_decide_eq_true h3)
    exact Int.ofNat_lt.2 h3n
  · rename_i b0 y1 hy1 y2 hy2 y3 hy3 y4 hy4 y5 hy5 v hv h3
    obtain ⟨v, y⟩ := v
    obtain ⟨e1, e2⟩ : v ≤ ((l.take n).map blkOf).length ∧ Gr (fours (hdN h ((l.take n).map blkOf).length ++ (((l.take n).map blkOf).take v).flatMap lst)) y.2.2.1 (20 + 8 * v) y.2.2.2 := hv
    have h3n : v < n := Int.ofNat_lt.1 (of_decide_eq_true h3)
    exact on_of h1.2.2 (Nat.lt_of_le_of_lt (Nat.zero_le _) h3n)
  · rename_i b0 y1 hy1 y2 hy2 y3 hy3 y4 hy4 y5 hy5 v hv h3
    obtain ⟨v, y⟩ := v
    obtain ⟨e1, e2⟩ : v ≤ ((l.take n).map blkOf).length ∧ Gr (fours (hdN h ((l.take n).map blkOf).length ++ (((l.take n).map blkOf).take v).flatMap lst)) y.2.2.1 (20 + 8 * v) y.2.2.2 := hv
    have h3n : v < n := Int.ofNat_lt.1 (of_decide_eq_true h3)
    show (v : Int).toNat + 0 < l.length
    omega
  · rename_i b0 y1 hy1 y2 hy2 y3 hy3 y4 hy4 y5 hy5 v hv h3 r hr1
    obtain ⟨v, y⟩ := v
    obtain ⟨e1, e2⟩ : v ≤ ((l.take n).map blkOf).length ∧ Gr (fours (hdN h ((l.take n).map blkOf).length ++ (((l.take n).map blkOf).take v).flatMap lst)) y.2.2.1 (20 + 8 * v) y.2.2.2 := hv
    have h3n : v < n := Int.ofNat_lt.1 (of_decide_eq_true h3)
    change Rw Int at r
    have hr1 : l.getD v Rw.nil = r := hr1
    obtain ⟨⟨g1, g2, g3⟩, g4⟩ := hr r (row_mem h3n hnl hr1)
    exact on_of g1 (by omega)
  · rename_i b0 y1 hy1 y2 hy2 y3 hy3 y4 hy4 y5 hy5 v hv h3 r hr1
    obtain ⟨v, y⟩ := v
    obtain ⟨e1, e2⟩ : v ≤ ((l.take n).map blkOf).length ∧ Gr (fours (hdN h ((l.take n).map blkOf).length ++ (((l.take n).map blkOf).take v).flatMap lst)) y.2.2.1 (20 + 8 * v) y.2.2.2 := hv
    have h3n : v < n := Int.ofNat_lt.1 (of_decide_eq_true h3)
    change Rw Int at r
    have hr1 : l.getD v Rw.nil = r := hr1
    obtain ⟨⟨g1, g2, g3⟩, g4⟩ := hr r (row_mem h3n hnl hr1)
    show (0 : Int) < ((r.l.length : Nat) : Int)
    rw [g4]; decide
  · rename_i b0 y1 hy1 y2 hy2 y3 hy3 y4 hy4 y5 hy5 v hv h3 r hr1
    obtain ⟨v, y⟩ := v
    obtain ⟨e1, e2⟩ : v ≤ ((l.take n).map blkOf).length ∧ Gr (fours (hdN h ((l.take n).map blkOf).length ++ (((l.take n).map blkOf).take v).flatMap lst)) y.2.2.1 (20 + 8 * v) y.2.2.2 := hv
    have h3n : v < n := Int.ofNat_lt.1 (of_decide_eq_true h3)
    change Rw Int at r
    have hr1 : l.getD v Rw.nil = r := hr1
    obtain ⟨⟨g1, g2, g3⟩, g4⟩ := hr r (row_mem h3n hnl hr1)
    exact on_of g1 (by omega)
  · rename_i b0 y1 hy1 y2 hy2 y3 hy3 y4 hy4 y5 hy5 v hv h3 r hr1
    obtain ⟨v, y⟩ := v
    obtain ⟨e1, e2⟩ : v ≤ ((l.take n).map blkOf).length ∧ Gr (fours (hdN h ((l.take n).map blkOf).length ++ (((l.take n).map blkOf).take v).flatMap lst)) y.2.2.1 (20 + 8 * v) y.2.2.2 := hv
    have h3n : v < n := Int.ofNat_lt.1 (of_decide_eq_true h3)
    change Rw Int at r
    have hr1 : l.getD v Rw.nil = r := hr1
    obtain ⟨⟨g1, g2, g3⟩, g4⟩ := hr r (row_mem h3n hnl hr1)
    show (0 : Int).toNat + 0 < r.l.length
    rw [g4]; decide
  · rename_i b0 y1 hy1 y2 hy2 y3 hy3 y4 hy4 y5 hy5 v hv h3 r hr1
    obtain ⟨v, y⟩ := v
    obtain ⟨e1, e2⟩ : v ≤ ((l.take n).map blkOf).length ∧ Gr (fours (hdN h ((l.take n).map blkOf).length ++ (((l.take n).map blkOf).take v).flatMap lst)) y.2.2.1 (20 + 8 * v) y.2.2.2 := hv
    have h3n : v < n := Int.ofNat_lt.1 (of_decide_eq_true h3)
    exact on_of h1.2.2 (Nat.lt_of_le_of_lt (Nat.zero_le _) h3n)
  · rename_i b0 y1 hy1 y2 hy2 y3 hy3 y4 hy4 y5 hy5 v hv h3 r hr1
    obtain ⟨v, y⟩ := v
    obtain ⟨e1, e2⟩ : v ≤ ((l.take n).map blkOf).length ∧ Gr (fours (hdN h ((l.take n).map blkOf).length ++ (((l.take n).map blkOf).take v).flatMap lst)) y.2.2.1 (20 + 8 * v) y.2.2.2 := hv
    have h3n : v < n := Int.ofNat_lt.1 (of_decide_eq_true h3)
    exact Int.ofNat_lt.2 h3n
  · rename_i b0 y1 hy1 y2 hy2 y3 hy3 y4 hy4 y5 hy5 v hv h3 r hr1
    obtain ⟨v, y⟩ := v
    obtain ⟨e1, e2⟩ : v ≤ ((l.take n).map blkOf).length ∧ Gr (fours (hdN h ((l.take n).map blkOf).length ++ (((l.take n).map blkOf).take v).flatMap lst)) y.2.2.1 (20 + 8 * v) y.2.2.2 := hv
    have h3n : v < n := Int.ofNat_lt.1 (of_decide_eq_true h3)
    exact on_of h1.2.2 (Nat.lt_of_le_of_lt (Nat.zero_le _) h3n)
  · rename_i b0 y1 hy1 y2 hy2 y3 hy3 y4 hy4 y5 hy5 v hv h3 r hr1
    obtain ⟨v, y⟩ := v
    obtain ⟨e1, e2⟩ : v ≤ ((l.take n).map blkOf).length ∧ Gr (fours (hdN h ((l.take n).map blkOf).length ++ (((l.take n).map blkOf).take v).flatMap lst)) y.2.2.1 (20 + 8 * v) y.2.2.2 := hv
    have h3n : v < n := Int.ofNat_lt.1 (of_decide_eq_true h3)
    show (v : Int).toNat + 0 < l.length
    omega
  · rename_i b0 y1 hy1 y2 hy2 y3 hy3 y4 hy4 y5 hy5 v hv h3 r hr1 r2 hr2
    obtain ⟨v, y⟩ := v
    obtain ⟨e1, e2⟩ : v ≤ ((l.take n).map blkOf).length ∧ Gr (fours (hdN h ((l.take n).map blkOf).length ++ (((l.take n).map blkOf).take v).flatMap lst)) y.2.2.1 (20 + 8 * v) y.2.2.2 := hv
    have h3n : v < n := Int.ofNat_lt.1 (of_decide_eq_true h3)
    change Rw Int at r2
    have hr2 : l.getD v Rw.nil = r2 := hr2
    obtain ⟨⟨g1, g2, g3⟩, g4⟩ := hr r2 (row_mem h3n hnl hr2)
    exact on_of g1 (by omega)
  · rename_i b0 y1 hy1 y2 hy2 y3 hy3 y4 hy4 y5 hy5 v hv h3 r hr1 r2 hr2
    obtain ⟨v, y⟩ := v
    obtain ⟨e1, e2⟩ : v ≤ ((l.take n).map blkOf).length ∧ Gr (fours (hdN h ((l.take n).map blkOf).length ++ (((l.take n).map blkOf).take v).flatMap lst)) y.2.2.1 (20 + 8 * v) y.2.2.2 := hv
    have h3n : v < n := Int.ofNat_lt.1 (of_decide_eq_true h3)
    change Rw Int at r2
    have hr2 : l.getD v Rw.nil = r2 := hr2
    obtain ⟨⟨g1, g2, g3⟩, g4⟩ := hr r2 (row_mem h3n hnl hr2)
    show (1 : Int) < ((r2.l.length : Nat) : Int)
    rw [g4]; decide
  · rename_i b0 y1 hy1 y2 hy2 y3 hy3 y4 hy4 y5 hy5 v hv h3 r hr1 r2 hr2
    obtain ⟨v, y⟩ := v
    obtain ⟨e1, e2⟩ : v ≤ ((l.take n).map blkOf).length ∧ Gr (fours (hdN h ((l.take n).map blkOf).length ++ (((l.take n).map blkOf).take v).flatMap lst)) y.2.2.1 (20 + 8 * v) y.2.2.2 := hv
    have h3n : v < n := Int.ofNat_lt.1 (of_decide_eq_true h3)
    change Rw Int at r2
    have hr2 : l.getD v Rw.nil = r2 := hr2
    obtain ⟨⟨g1, g2, g3⟩, g4⟩ := hr r2 (row_mem h3n hnl hr2)
    exact on_of g1 (by omega)
  · rename_i b0 y1 hy1 y2 hy2 y3 hy3 y4 hy4 y5 hy5 v hv h3 r hr1 r2 hr2
    obtain ⟨v, y⟩ := v
    obtain ⟨e1, e2⟩ : v ≤ ((l.take n).map blkOf).length ∧ Gr (fours (hdN h ((l.take n).map blkOf).length ++ (((l.take n).map blkOf).take v).flatMap lst)) y.2.2.1 (20 + 8 * v) y.2.2.2 := hv
    have h3n : v < n := Int.ofNat_lt.1 (of_decide_eq_true h3)
    change Rw Int at r2
    have hr2 : l.getD v Rw.nil = r2 := hr2
    obtain ⟨⟨g1, g2, g3⟩, g4⟩ := hr r2 (row_mem h3n hnl hr2)
    show (1 : Int).toNat + 0 < r2.l.length
    rw [g4]; decide
  · rename_i b0 y1 hy1 y2 hy2 y3 hy3 y4 hy4 y5 hy5 v hv h3 r hr1 r2 hr2
    obtain ⟨v, y⟩ := v
    obtain ⟨e1, e2⟩ : v ≤ ((l.take n).map blkOf).length ∧ Gr (fours (hdN h ((l.take n).map blkOf).length ++ (((l.take n).map blkOf).take v).flatMap lst)) y.2.2.1 (20 + 8 * v) y.2.2.2 := hv
    have h3n : v < n := Int.ofNat_lt.1 (of_decide_eq_true h3)
    exact fpre e2 (by omega)
  · rename_i b0 y1 hy1 y2 hy2 y3 hy3 y4 hy4 y5 hy5 v hv h3 r hr1 r2 hr2 z1 hz1
    obtain ⟨v, y⟩ := v
    obtain ⟨e1, e2⟩ : v ≤ ((l.take n).map blkOf).length ∧ Gr (fours (hdN h ((l.take n).map blkOf).length ++ (((l.take n).map blkOf).take v).flatMap lst)) y.2.2.1 (20 + 8 * v) y.2.2.2 := hv
    have h3n : v < n := Int.ofNat_lt.1 (of_decide_eq_true h3)
    have k1 := fr1 e2 hz1
    exact fpre k1 (by omega)
  · rename_i b0 y1 hy1 y2 hy2 y3 hy3 y4 hy4 y5 hy5 v hv h3 r hr1 r2 hr2 z1 hz1 z2 hz2
    obtain ⟨v, y⟩ := v
    obtain ⟨e1, e2⟩ : v ≤ ((l.take n).map blkOf).length ∧ Gr (fours (hdN h ((l.take n).map blkOf).length ++ (((l.take n).map blkOf).take v).flatMap lst)) y.2.2.1 (20 + 8 * v) y.2.2.2 := hv
    have h3n : v < n := Int.ofNat_lt.1 (of_decide_eq_true h3)
    exact inR64 (by show _ ≤ (v : Int) + 1; omega) (by show (v : Int) + 1 ≤ _; omega)
  · rename_i b0 y1 hy1 y2 hy2 y3 hy3 y4 hy4 y5 hy5 v hv h3 r hr1 r2 hr2 z1 hz1 z2 hz2
    obtain ⟨v, y⟩ := v
    obtain ⟨e1, e2⟩ : v ≤ ((l.take n).map blkOf).length ∧ Gr (fours (hdN h ((l.take n).map blkOf).length ++ (((l.take n).map blkOf).take v).flatMap lst)) y.2.2.1 (20 + 8 * v) y.2.2.2 := hv
    have h3n : v < n := Int.ofNat_lt.1 (of_decide_eq_true h3)
    change Rw Int at r
    change Rw Int at r2
    have hr1 : l.getD v Rw.nil = r := hr1
    have hr2 : l.getD v Rw.nil = r2 := hr2
    have hrr : r2 = r := hr2.symm.trans hr1
    subst hrr
    have k1 := fr1 (x := r2.l.getD 0 0) e2 hz1
    have k2 := fr1 (x := r2.l.getD 1 0) k1 hz2
    refine Stands.one (v + 1, z2) ⟨⟨by rw [hAl]; omega, ?_⟩, ?_, ?_⟩
    · show Gr (fours (_ ++ (((l.take n).map blkOf).take (v + 1)).flatMap lst)) _ (20 + 8 * (v + 1)) _
      rw [take_snoc (d := (0, 0)) (by rw [hAl]; exact h3n), map_at h3n hnl, hr2, List.flatMap_append, List.flatMap_singleton, blk_lst, ← List.append_assoc]
      rw [List.append_assoc _ [_] [_]] at k2
      exact k2
    · show ((l.take n).map blkOf).length - (v + 1) < ((l.take n).map blkOf).length - v
      rw [hAl]; omega
    ((conv => (arg 1; reduce)); with_reducible repeat' (first | exact Tr.yes_h | refine Tr.and_h ?_ ?_ | refine Tr.imp_h fun _ => ?_ | refine Tr.all_h fun _ => ?_ | refine Tr.lf_h ?_))
    all_goals (first | first | (show Region.lexB _ _ = true; kernel_rfl) | (show planned _ _ = true; kernel_rfl) | exact rfl | exact True.intro | ((try dsimp only [imp, C0, cG, cInt, cPl, cSlot, cPg, rwCodec, cRaw] at *); (try refine inR64 ?_ ?_) <;> (try simp only [List.length_set, List.length_append, List.length_take, List.length_drop]) <;> omega))
  · rename_i b0 y1 hy1 y2 hy2 y3 hy3 y4 hy4 y5 hy5 v hv h3
    obtain ⟨v, y⟩ := v
    obtain ⟨e1, e2⟩ : v ≤ ((l.take n).map blkOf).length ∧ Gr (fours (hdN h ((l.take n).map blkOf).length ++ (((l.take n).map blkOf).take v).flatMap lst)) y.2.2.1 (20 + 8 * v) y.2.2.2 := hv
    have h3n : ¬ v < n := fun hq => of_decide_eq_false h3 (Int.ofNat_lt.2 hq)
    have hv2 : v = ((l.take n).map blkOf).length := by rw [hAl] at e1 ⊢; omega
    rw [List.take_of_length_le (l := (l.take n).map blkOf) (by omega)] at e2
    exact fpre e2 (by omega)
  · rename_i b0 y1 hy1 y2 hy2 y3 hy3 y4 hy4 y5 hy5 v hv h3 w1 hw1
    obtain ⟨v, y⟩ := v
    obtain ⟨e1, e2⟩ : v ≤ ((l.take n).map blkOf).length ∧ Gr (fours (hdN h ((l.take n).map blkOf).length ++ (((l.take n).map blkOf).take v).flatMap lst)) y.2.2.1 (20 + 8 * v) y.2.2.2 := hv
    have h3n : ¬ v < n := fun hq => of_decide_eq_false h3 (Int.ofNat_lt.2 hq)
    have hv2 : v = ((l.take n).map blkOf).length := by rw [hAl] at e1 ⊢; omega
    rw [List.take_of_length_le (l := (l.take n).map blkOf) (by omega)] at e2
    have k1 := fr1 e2 hw1
    refine Stands.one (0, w1) ⟨⟨Nat.zero_le _, ?_⟩, ?_⟩
    · show Gr (fours (_ ++ [((l2.take n2).length : Int)] ++ [])) _ (24 + 8 * ((l.take n).map blkOf).length + 36 * 0) _
      rw [List.append_nil, tk_len hnl2, show 24 + 8 * ((l.take n).map blkOf).length + 36 * 0 = 20 + 8 * v + 4 by omega]
      exact k1
    ((conv => (arg 1; reduce)); with_reducible repeat' (first | exact Tr.yes_h | refine Tr.and_h ?_ ?_ | refine Tr.imp_h fun _ => ?_ | refine Tr.all_h fun _ => ?_ | refine Tr.lf_h ?_))
    all_goals (first | first | (show Region.lexB _ _ = true; kernel_rfl) | (show planned _ _ = true; kernel_rfl) | exact rfl | exact True.intro | ((try dsimp only [imp, C0, cG, cInt, cPl, cSlot, cPg, rwCodec, cRaw] at *); (try refine inR64 ?_ ?_) <;> (try simp only [List.length_set, List.length_append, List.length_take, List.length_drop]) <;> omega))
  · rename_i b0 y1 hy1 y2 hy2 y3 hy3 y4 hy4 y5 hy5 v hv h3 w1 hw1 u hu h4
    obtain ⟨u, x⟩ := u
    obtain ⟨e1, e2⟩ : u ≤ (l2.take n2).length ∧ Gr (fours (hdN h ((l.take n).map blkOf).length ++ ((l.take n).map blkOf).flatMap lst ++ [((l2.take n2).length : Int)] ++ ((l2.take n2).take u).flatMap slotN)) x.2.2.1 (24 + 8 * ((l.take n).map blkOf).length + 36 * u) x.2.2.2 := hu
    have h4n : u < n2 := Int.ofNat_lt.1 (of_decide_eq_true h4)
    exact on_of h2.2.2 (Nat.lt_of_le_of_lt (Nat.zero_le _) h4n)
  · rename_i b0 y1 hy1 y2 hy2 y3 hy3 y4 hy4 y5 hy5 v hv h3 w1 hw1 u hu h4
    obtain ⟨u, x⟩ := u
    obtain ⟨e1, e2⟩ : u ≤ (l2.take n2).length ∧ Gr (fours (hdN h ((l.take n).map blkOf).length ++ ((l.take n).map blkOf).flatMap lst ++ [((l2.take n2).length : Int)] ++ ((l2.take n2).take u).flatMap slotN)) x.2.2.1 (24 + 8 * ((l.take n).map blkOf).length + 36 * u) x.2.2.2 := hu
    have h4n : u < n2 := Int.ofNat_lt.1 (of_decide_eq_true h4)
    exact Int.ofNat_lt.2 h4n
  · rename_i b0 y1 hy1 y2 hy2 y3 hy3 y4 hy4 y5 hy5 v hv h3 w1 hw1 u hu h4
    obtain ⟨u, x⟩ := u
    obtain ⟨e1, e2⟩ : u ≤ (l2.take n2).length ∧ Gr (fours (hdN h ((l.take n).map blkOf).length ++ ((l.take n).map blkOf).flatMap lst ++ [((l2.take n2).length : Int)] ++ ((l2.take n2).take u).flatMap slotN)) x.2.2.1 (24 + 8 * ((l.take n).map blkOf).length + 36 * u) x.2.2.2 := hu
    have h4n : u < n2 := Int.ofNat_lt.1 (of_decide_eq_true h4)
    exact on_of h2.2.2 (Nat.lt_of_le_of_lt (Nat.zero_le _) h4n)
  · rename_i b0 y1 hy1 y2 hy2 y3 hy3 y4 hy4 y5 hy5 v hv h3 w1 hw1 u hu h4
    obtain ⟨u, x⟩ := u
    obtain ⟨e1, e2⟩ : u ≤ (l2.take n2).length ∧ Gr (fours (hdN h ((l.take n).map blkOf).length ++ ((l.take n).map blkOf).flatMap lst ++ [((l2.take n2).length : Int)] ++ ((l2.take n2).take u).flatMap slotN)) x.2.2.1 (24 + 8 * ((l.take n).map blkOf).length + 36 * u) x.2.2.2 := hu
    have h4n : u < n2 := Int.ofNat_lt.1 (of_decide_eq_true h4)
    show (u : Int).toNat + 0 < l2.length
    omega
  · rename_i b0 y1 hy1 y2 hy2 y3 hy3 y4 hy4 y5 hy5 v hv h3 w1 hw1 u hu h4 bs
    obtain ⟨u, x⟩ := u
    obtain ⟨e1, e2⟩ : u ≤ (l2.take n2).length ∧ Gr (fours (hdN h ((l.take n).map blkOf).length ++ ((l.take n).map blkOf).flatMap lst ++ [((l2.take n2).length : Int)] ++ ((l2.take n2).take u).flatMap slotN)) x.2.2.1 (24 + 8 * ((l.take n).map blkOf).length + 36 * u) x.2.2.2 := hu
    have h4n : u < n2 := Int.ofNat_lt.1 (of_decide_eq_true h4)
    exact fpre e2 (by omega)
  · rename_i b0 y1 hy1 y2 hy2 y3 hy3 y4 hy4 y5 hy5 v hv h3 w1 hw1 u hu h4 bs z1 hz1
    obtain ⟨u, x⟩ := u
    obtain ⟨e1, e2⟩ : u ≤ (l2.take n2).length ∧ Gr (fours (hdN h ((l.take n).map blkOf).length ++ ((l.take n).map blkOf).flatMap lst ++ [((l2.take n2).length : Int)] ++ ((l2.take n2).take u).flatMap slotN)) x.2.2.1 (24 + 8 * ((l.take n).map blkOf).length + 36 * u) x.2.2.2 := hu
    have h4n : u < n2 := Int.ofNat_lt.1 (of_decide_eq_true h4)
    have k1 := fr1 (x := (l2.getD u slot0).key) e2 hz1
    exact fpre k1 (by omega)
  · rename_i b0 y1 hy1 y2 hy2 y3 hy3 y4 hy4 y5 hy5 v hv h3 w1 hw1 u hu h4 bs z1 hz1 z2 hz2
    obtain ⟨u, x⟩ := u
    obtain ⟨e1, e2⟩ : u ≤ (l2.take n2).length ∧ Gr (fours (hdN h ((l.take n).map blkOf).length ++ ((l.take n).map blkOf).flatMap lst ++ [((l2.take n2).length : Int)] ++ ((l2.take n2).take u).flatMap slotN)) x.2.2.1 (24 + 8 * ((l.take n).map blkOf).length + 36 * u) x.2.2.2 := hu
    have h4n : u < n2 := Int.ofNat_lt.1 (of_decide_eq_true h4)
    have k1 := fr1 (x := (l2.getD u slot0).key) e2 hz1
    have k2 := fr1 (x := (l2.getD u slot0).pl.1) k1 hz2
    exact fpre k2 (by omega)
  · rename_i b0 y1 hy1 y2 hy2 y3 hy3 y4 hy4 y5 hy5 v hv h3 w1 hw1 u hu h4 bs z1 hz1 z2 hz2 z3 hz3
    obtain ⟨u, x⟩ := u
    obtain ⟨e1, e2⟩ : u ≤ (l2.take n2).length ∧ Gr (fours (hdN h ((l.take n).map blkOf).length ++ ((l.take n).map blkOf).flatMap lst ++ [((l2.take n2).length : Int)] ++ ((l2.take n2).take u).flatMap slotN)) x.2.2.1 (24 + 8 * ((l.take n).map blkOf).length + 36 * u) x.2.2.2 := hu
    have h4n : u < n2 := Int.ofNat_lt.1 (of_decide_eq_true h4)
    have k1 := fr1 (x := (l2.getD u slot0).key) e2 hz1
    have k2 := fr1 (x := (l2.getD u slot0).pl.1) k1 hz2
    have k3 := fr1 (x := (l2.getD u slot0).pl.2) k2 hz3
    exact fpre k3 (by omega)
  · rename_i b0 y1 hy1 y2 hy2 y3 hy3 y4 hy4 y5 hy5 v hv h3 w1 hw1 u hu h4 bs z1 hz1 z2 hz2 z3 hz3 z4 hz4
    obtain ⟨u, x⟩ := u
    obtain ⟨e1, e2⟩ : u ≤ (l2.take n2).length ∧ Gr (fours (hdN h ((l.take n).map blkOf).length ++ ((l.take n).map blkOf).flatMap lst ++ [((l2.take n2).length : Int)] ++ ((l2.take n2).take u).flatMap slotN)) x.2.2.1 (24 + 8 * ((l.take n).map blkOf).length + 36 * u) x.2.2.2 := hu
    have h4n : u < n2 := Int.ofNat_lt.1 (of_decide_eq_true h4)
    have k1 := fr1 (x := (l2.getD u slot0).key) e2 hz1
    have k2 := fr1 (x := (l2.getD u slot0).pl.1) k1 hz2
    have k3 := fr1 (x := (l2.getD u slot0).pl.2) k2 hz3
    have k4 := fr1 (x := (l2.getD u slot0).me.kind) k3 hz4
    exact fpre k4 (by omega)
  · rename_i b0 y1 hy1 y2 hy2 y3 hy3 y4 hy4 y5 hy5 v hv h3 w1 hw1 u hu h4 bs z1 hz1 z2 hz2 z3 hz3 z4 hz4 z5 hz5
    obtain ⟨u, x⟩ := u
    obtain ⟨e1, e2⟩ : u ≤ (l2.take n2).length ∧ Gr (fours (hdN h ((l.take n).map blkOf).length ++ ((l.take n).map blkOf).flatMap lst ++ [((l2.take n2).length : Int)] ++ ((l2.take n2).take u).flatMap slotN)) x.2.2.1 (24 + 8 * ((l.take n).map blkOf).length + 36 * u) x.2.2.2 := hu
    have h4n : u < n2 := Int.ofNat_lt.1 (of_decide_eq_true h4)
    have k1 := fr1 (x := (l2.getD u slot0).key) e2 hz1
    have k2 := fr1 (x := (l2.getD u slot0).pl.1) k1 hz2
    have k3 := fr1 (x := (l2.getD u slot0).pl.2) k2 hz3
    have k4 := fr1 (x := (l2.getD u slot0).me.kind) k3 hz4
    have k5 := fr1 (x := (l2.getD u slot0).me.key) k4 hz5
    exact fpre k5 (by omega)
  · rename_i b0 y1 hy1 y2 hy2 y3 hy3 y4 hy4 y5 hy5 v hv h3 w1 hw1 u hu h4 bs z1 hz1 z2 hz2 z3 hz3 z4 hz4 z5 hz5 z6 hz6
    obtain ⟨u, x⟩ := u
    obtain ⟨e1, e2⟩ : u ≤ (l2.take n2).length ∧ Gr (fours (hdN h ((l.take n).map blkOf).length ++ ((l.take n).map blkOf).flatMap lst ++ [((l2.take n2).length : Int)] ++ ((l2.take n2).take u).flatMap slotN)) x.2.2.1 (24 + 8 * ((l.take n).map blkOf).length + 36 * u) x.2.2.2 := hu
    have h4n : u < n2 := Int.ofNat_lt.1 (of_decide_eq_true h4)
    have k1 := fr1 (x := (l2.getD u slot0).key) e2 hz1
    have k2 := fr1 (x := (l2.getD u slot0).pl.1) k1 hz2
    have k3 := fr1 (x := (l2.getD u slot0).pl.2) k2 hz3
    have k4 := fr1 (x := (l2.getD u slot0).me.kind) k3 hz4
    have k5 := fr1 (x := (l2.getD u slot0).me.key) k4 hz5
    have k6 := fr1 (x := (l2.getD u slot0).me.seq) k5 hz6
    exact fpre k6 (by omega)
  · rename_i b0 y1 hy1 y2 hy2 y3 hy3 y4 hy4 y5 hy5 v hv h3 w1 hw1 u hu h4 bs z1 hz1 z2 hz2 z3 hz3 z4 hz4 z5 hz5 z6 hz6 z7 hz7
    obtain ⟨u, x⟩ := u
    obtain ⟨e1, e2⟩ : u ≤ (l2.take n2).length ∧ Gr (fours (hdN h ((l.take n).map blkOf).length ++ ((l.take n).map blkOf).flatMap lst ++ [((l2.take n2).length : Int)] ++ ((l2.take n2).take u).flatMap slotN)) x.2.2.1 (24 + 8 * ((l.take n).map blkOf).length + 36 * u) x.2.2.2 := hu
    have h4n : u < n2 := Int.ofNat_lt.1 (of_decide_eq_true h4)
    have k1 := fr1 (x := (l2.getD u slot0).key) e2 hz1
    have k2 := fr1 (x := (l2.getD u slot0).pl.1) k1 hz2
    have k3 := fr1 (x := (l2.getD u slot0).pl.2) k2 hz3
    have k4 := fr1 (x := (l2.getD u slot0).me.kind) k3 hz4
    have k5 := fr1 (x := (l2.getD u slot0).me.key) k4 hz5
    have k6 := fr1 (x := (l2.getD u slot0).me.seq) k5 hz6
    have k7 := fr1 (x := (l2.getD u slot0).me.stamp) k6 hz7
    exact fpre k7 (by omega)
  · rename_i b0 y1 hy1 y2 hy2 y3 hy3 y4 hy4 y5 hy5 v hv h3 w1 hw1 u hu h4 bs z1 hz1 z2 hz2 z3 hz3 z4 hz4 z5 hz5 z6 hz6 z7 hz7 z8 hz8
    obtain ⟨u, x⟩ := u
    obtain ⟨e1, e2⟩ : u ≤ (l2.take n2).length ∧ Gr (fours (hdN h ((l.take n).map blkOf).length ++ ((l.take n).map blkOf).flatMap lst ++ [((l2.take n2).length : Int)] ++ ((l2.take n2).take u).flatMap slotN)) x.2.2.1 (24 + 8 * ((l.take n).map blkOf).length + 36 * u) x.2.2.2 := hu
    have h4n : u < n2 := Int.ofNat_lt.1 (of_decide_eq_true h4)
    have k1 := fr1 (x := (l2.getD u slot0).key) e2 hz1
    have k2 := fr1 (x := (l2.getD u slot0).pl.1) k1 hz2
    have k3 := fr1 (x := (l2.getD u slot0).pl.2) k2 hz3
    have k4 := fr1 (x := (l2.getD u slot0).me.kind) k3 hz4
    have k5 := fr1 (x := (l2.getD u slot0).me.key) k4 hz5
    have k6 := fr1 (x := (l2.getD u slot0).me.seq) k5 hz6
    have k7 := fr1 (x := (l2.getD u slot0).me.stamp) k6 hz7
    have k8 := fr1 (x := (l2.getD u slot0).me.batch) k7 hz8
    exact fpre k8 (by omega)
  · rename_i b0 y1 hy1 y2 hy2 y3 hy3 y4 hy4 y5 hy5 v hv h3 w1 hw1 u hu h4 bs z1 hz1 z2 hz2 z3 hz3 z4 hz4 z5 hz5 z6 hz6 z7 hz7 z8 hz8 z9 hz9
    obtain ⟨u, x⟩ := u
    obtain ⟨e1, e2⟩ : u ≤ (l2.take n2).length ∧ Gr (fours (hdN h ((l.take n).map blkOf).length ++ ((l.take n).map blkOf).flatMap lst ++ [((l2.take n2).length : Int)] ++ ((l2.take n2).take u).flatMap slotN)) x.2.2.1 (24 + 8 * ((l.take n).map blkOf).length + 36 * u) x.2.2.2 := hu
    have h4n : u < n2 := Int.ofNat_lt.1 (of_decide_eq_true h4)
    exact inR64 (by show _ ≤ (u : Int) + 1; omega) (by show (u : Int) + 1 ≤ _; omega)
  · rename_i b0 y1 hy1 y2 hy2 y3 hy3 y4 hy4 y5 hy5 v hv h3 w1 hw1 u hu h4 bs z1 hz1 z2 hz2 z3 hz3 z4 hz4 z5 hz5 z6 hz6 z7 hz7 z8 hz8 z9 hz9
    obtain ⟨u, x⟩ := u
    obtain ⟨e1, e2⟩ : u ≤ (l2.take n2).length ∧ Gr (fours (hdN h ((l.take n).map blkOf).length ++ ((l.take n).map blkOf).flatMap lst ++ [((l2.take n2).length : Int)] ++ ((l2.take n2).take u).flatMap slotN)) x.2.2.1 (24 + 8 * ((l.take n).map blkOf).length + 36 * u) x.2.2.2 := hu
    have h4n : u < n2 := Int.ofNat_lt.1 (of_decide_eq_true h4)
    have k1 := fr1 (x := (l2.getD u slot0).key) e2 hz1
    have k2 := fr1 (x := (l2.getD u slot0).pl.1) k1 hz2
    have k3 := fr1 (x := (l2.getD u slot0).pl.2) k2 hz3
    have k4 := fr1 (x := (l2.getD u slot0).me.kind) k3 hz4
    have k5 := fr1 (x := (l2.getD u slot0).me.key) k4 hz5
    have k6 := fr1 (x := (l2.getD u slot0).me.seq) k5 hz6
    have k7 := fr1 (x := (l2.getD u slot0).me.stamp) k6 hz7
    have k8 := fr1 (x := (l2.getD u slot0).me.batch) k7 hz8
    have k9 := fr1 (x := (l2.getD u slot0).me.floor) k8 hz9
    refine Stands.one (u + 1, z9) ⟨⟨by rw [tk_len hnl2]; omega, ?_⟩, ?_, ?_⟩
    · show Gr (fours (_ ++ ((l2.take n2).take (u + 1)).flatMap slotN)) _ (24 + 8 * ((l.take n).map blkOf).length + 36 * (u + 1)) _
      rw [take_snoc (d := slot0) (by rw [tk_len hnl2]; exact h4n), tk_at h4n, List.flatMap_append, List.flatMap_singleton, slot_lst, show 24 + 8 * ((l.take n).map blkOf).length + 36 * (u + 1) = 24 + 8 * ((l.take n).map blkOf).length + 36 * u + 4 + 4 + 4 + 4 + 4 + 4 + 4 + 4 + 4 by omega]
      simp only [← List.append_assoc]
      exact k9
    · show (l2.take n2).length - (u + 1) < (l2.take n2).length - u
      rw [tk_len hnl2]; omega
    ((conv => (arg 1; reduce)); with_reducible repeat' (first | exact Tr.yes_h | refine Tr.and_h ?_ ?_ | refine Tr.imp_h fun _ => ?_ | refine Tr.all_h fun _ => ?_ | refine Tr.lf_h ?_))
    all_goals (first | first | (show Region.lexB _ _ = true; kernel_rfl) | (show planned _ _ = true; kernel_rfl) | exact rfl | exact True.intro | ((try dsimp only [imp, C0, cG, cInt, cPl, cSlot, cPg, rwCodec, cRaw] at *); (try refine inR64 ?_ ?_) <;> (try simp only [List.length_set, List.length_append, List.length_take, List.length_drop]) <;> omega))
  · rename_i b0 y1 hy1 y2 hy2 y3 hy3 y4 hy4 y5 hy5 v hv h3 w1 hw1 u hu h4
    obtain ⟨u, x⟩ := u
    obtain ⟨e1, e2⟩ : u ≤ (l2.take n2).length ∧ Gr (fours (hdN h ((l.take n).map blkOf).length ++ ((l.take n).map blkOf).flatMap lst ++ [((l2.take n2).length : Int)] ++ ((l2.take n2).take u).flatMap slotN)) x.2.2.1 (24 + 8 * ((l.take n).map blkOf).length + 36 * u) x.2.2.2 := hu
    have h4n : ¬ u < n2 := fun hq => of_decide_eq_false h4 (Int.ofNat_lt.2 hq)
    have hu2 : u = (l2.take n2).length := by rw [tk_len hnl2] at e1 ⊢; omega
    rw [List.take_of_length_le (l := l2.take n2) (by omega)] at e2
    have hnn := tk_len hnl2
    have e3 : Gr (fours (nums h ((l.take n).map blkOf) (l2.take n2))) x.2.2.1 (24 + 8 * ((l.take n).map blkOf).length + 36 * u) x.2.2.2 := by unfold nums; exact e2
    exact ⟨by show 0 + (24 + 8 * ((l.take n).map blkOf).length + 36 * u) ≤ x.2.2.1.length; have := e3.2.2; omega, by show _ < (4611686018427387904 : Nat); omega, fun hq => Bool.noConfusion hq⟩
  · rename_i b0 y1 hy1 y2 hy2 y3 hy3 y4 hy4 y5 hy5 v hv h3 w1 hw1 u hu h4
    obtain ⟨u, x⟩ := u
    obtain ⟨e1, e2⟩ : u ≤ (l2.take n2).length ∧ Gr (fours (hdN h ((l.take n).map blkOf).length ++ ((l.take n).map blkOf).flatMap lst ++ [((l2.take n2).length : Int)] ++ ((l2.take n2).take u).flatMap slotN)) x.2.2.1 (24 + 8 * ((l.take n).map blkOf).length + 36 * u) x.2.2.2 := hu
    have h4n : ¬ u < n2 := fun hq => of_decide_eq_false h4 (Int.ofNat_lt.2 hq)
    have hu2 : u = (l2.take n2).length := by rw [tk_len hnl2] at e1 ⊢; omega
    rw [List.take_of_length_le (l := l2.take n2) (by omega)] at e2
    have hnn := tk_len hnl2
    have e3 : Gr (fours (nums h ((l.take n).map blkOf) (l2.take n2))) x.2.2.1 (24 + 8 * ((l.take n).map blkOf).length + 36 * u) x.2.2.2 := by unfold nums; exact e2
    exact fpre e3 (by omega)
  · rename_i b0 y1 hy1 y2 hy2 y3 hy3 y4 hy4 y5 hy5 v hv h3 w1 hw1 u hu h4 z hz
    obtain ⟨u, x⟩ := u
    obtain ⟨e1, e2⟩ : u ≤ (l2.take n2).length ∧ Gr (fours (hdN h ((l.take n).map blkOf).length ++ ((l.take n).map blkOf).flatMap lst ++ [((l2.take n2).length : Int)] ++ ((l2.take n2).take u).flatMap slotN)) x.2.2.1 (24 + 8 * ((l.take n).map blkOf).length + 36 * u) x.2.2.2 := hu
    have h4n : ¬ u < n2 := fun hq => of_decide_eq_false h4 (Int.ofNat_lt.2 hq)
    have hu2 : u = (l2.take n2).length := by rw [tk_len hnl2] at e1 ⊢; omega
    rw [List.take_of_length_le (l := l2.take n2) (by omega)] at e2
    have hnn := tk_len hnl2
    have e3 : Gr (fours (nums h ((l.take n).map blkOf) (l2.take n2))) x.2.2.1 (24 + 8 * ((l.take n).map blkOf).length + 36 * u) x.2.2.2 := by unfold nums; exact e2
    have hz : Gr (x.2.2.1.take (24 + 8 * ((l.take n).map blkOf).length + 36 * u) ++ four (crc (x.2.2.1.take (24 + 8 * ((l.take n).map blkOf).length + 36 * u)))) z.2.2.1 (24 + 8 * ((l.take n).map blkOf).length + 36 * u + 4) z.2.2.2 := hz
    rw [e3.2.1] at hz
    have hz : Gr (bytesP h ((l.take n).map blkOf) (l2.take n2)) z.2.2.1 (24 + 8 * ((l.take n).map blkOf).length + 36 * u + 4) z.2.2.2 := by unfold bytesP; exact hz
    have hlen := hz.1
    rw [hlen] at hz
    refine Ends.one z hz ?_
    ((conv => (arg 1; reduce)); with_reducible repeat' (first | exact Tr.yes_h | refine Tr.and_h ?_ ?_ | refine Tr.imp_h fun _ => ?_ | refine Tr.all_h fun _ => ?_ | refine Tr.lf_h ?_))
    all_goals (first | first | (show Region.lexB _ _ = true; kernel_rfl) | (show planned _ _ = true; kernel_rfl) | exact rfl | exact True.intro | ((try dsimp only [imp, C0, cG, cInt, cPl, cSlot, cPg, rwCodec, cRaw] at *); (try refine inR64 ?_ ?_) <;> (try simp only [List.length_set, List.length_append, List.length_take, List.length_drop]) <;> omega))
def fcPb : Fc Tryd.prog C0 where
  tg := .fn 15
  X := Hd × Sq (Rw Int) × Sq Slot
  args := fun (h, (o, b, q, l, n, c), (o2, b2, q2, l2, n2, c2)) => [ptv h (.sl 0 0 n c) (.sl 1 0 n2 c2)]
  mem := fun (h, (o, b, q, l, n, c), (o2, b2, q2, l2, n2, c2)) => [⟨b, q, 1, false, some o, .rows 71 l⟩, ⟨b2, q2, 9, false, some o2, .rows 74 l2⟩]
  pre := fun (h, (o, b, q, l, n, c), (o2, b2, q2, l2, n2, c2)) => Sq.ok (o, b, q, l, n, c) ∧ Sq.ok (o2, b2, q2, l2, n2, c2) ∧ (∀ r ∈ l.take n, Rok r ∧ r.l.length = 2) ∧ n ≤ 1000000 ∧ n2 ≤ 1000000
  alts := fun (h, (o, b, q, l, n, c), (o2, b2, q2, l2, n2, c2)) => [⟨Fx, fun y => Gr (bytesP h ((l.take n).map blkOf) (l2.take n2)) y.2.2.1 (bytesP h ((l.take n).map blkOf) (l2.take n2)).length y.2.2.2, fun y => .sl 2 0 (bytesP h ((l.take n).map blkOf) (l2.take n2)).length y.2.2.2,
      fun y => [⟨b, q, 1, false, some o, .rows 71 l⟩, ⟨b2, q2, 9, false, some o2, .rows 74 l2⟩, ⟨y.1, y.2.1, 1, true, none, .rows 5 y.2.2.1⟩]⟩]
  mat vs m := match vs with
    | [.agg [.int _ h1, .int _ h2, .int _ h3, .int _ h4, .sl a 0 n c, .sl a' 0 n' c']] => match nth m a, nth m a' with
      | ⟨b, q, _, _, g, .rows 71 l⟩, ⟨b', q', _, _, g', .rows 74 l'⟩ => some (((h1, h2, h3, h4), (onOf g, b, q, l, n, c), (onOf g', b', q', l', n', c')), [a, a'])
      | _, _ => none
    | _ => none
  ok := fun (h, (o, b, q, l, n, c), (o2, b2, q2, l2, n2, c2)) x => pbytes_ok h o b q l n c o2 b2 q2 l2 n2 c2 x.1 x.2.1 x.2.2.1 x.2.2.2.1 x.2.2.2.2
end Go.Vx
set_option linter.unusedSectionVars false
set_option maxRecDepth 100000
set_option linter.unusedVariables false
set_option linter.unusedSimpArgs false
namespace Go.Vx
open Go Go.Proofs
variable [Gl]

/-- A piece ahead of its zeros. -/
@[irreducible] def prep (B : List Int) (s : Nat) (n : Int) (k : Nat) : List Int := fours [n, (k : Int), (B.length : Int)] ++ (B.drop (k * (s - 12))).take (s - 12)
theorem prep_len (B : List Int) (s : Nat) (n : Int) (k : Nat) : (prep B s n k).length = 12 + min (s - 12) (B.length - k * (s - 12)) := by
  unfold prep
  rw [List.length_append, fours_len, List.length_take, List.length_drop]; simp
theorem prep_piece (B : List Int) {s : Nat} (hs : 12 ≤ s) (n : Int) (k : Nat) : prep B s n k ++ List.replicate (s - (prep B s n k).length) 0 = piece B s n k := by
  rw [prep_len]
  unfold prep piece
  rw [List.append_assoc, List.length_take, List.length_drop]
  congr 3
  omega
theorem pcN_int {n : Nat} {s : Int} (hs : 16 ≤ s) : max 1 (((n : Int) + (s - 12) - 1).tdiv (s - 12)) = (pcN n s.toNat : Nat) := by
  have e : s - 12 = ((s.toNat - 12 : Nat) : Int) := by omega
  rw [e, Int.tdiv_eq_ediv_of_nonneg (by omega)]
  have : (n : Int) + ((s.toNat - 12 : Nat) : Int) - 1 = ((n + (s.toNat - 12) - 1 : Nat) : Int) := by omega
  rw [this]
  unfold pcN
  omega
theorem pcN_gt {len s : Nat} (hs : 12 < s) : 64 < pcN len s ↔ 64 * (s - 12) < len := by
  rw [pcN_lt hs]; omega
theorem rp_q {n : Nat} {s : Int} (h1 : 16 ≤ s) (h2 : s ≤ 1024) (hn : n ≤ 1000000) : inR .i64 (((n : Int) + (s - 12) - 1).tdiv (s - 12)) := by
  rw [Int.tdiv_eq_ediv_of_nonneg (by omega)]
  have q1 : 0 ≤ ((n : Int) + (s - 12) - 1) / (s - 12) := Int.ediv_nonneg (by omega) (by omega)
  have q2 : ((n : Int) + (s - 12) - 1) / (s - 12) ≤ (n : Int) + (s - 12) - 1 := Int.ediv_le_self _ (by omega)
  exact inR64 (by omega) (by omega)
theorem rp_k {n k : Nat} {s : Int} (h1 : 16 ≤ s) (h : decide ((k : Int) < max 1 (((n : Int) + (s - 12) - 1).tdiv (s - 12))) = true) : k < pcN n s.toNat := by
  have h := of_decide_eq_true h
  rw [pcN_int h1] at h
  omega
theorem rp_64 {n k : Nat} {s : Int} (h1 : 16 ≤ s) (h : decide ((64 : Int) < max 1 (((n : Int) + (s - 12) - 1).tdiv (s - 12))) = false) (hk : k < pcN n s.toNat) : k < 64 := by
  have h := of_decide_eq_false h
  rw [pcN_int h1] at h
  omega
abbrev rpM (n k : Nat) (s : Int) : Nat := (min (n : Int) (((k : Int) + 1) * (s - 12))).toNat - ((k : Int) * (s - 12)).toNat
theorem rp_m {n k : Nat} {s : Int} (h1 : 16 ≤ s) (hk : k < pcN n s.toNat) : (k : Int) * (s - 12) = ((k * (s.toNat - 12) : Nat) : Int) ∧ ((k : Int) + 1) * (s - 12) = ((k * (s.toNat - 12) : Nat) : Int) + ((s.toNat - 12 : Nat) : Int) ∧ k * (s.toNat - 12) ≤ n ∧ rpM n k s = min (s.toNat - 12) (n - k * (s.toNat - 12)) := by
  have e : s - 12 = ((s.toNat - 12 : Nat) : Int) := by omega
  have z1 : (k : Int) * (s - 12) = ((k * (s.toNat - 12) : Nat) : Int) := by rw [e, Int.natCast_mul]
  have z2 : ((k : Int) + 1) * (s - 12) = ((k * (s.toNat - 12) : Nat) : Int) + ((s.toNat - 12 : Nat) : Int) := by rw [Int.add_mul, z1, Int.one_mul, e]
  have z3 : k * (s.toNat - 12) ≤ n := by
    rcases (pcN_lt (len := n) (s := s.toNat) (by omega)).1 hk with h | h
    · subst h; simp
    · omega
  refine ⟨z1, z2, z3, ?_⟩
  unfold rpM
  rw [z1, z2]; omega
theorem rp_gr {num : Int} {g l spA : List Int} {c n k cg cA : Nat} {s : Int} (hg : Gr (fours [num, (k : Int), (n : Int)]) g (0 + 4 + 4 + 4) cg) (z1 : (k : Int) * (s - 12) = ((k * (s.toNat - 12) : Nat) : Int)) (hm : rpM n k s = min (s.toNat - 12) (n - k * (s.toNat - 12))) (hn : n ≤ l.length) (hc : n ≤ c)
    (a1 : 0 + 4 + 4 + 4 + rpM n k s ≤ cA) (a2 : cA ≤ 0 + 4 + 4 + 4 + rpM n k s + spA.length) :
    Gr (prep (l.take n) s.toNat num k) (List.take (0 + 4 + 4 + 4) (List.drop 0 g) ++ List.take (rpM n k s) (List.drop (srow c ((k : Int) * (s - 12)).toNat 0) l) ++ spA) (0 + 4 + 4 + 4 + rpM n k s) cA := by
  have e2 : List.take (rpM n k s) (List.drop (srow c ((k : Int) * (s - 12)).toNat 0) l) = List.take (s.toNat - 12) (List.drop (k * (s.toNat - 12)) (List.take n l)) := by
    rw [List.drop_take, List.take_take, hm, z1]
    unfold srow
    split
    · rename_i h
      have h : c = k * (s.toNat - 12) := h
      have : min (s.toNat - 12) (n - k * (s.toNat - 12)) = 0 := by omega
      rw [this, List.take_zero, List.take_zero]
    · rfl
  have e3 : (List.take (s.toNat - 12) (List.drop (k * (s.toNat - 12)) (List.take n l))).length = rpM n k s := by
    rw [hm, List.length_take, List.length_drop, tk_len hn]
  rw [e2, List.drop_zero]
  have := hg.app (M := List.take (s.toNat - 12) (List.drop (k * (s.toNat - 12)) (List.take n l))) (sp := spA) (c' := cA) (by rw [e3]; exact a1) (by rw [e3]; exact a2)
  rw [e3] at this
  unfold prep
  rw [tk_len hn]
  exact this
def Rp11 (B : List Int) (s : Nat) (n : Int) : Inv' C0 := ⟨11, Gx (Rw Int), fun x => [(11, .int .i64 (x.1 : Int)), (10, .sl 1 0 x.1 x.2.2.2.2.2)], fun x m => match m with
  | a :: _ => [a, ⟨x.2.2.1, x.2.2.2.1, 1, true, some x.2.1, .rows 26 x.2.2.2.2.1⟩]
  | m => m, fun x => x.1 ≤ pcN B.length s ∧ Grw (x.2.2.2.2.1.take x.1) x.2.2.2.2.1 x.2.1 x.1 x.2.2.2.2.2 ∧ Prs B s n x.2.2.2.2.1 x.1, fun x => pcN B.length s - x.1⟩
def Rp15 (B : List Int) (s : Nat) (n : Int) : Inv' C0 := ⟨15, Nat × Nat × Nat × Nat × List Int × Nat, fun x => [(11, .int .i64 (x.1 : Int)), (12, .sl 2 0 x.2.1 x.2.2.2.2.2), (40, .junk), (42, .junk), (45, .junk), (46, .junk), (59, .junk)], fun x m => match m with
  | a :: o :: _ => [a, o, ⟨x.2.2.1, x.2.2.2.1, 1, true, none, .rows 5 x.2.2.2.2.1⟩]
  | m => m, fun x => Gr (prep B s n x.1 ++ List.replicate (x.2.1 - (prep B s n x.1).length) 0) x.2.2.2.2.1 x.2.1 x.2.2.2.2.2 ∧ (prep B s n x.1).length ≤ x.2.1 ∧ x.2.1 ≤ s, fun x => s - x.2.1⟩
set_option maxHeartbeats 8000000 in
theorem rpieces_ok (o : Bool) (b q : Nat) (l : List Int) (n c : Nat) (s num : Int) (h1 : Sq.ok (o, b, q, l, n, c)) (hn : n ≤ 1000000) :
    Does (C := C0) Tryd.prog (.fn 21) [⟨b, q, 1, false, some o, .rows 5 l⟩] [.sl 0 0 n c, .int .i64 s, .int .i64 num]
    [⟨Unit, fun _ => s < 16 ∨ 1024 < s, fun _ => .tup [.nils, .int .i64 116], fun _ => [⟨b, q, 1, false, some o, .rows 5 l⟩]⟩,
     ⟨Unit, fun _ => (16 ≤ s ∧ s ≤ 1024) ∧ cn num = false, fun _ => .tup [.nils, .int .i64 107], fun _ => [⟨b, q, 1, false, some o, .rows 5 l⟩]⟩,
     ⟨Unit, fun _ => (16 ≤ s ∧ s ≤ 1024) ∧ cn num = true ∧ 64 * (s.toNat - 12) < n, fun _ => .tup [.nils, .int .i64 106], fun _ => [⟨b, q, 1, false, some o, .rows 5 l⟩]⟩,
     ⟨Nat × Nat × List (Rw Int) × Nat, fun y => (16 ≤ s ∧ s ≤ 1024) ∧ cn num = true ∧ n ≤ 64 * (s.toNat - 12) ∧ Grw (y.2.2.1.take (pcN n s.toNat)) y.2.2.1 true (pcN n s.toNat) y.2.2.2 ∧ Prs (l.take n) s.toNat num y.2.2.1 (pcN n s.toNat), fun y => .tup [.sl 1 0 (pcN n s.toNat) y.2.2.2, .int .i64 0],
      fun y => [⟨b, q, 1, false, some o, .rows 5 l⟩, ⟨y.1, y.2.1, 1, true, none, .rows 26 y.2.2.1⟩]⟩] := by
  have hnl : n ≤ l.length := h1.2.1
  refine loc_fn (P := Tryd.prog) (E := ⟨[fcFour], [pcCount], 72, [], [], [wB]⟩) (L := [Rp11 (l.take n) s.toNat num, Rp15 (l.take n) s.toNat num]) mix Tryd.func21 rfl (by kernel_rfl) (by kernel_rfl) rfl rfl ?_
  ((conv => (arg 1; reduce)); with_reducible repeat' (first | exact Tr.yes_h | refine Tr.and_h ?_ ?_ | refine Tr.imp_h fun _ => ?_ | refine Tr.all_h fun _ => ?_ | refine Tr.lf_h ?_))
  all_goals try (first | first | (show Region.lexB _ _ = true; kernel_rfl) | (show planned _ _ = true; kernel_rfl) | exact rfl | exact True.intro | ((try dsimp only [imp, C0, cG, cInt, cPl, cSlot, cPg, rwCodec, cRaw] at *); (try refine inR64 ?_ ?_) <;> (try simp only [List.length_set, List.length_append, List.length_take, List.length_drop]) <;> omega))
  · rename_i hS
    refine Ends.one () (piS1 hS) ?_
    ((conv => (arg 1; reduce)); with_reducible repeat' (first | exact Tr.yes_h | refine Tr.and_h ?_ ?_ | refine Tr.imp_h fun _ => ?_ | refine Tr.all_h fun _ => ?_ | refine Tr.lf_h ?_))
    all_goals (first | first | (show Region.lexB _ _ = true; kernel_rfl) | (show planned _ _ = true; kernel_rfl) | exact rfl | exact True.intro | ((try dsimp only [imp, C0, cG, cInt, cPl, cSlot, cPg, rwCodec, cRaw] at *); (try refine inR64 ?_ ?_) <;> (try simp only [List.length_set, List.length_append, List.length_take, List.length_drop]) <;> omega))
  · rename_i hS hA
    refine Ends.next (Ends.one () ⟨piS0 hS, by simpa using hA⟩ ?_)
    ((conv => (arg 1; reduce)); with_reducible repeat' (first | exact Tr.yes_h | refine Tr.and_h ?_ ?_ | refine Tr.imp_h fun _ => ?_ | refine Tr.all_h fun _ => ?_ | refine Tr.lf_h ?_))
    all_goals (first | first | (show Region.lexB _ _ = true; kernel_rfl) | (show planned _ _ = true; kernel_rfl) | exact rfl | exact True.intro | ((try dsimp only [imp, C0, cG, cInt, cPl, cSlot, cPg, rwCodec, cRaw] at *); (try refine inR64 ?_ ?_) <;> (try simp only [List.length_set, List.length_append, List.length_take, List.length_drop]) <;> omega))
  · rename_i hS hA
    obtain ⟨s1, s2⟩ := piS0 hS
    exact inR64 (by omega) (by omega)
  · rename_i hS hA
    obtain ⟨s1, s2⟩ := piS0 hS
    exact inR64 (by omega) (by omega)
  · rename_i hS hA
    obtain ⟨s1, s2⟩ := piS0 hS
    exact inR64 (by omega) (by omega)
  · rename_i hS hA
    obtain ⟨s1, s2⟩ := piS0 hS
    omega
  · rename_i hS hA
    obtain ⟨s1, s2⟩ := piS0 hS
    exact rp_q s1 s2 hn
  · rename_i hS hA h64
    obtain ⟨s1, s2⟩ := piS0 hS
    have h64 := of_decide_eq_true h64
    rw [pcN_int s1] at h64
    refine Ends.next (Ends.next (Ends.one () ⟨⟨s1, s2⟩, by simpa using hA, (pcN_gt (by omega)).1 (by omega)⟩ ?_))
    ((conv => (arg 1; reduce)); with_reducible repeat' (first | exact Tr.yes_h | refine Tr.and_h ?_ ?_ | refine Tr.imp_h fun _ => ?_ | refine Tr.all_h fun _ => ?_ | refine Tr.lf_h ?_))
    all_goals (first | first | (show Region.lexB _ _ = true; kernel_rfl) | (show planned _ _ = true; kernel_rfl) | exact rfl | exact True.intro | ((try dsimp only [imp, C0, cG, cInt, cPl, cSlot, cPg, rwCodec, cRaw] at *); (try refine inR64 ?_ ?_) <;> (try simp only [List.length_set, List.length_append, List.length_take, List.length_drop]) <;> omega))
  · rename_i hS hA h64
    refine Stands.one (0, false, 0, 0, [], 0) ⟨⟨Nat.zero_le _, ⟨rfl, rfl, Nat.le_refl _, Nat.le_refl _, fun _ => ⟨rfl, rfl⟩⟩, rfl, by intro r hr; cases hr⟩, ?_⟩
    ((conv => (arg 1; reduce)); with_reducible repeat' (first | exact Tr.yes_h | refine Tr.and_h ?_ ?_ | refine Tr.imp_h fun _ => ?_ | refine Tr.all_h fun _ => ?_ | refine Tr.lf_h ?_))
    all_goals (first | first | (show Region.lexB _ _ = true; kernel_rfl) | (show planned _ _ = true; kernel_rfl) | exact rfl | exact True.intro | ((try dsimp only [imp, C0, cG, cInt, cPl, cSlot, cPg, rwCodec, cRaw] at *); (try refine inR64 ?_ ?_) <;> (try simp only [List.length_set, List.length_append, List.length_take, List.length_drop]) <;> omega))
  · rename_i hS hA h64 v hv hk
    exact ⟨Nat.le_refl 0, Nat.le_refl 0, by decide, fun _ => ⟨rfl, rfl⟩⟩
  · rename_i hS hA h64 v hv hk y1 k1
    exact ⟨k1.2.2.1, k1.2.2.2, by decide, fun h => Bool.noConfusion h⟩
  · rename_i hS hA h64 v hv hk y1 k1 y2 k2
    exact ⟨k2.2.2.1, k2.2.2.2, by decide, fun h => Bool.noConfusion h⟩
  · rename_i hS hA h64 v hv hk y1 k1 y2 k2 y3 k3
    obtain ⟨k, on, vb, vq, vl, vc⟩ := v
    obtain ⟨e1, e2, e3⟩ : k ≤ pcN (l.take n).length s.toNat ∧ Grw (vl.take k) vl on k vc ∧ Prs (l.take n) s.toNat num vl k := hv
    obtain ⟨s1, s2⟩ := piS0 hS
    have hk : k < pcN n s.toNat := rp_k s1 hk
    obtain ⟨z1, z2, z3, z4⟩ := rp_m s1 hk
    have k64 := rp_64 s1 h64 hk
    show inR .i64 ((k : Int) * (s - 12))
    exact inR64 (by omega) (by omega)
  · rename_i hS hA h64 v hv hk y1 k1 y2 k2 y3 k3
    obtain ⟨k, on, vb, vq, vl, vc⟩ := v
    obtain ⟨e1, e2, e3⟩ : k ≤ pcN (l.take n).length s.toNat ∧ Grw (vl.take k) vl on k vc ∧ Prs (l.take n) s.toNat num vl k := hv
    obtain ⟨s1, s2⟩ := piS0 hS
    have hk : k < pcN n s.toNat := rp_k s1 hk
    obtain ⟨z1, z2, z3, z4⟩ := rp_m s1 hk
    have k64 := rp_64 s1 h64 hk
    show inR .i64 ((k : Int) + 1)
    exact inR64 (by omega) (by omega)
  · rename_i hS hA h64 v hv hk y1 k1 y2 k2 y3 k3
    obtain ⟨k, on, vb, vq, vl, vc⟩ := v
    obtain ⟨e1, e2, e3⟩ : k ≤ pcN (l.take n).length s.toNat ∧ Grw (vl.take k) vl on k vc ∧ Prs (l.take n) s.toNat num vl k := hv
    obtain ⟨s1, s2⟩ := piS0 hS
    have hk : k < pcN n s.toNat := rp_k s1 hk
    obtain ⟨z1, z2, z3, z4⟩ := rp_m s1 hk
    have k64 := rp_64 s1 h64 hk
    show inR .i64 (((k : Int) + 1) * (s - 12))
    exact inR64 (by omega) (by omega)
  · rename_i hS hA h64 v hv hk y1 k1 y2 k2 y3 k3
    exact h1.2.2
  · rename_i hS hA h64 v hv hk y1 k1 y2 k2 y3 k3
    obtain ⟨k, on, vb, vq, vl, vc⟩ := v
    obtain ⟨e1, e2, e3⟩ : k ≤ pcN (l.take n).length s.toNat ∧ Grw (vl.take k) vl on k vc ∧ Prs (l.take n) s.toNat num vl k := hv
    obtain ⟨s1, s2⟩ := piS0 hS
    have hk : k < pcN n s.toNat := rp_k s1 hk
    obtain ⟨z1, z2, z3, z4⟩ := rp_m s1 hk
    show 0 ≤ min (n : Int) (((k : Int) + 1) * (s - 12))
    omega
  · rename_i hS hA h64 v hv hk y1 k1 y2 k2 y3 k3
    obtain ⟨k, on, vb, vq, vl, vc⟩ := v
    obtain ⟨e1, e2, e3⟩ : k ≤ pcN (l.take n).length s.toNat ∧ Grw (vl.take k) vl on k vc ∧ Prs (l.take n) s.toNat num vl k := hv
    obtain ⟨s1, s2⟩ := piS0 hS
    have hk : k < pcN n s.toNat := rp_k s1 hk
    obtain ⟨z1, z2, z3, z4⟩ := rp_m s1 hk
    have := h1.1
    show min (n : Int) (((k : Int) + 1) * (s - 12)) ≤ (c : Int)
    dsimp only at this; omega
  · rename_i hS hA h64 v hv hk y1 k1 y2 k2 y3 k3
    obtain ⟨k, on, vb, vq, vl, vc⟩ := v
    obtain ⟨e1, e2, e3⟩ : k ≤ pcN (l.take n).length s.toNat ∧ Grw (vl.take k) vl on k vc ∧ Prs (l.take n) s.toNat num vl k := hv
    obtain ⟨s1, s2⟩ := piS0 hS
    have hk : k < pcN n s.toNat := rp_k s1 hk
    obtain ⟨z1, z2, z3, z4⟩ := rp_m s1 hk
    show 0 ≤ (k : Int) * (s - 12)
    omega
  · rename_i hS hA h64 v hv hk y1 k1 y2 k2 y3 k3
    obtain ⟨k, on, vb, vq, vl, vc⟩ := v
    obtain ⟨e1, e2, e3⟩ : k ≤ pcN (l.take n).length s.toNat ∧ Grw (vl.take k) vl on k vc ∧ Prs (l.take n) s.toNat num vl k := hv
    obtain ⟨s1, s2⟩ := piS0 hS
    have hk : k < pcN n s.toNat := rp_k s1 hk
    obtain ⟨z1, z2, z3, z4⟩ := rp_m s1 hk
    show (k : Int) * (s - 12) ≤ min (n : Int) (((k : Int) + 1) * (s - 12))
    omega
  · rename_i hS hA h64 v hv hk y1 k1 y2 k2 y3 k3
    obtain ⟨k, on, vb, vq, vl, vc⟩ := v
    obtain ⟨e1, e2, e3⟩ : k ≤ pcN (l.take n).length s.toNat ∧ Grw (vl.take k) vl on k vc ∧ Prs (l.take n) s.toNat num vl k := hv
    obtain ⟨s1, s2⟩ := piS0 hS
    have hk : k < pcN n s.toNat := rp_k s1 hk
    obtain ⟨z1, z2, z3, z4⟩ := rp_m s1 hk
    have hc : n ≤ c := h1.1
    rw [by5]
    refine ⟨k3.2.2.1, by rw [Nat.zero_add]; exact k3.2.2.2, ?_, ?_⟩
    · show srow c ((k : Int) * (s - 12)).toNat 0 + rpM n k s ≤ l.length
      rw [z4]
      unfold srow
      split <;> omega
    · show (0 + 4 + 4 + 4 + rpM n k s) * 1 ≤ 140737488355328
      rw [z4]; omega
  · rename_i hS hA h64 v hv hk y1 k1 y2 k2 y3 k3
    obtain ⟨k, on, vb, vq, vl, vc⟩ := v
    obtain ⟨e1, e2, e3⟩ : k ≤ pcN (l.take n).length s.toNat ∧ Grw (vl.take k) vl on k vc ∧ Prs (l.take n) s.toNat num vl k := hv
    obtain ⟨s1, s2⟩ := piS0 hS
    have hk : k < pcN n s.toNat := rp_k s1 hk
    obtain ⟨z1, z2, z3, z4⟩ := rp_m s1 hk
    intro ho
    have := h1.2.2 ho
    show rpM n k s = 0 ∧ rpM n k s = 0
    dsimp only at this
    rw [z4]; omega
  · rename_i hS hA h64 v hv hk y1 k1 y2 k2 y3 k3 bA qA spA cA a1 a2
    obtain ⟨k, on, vb, vq, vl, vc⟩ := v
    obtain ⟨e1, e2, e3⟩ : k ≤ pcN (l.take n).length s.toNat ∧ Grw (vl.take k) vl on k vc ∧ Prs (l.take n) s.toNat num vl k := hv
    obtain ⟨s1, s2⟩ := piS0 hS
    have hk : k < pcN n s.toNat := rp_k s1 hk
    obtain ⟨z1, z2, z3, z4⟩ := rp_m s1 hk
    have hc : n ≤ c := h1.1
    have g1 : Gr (fours [num]) y1.2.2.1 (0 + 4) y1.2.2.2 := by rw [fours_one]; exact k1
    have g3 := fr1 (fr1 g1 k2) k3
    have g4 := rp_gr (c := c) (l := l) g3 z1 z4 hnl hc a1 a2
    refine Stands.one (k, 0 + 4 + 4 + 4 + rpM n k s, bA, qA, List.take (0 + 4 + 4 + 4) (List.drop 0 y3.2.2.1) ++ List.take (rpM n k s) (List.drop (srow c ((k : Int) * (s - 12)).toNat 0) l) ++ spA, cA) ⟨⟨?_, ?_, ?_⟩, ?_⟩
    · show Gr (_ ++ List.replicate (0 + 4 + 4 + 4 + rpM n k s - _) 0) _ _ _
      rw [prep_len, tk_len hnl, z4, show 0 + 4 + 4 + 4 + min (s.toNat - 12) (n - k * (s.toNat - 12)) - (12 + min (s.toNat - 12) (n - k * (s.toNat - 12))) = 0 by omega, List.replicate_zero, List.append_nil, ← z4]
      exact g4
    · show (prep (l.take n) s.toNat num k).length ≤ 0 + 4 + 4 + 4 + rpM n k s
      rw [prep_len, tk_len hnl, z4]; omega
    · show 0 + 4 + 4 + 4 + rpM n k s ≤ s.toNat
      rw [z4]; omega
    ((conv => (arg 1; reduce)); with_reducible repeat' (first | exact Tr.yes_h | refine Tr.and_h ?_ ?_ | refine Tr.imp_h fun _ => ?_ | refine Tr.all_h fun _ => ?_ | refine Tr.lf_h ?_))
    all_goals (first | first | (show Region.lexB _ _ = true; kernel_rfl) | (show planned _ _ = true; kernel_rfl) | exact rfl | exact True.intro | ((try dsimp only [imp, C0, cG, cInt, cPl, cSlot, cPg, rwCodec, cRaw] at *); (try refine inR64 ?_ ?_) <;> (try simp only [List.length_set, List.length_append, List.length_take, List.length_drop]) <;> omega))
  · rename_i hS hA h64 v hv hk y1 k1 y2 k2 y3 k3 bA qA spA cA a1 a2 w hw hl hd bz
    obtain ⟨s1, s2⟩ := piS0 hS
    obtain ⟨j, len, wb, wq, wl, wc⟩ := w
    obtain ⟨f1, f2, f3⟩ : Gr (prep (l.take n) s.toNat num j ++ List.replicate (len - (prep (l.take n) s.toNat num j).length) 0) wl len wc ∧ (prep (l.take n) s.toNat num j).length ≤ len ∧ len ≤ s.toNat := hw
    rw [by5]
    exact ⟨f1.2.2.1, by show 0 + wc ≤ wl.length; have := f1.2.2.2; omega, Nat.le_refl 1, by show (len + 1) * 1 ≤ _; omega⟩
  · rename_i hS hA h64 v hv hk y1 k1 y2 k2 y3 k3 bA qA spA cA a1 a2 w hw hl hd bz b9 q9 sp9 c9 m1 m2
    obtain ⟨s1, s2⟩ := piS0 hS
    obtain ⟨j, len, wb, wq, wl, wc⟩ := w
    obtain ⟨f1, f2, f3⟩ : Gr (prep (l.take n) s.toNat num j ++ List.replicate (len - (prep (l.take n) s.toNat num j).length) 0) wl len wc ∧ (prep (l.take n) s.toNat num j).length ≤ len ∧ len ≤ s.toNat := hw
    have hd : (len : Int) < s := of_decide_eq_true hd
    have g := f1.app (M := [(0 : Int)]) (sp := sp9) (c' := c9) m1 m2
    refine Stands.one (j, len + 1, b9, q9, wl.take len ++ [(0 : Int)] ++ sp9, c9) ⟨⟨?_, Nat.le_succ_of_le f2, ?_⟩, ?_, ?_⟩
    · show Gr (prep (l.take n) s.toNat num j ++ List.replicate (len + 1 - (prep (l.take n) s.toNat num j).length) 0) _ _ _
      rw [show len + 1 - (prep (l.take n) s.toNat num j).length = (len - (prep (l.take n) s.toNat num j).length) + 1 by omega, List.replicate_succ', ← List.append_assoc]
      exact g
    · show len + 1 ≤ s.toNat
      omega
    · show s.toNat - (len + 1) < s.toNat - len
      omega
    ((conv => (arg 1; reduce)); with_reducible repeat' (first | exact Tr.yes_h | refine Tr.and_h ?_ ?_ | refine Tr.imp_h fun _ => ?_ | refine Tr.all_h fun _ => ?_ | refine Tr.lf_h ?_))
    all_goals (first | first | (show Region.lexB _ _ = true; kernel_rfl) | (show planned _ _ = true; kernel_rfl) | exact rfl | exact True.intro | ((try dsimp only [imp, C0, cG, cInt, cPl, cSlot, cPg, rwCodec, cRaw] at *); (try refine inR64 ?_ ?_) <;> (try simp only [List.length_set, List.length_append, List.length_take, List.length_drop]) <;> omega))
  · rename_i hS hA h64 v hv hk y1 k1 y2 k2 y3 k3 bA qA spA cA a1 a2 w hw hl hd
    obtain ⟨j, len, wb, wq, wl, wc⟩ := w
    obtain ⟨f1, f2, f3⟩ : Gr (prep (l.take n) s.toNat num j ++ List.replicate (len - (prep (l.take n) s.toNat num j).length) 0) wl len wc ∧ (prep (l.take n) s.toNat num j).length ≤ len ∧ len ≤ s.toNat := hw
    have := f1.2.2
    show 0 + len ≤ wl.length
    omega
  · rename_i hS hA h64 v hv hk y1 k1 y2 k2 y3 k3 bA qA spA cA a1 a2 w hw hl hd bB
    obtain ⟨k, on, vb, vq, vl, vc⟩ := v
    obtain ⟨e1, e2, e3⟩ : k ≤ pcN (l.take n).length s.toNat ∧ Grw (vl.take k) vl on k vc ∧ Prs (l.take n) s.toNat num vl k := hv
    obtain ⟨s1, s2⟩ := piS0 hS
    have hk : k < pcN n s.toNat := rp_k s1 hk
    obtain ⟨z1, z2, z3, z4⟩ := rp_m s1 hk
    obtain ⟨r1, r2, r3, r4, r5⟩ := e2
    have k64 := rp_64 s1 h64 hk
    rw [by26]
    exact ⟨r3, by show 0 + vc ≤ vl.length; omega, Nat.le_refl 1, by show (k + 1) * 24 ≤ _; omega⟩
  · rename_i hS hA h64 v hv hk y1 k1 y2 k2 y3 k3 bA qA spA cA a1 a2 w hw hl hd bB
    obtain ⟨k, on, vb, vq, vl, vc⟩ := v
    obtain ⟨e1, e2, e3⟩ : k ≤ pcN (l.take n).length s.toNat ∧ Grw (vl.take k) vl on k vc ∧ Prs (l.take n) s.toNat num vl k := hv
    obtain ⟨s1, s2⟩ := piS0 hS
    have hk : k < pcN n s.toNat := rp_k s1 hk
    obtain ⟨z1, z2, z3, z4⟩ := rp_m s1 hk
    exact e2.2.2.2.2
  · rename_i hS hA h64 v hv hk y1 k1 y2 k2 y3 k3 bA qA spA cA a1 a2 w hw hl hd bB b9 q9 sp9 c9 m1 m2
    obtain ⟨k, on, vb, vq, vl, vc⟩ := v
    obtain ⟨e1, e2, e3⟩ : k ≤ pcN (l.take n).length s.toNat ∧ Grw (vl.take k) vl on k vc ∧ Prs (l.take n) s.toNat num vl k := hv
    obtain ⟨s1, s2⟩ := piS0 hS
    have hk : k < pcN n s.toNat := rp_k s1 hk
    obtain ⟨z1, z2, z3, z4⟩ := rp_m s1 hk
    obtain ⟨j, len, wb, wq, wl, wc⟩ := w
    obtain ⟨f1, f2, f3⟩ : Gr (prep (l.take n) s.toNat num j ++ List.replicate (len - (prep (l.take n) s.toNat num j).length) 0) wl len wc ∧ (prep (l.take n) s.toNat num j).length ≤ len ∧ len ≤ s.toNat := hw
    have k64 := rp_64 s1 h64 hk
    have hl : (k : Int) = (j : Int) := hl
    exact inR64 (by show _ ≤ (j : Int) + 1; omega) (by show (j : Int) + 1 ≤ _; omega)
  · rename_i hS hA h64 v hv hk y1 k1 y2 k2 y3 k3 bA qA spA cA a1 a2 w hw hl hd bB b9 q9 sp9 c9 m1 m2
    obtain ⟨k, on, vb, vq, vl, vc⟩ := v
    obtain ⟨e1, e2, e3⟩ : k ≤ pcN (l.take n).length s.toNat ∧ Grw (vl.take k) vl on k vc ∧ Prs (l.take n) s.toNat num vl k := hv
    obtain ⟨s1, s2⟩ := piS0 hS
    have hk : k < pcN n s.toNat := rp_k s1 hk
    obtain ⟨z1, z2, z3, z4⟩ := rp_m s1 hk
    obtain ⟨j, len, wb, wq, wl, wc⟩ := w
    obtain ⟨f1, f2, f3⟩ : Gr (prep (l.take n) s.toNat num j ++ List.replicate (len - (prep (l.take n) s.toNat num j).length) 0) wl len wc ∧ (prep (l.take n) s.toNat num j).length ≤ len ∧ len ≤ s.toNat := hw
    have hl : (k : Int) = (j : Int) := hl
    obtain rfl : k = j := by omega
    have hd : ¬ (len : Int) < s := of_decide_eq_false hd
    obtain rfl : len = s.toNat := by omega
    have hrow : List.take s.toNat (List.drop 0 wl) = piece (l.take n) s.toNat num k := by
      rw [List.drop_zero, f1.2.1]
      exact prep_piece _ (by omega) _ _
    have e5 := e2.app (x := (⟨true, wb, wq + 0 * 1, wc, List.take s.toNat (List.drop 0 wl)⟩ : Rw Int)) (sp := sp9) m1 m2
    have e6 := e5.2.1
    refine Stands.one (k + 1, true, b9, q9, vl.take k ++ [⟨true, wb, wq + 0 * 1, wc, List.take s.toNat (List.drop 0 wl)⟩] ++ sp9, c9) ⟨⟨by rw [tk_len hnl]; exact hk, ?_, ?_, ?_⟩, ?_, ?_⟩
    · show Grw (List.take (k + 1) _) _ _ _ _
      rw [e6]
      exact e5
    · show (List.take (k + 1) _).map _ = _
      rw [e6, List.range_succ, List.map_append, List.map_append, e3.1]
      show _ ++ [_] = _ ++ [_]
      rw [hrow]
    · show ∀ r ∈ List.take (k + 1) _, Rok r
      rw [e6]
      intro r hr
      rcases List.mem_append.1 hr with hr | hr
      · exact e3.2 r hr
      · rw [List.mem_singleton.1 hr, hrow]
        have hl := piece_len (B := l.take n) (s := s.toNat) (n := num) (k := k) (by omega)
        exact ⟨fun h => Bool.noConfusion h, by show _ ≤ wc; rw [hl]; exact f1.2.2.1, by rw [hl]; omega⟩
    · show pcN (l.take n).length s.toNat - (k + 1) < pcN (l.take n).length s.toNat - k
      rw [tk_len hnl]; omega
    ((conv => (arg 1; reduce)); with_reducible repeat' (first | exact Tr.yes_h | refine Tr.and_h ?_ ?_ | refine Tr.imp_h fun _ => ?_ | refine Tr.all_h fun _ => ?_ | refine Tr.lf_h ?_))
    all_goals (first | first | (show Region.lexB _ _ = true; kernel_rfl) | (show planned _ _ = true; kernel_rfl) | exact rfl | exact True.intro | ((try dsimp only [imp, C0, cG, cInt, cPl, cSlot, cPg, rwCodec, cRaw] at *); (try refine inR64 ?_ ?_) <;> (try simp only [List.length_set, List.length_append, List.length_take, List.length_drop]) <;> omega))
  · rename_i hS hA h64 v hv hk
    obtain ⟨k, on, vb, vq, vl, vc⟩ := v
    obtain ⟨e1, e2, e3⟩ : k ≤ pcN (l.take n).length s.toNat ∧ Grw (vl.take k) vl on k vc ∧ Prs (l.take n) s.toNat num vl k := hv
    obtain ⟨s1, s2⟩ := piS0 hS
    rw [tk_len hnl] at e1
    have hk := of_decide_eq_false hk
    rw [pcN_int s1] at hk
    have hk : ¬ (k : Int) < (pcN n s.toNat : Nat) := hk
    obtain rfl : k = pcN n s.toNat := by omega
    have hp := pcN_pos n s.toNat
    obtain rfl : on = true := on_of e2.2.2.2.2 hp
    have h64 := of_decide_eq_false h64
    rw [pcN_int s1] at h64
    have hno : ¬ 64 * (s.toNat - 12) < n := fun h => h64 (by have := (pcN_gt (len := n) (s := s.toNat) (by omega)).2 h; omega)
    refine Ends.next (Ends.next (Ends.next (Ends.one (vb, vq, vl, vc) ⟨⟨s1, s2⟩, by simpa using hA, by omega, e2, e3⟩ ?_)))
    ((conv => (arg 1; reduce)); with_reducible repeat' (first | exact Tr.yes_h | refine Tr.and_h ?_ ?_ | refine Tr.imp_h fun _ => ?_ | refine Tr.all_h fun _ => ?_ | refine Tr.lf_h ?_))
    all_goals (first | first | (show Region.lexB _ _ = true; kernel_rfl) | (show planned _ _ = true; kernel_rfl) | exact rfl | exact True.intro | ((try dsimp only [imp, C0, cG, cInt, cPl, cSlot, cPg, rwCodec, cRaw] at *); (try refine inR64 ?_ ?_) <;> (try simp only [List.length_set, List.length_append, List.length_take, List.length_drop]) <;> omega))
def fcRpieces : Fc Tryd.prog C0 where
  tg := .fn 21
  X := Sq Int × Int × Int
  args := fun ((o, b, q, l, n, c), s, num) => [.sl 0 0 n c, .int .i64 s, .int .i64 num]
  mem := fun ((o, b, q, l, n, c), s, num) => [⟨b, q, 1, false, some o, .rows 5 l⟩]
  pre := fun ((o, b, q, l, n, c), s, num) => Sq.ok (o, b, q, l, n, c) ∧ n ≤ 1000000
  alts := fun ((o, b, q, l, n, c), s, num) => [⟨Unit, fun _ => s < 16 ∨ 1024 < s, fun _ => .tup [.nils, .int .i64 116], fun _ => [⟨b, q, 1, false, some o, .rows 5 l⟩]⟩,
     ⟨Unit, fun _ => (16 ≤ s ∧ s ≤ 1024) ∧ cn num = false, fun _ => .tup [.nils, .int .i64 107], fun _ => [⟨b, q, 1, false, some o, .rows 5 l⟩]⟩,
     ⟨Unit, fun _ => (16 ≤ s ∧ s ≤ 1024) ∧ cn num = true ∧ 64 * (s.toNat - 12) < n, fun _ => .tup [.nils, .int .i64 106], fun _ => [⟨b, q, 1, false, some o, .rows 5 l⟩]⟩,
     ⟨Nat × Nat × List (Rw Int) × Nat, fun y => (16 ≤ s ∧ s ≤ 1024) ∧ cn num = true ∧ n ≤ 64 * (s.toNat - 12) ∧ Grw (y.2.2.1.take (pcN n s.toNat)) y.2.2.1 true (pcN n s.toNat) y.2.2.2 ∧ Prs (l.take n) s.toNat num y.2.2.1 (pcN n s.toNat), fun y => .tup [.sl 1 0 (pcN n s.toNat) y.2.2.2, .int .i64 0],
      fun y => [⟨b, q, 1, false, some o, .rows 5 l⟩, ⟨y.1, y.2.1, 1, true, none, .rows 26 y.2.2.1⟩]⟩]
  mat vs m := match vs with
    | [.sl a 0 n c, .int _ s, .int _ num] => match nth m a with
      | ⟨b, q, _, _, g, .rows 5 l⟩ => some (((onOf g, b, q, l, n, c), s, num), [a])
      | _ => none
    | _ => none
  ok := fun ((o, b, q, l, n, c), s, num) h => rpieces_ok o b q l n c s num h.1 h.2
end Go.Vx
set_option linter.unusedSectionVars false
set_option maxRecDepth 100000
set_option linter.unusedVariables false
set_option linter.unusedSimpArgs false
namespace Go.Vx
open Go Go.Proofs
variable [Gl]

def Rj4 (L : List (List Int)) : Inv' C0 := ⟨4, Nat, fun k => [(5, .int .i64 (k : Int)), (23, .junk), (27, .junk), (34, .junk), (42, .junk)], fun x m => match m with
  | a :: _ => [a]
  | m => m, fun k => k ≤ L.length ∧ ∀ j, j < k → (L.getD j []).length = (L.getD 0 []).length ∧ 16 ≤ (L.getD j []).length ∧ (L.getD j []).length ≤ 1024, fun k => L.length - k⟩
def Rj15 (L : List (List Int)) : Inv' C0 := ⟨15, Gx Int, fun x => [(10, .int .i64 (x.1 : Int)), (9, .sl 1 0 (x.1 * ((L.getD 0 []).length - 12)) x.2.2.2.2.2), (46, .junk), (48, .junk), (52, .junk), (56, .junk), (88, .junk), (96, .junk), (105, .junk), (114, .junk), (115, .junk)], fun x m => match m with
  | a :: _ => [a, ⟨x.2.2.1, x.2.2.2.1, 1, true, some x.2.1, .rows 5 x.2.2.2.2.1⟩]
  | m => m, fun x => x.1 ≤ L.length ∧ Grw (jout (L.take x.1)) x.2.2.2.2.1 x.2.1 (x.1 * ((L.getD 0 []).length - 12)) x.2.2.2.2.2 ∧
    (∀ j, j < x.1 → nm (L.getD j []) 0 = nm (L.getD 0 []) 0 ∧ nm (L.getD j []) 4 = (j : Nat) ∧ nm (L.getD j []) 8 = nm (L.getD 0 []) 8), fun x => L.length - x.1⟩
theorem rj_jg {l : List (Rw Int)} {i n v : Nat} (h1 : i + n ≤ l.length) (n0 : 0 < n) (hv : (Rj4 (rowL l i n)).inv v) (d1 : decide ((v : Int) < (n : Int)) = false) : Jg (rowL l i n) := by
  have d1 := of_decide_eq_false d1
  obtain ⟨e1, e2⟩ : v ≤ (rowL l i n).length ∧ ∀ j, j < v → ((rowL l i n).getD j []).length = ((rowL l i n).getD 0 []).length ∧ 16 ≤ ((rowL l i n).getD j []).length ∧ ((rowL l i n).getD j []).length ≤ 1024 := hv
  rw [rowL_len h1] at e1
  obtain rfl : v = n := by omega
  exact ⟨by rw [rowL_len h1]; exact n0, (e2 0 n0).2.1, (e2 0 n0).2.2, fun j hj => (e2 j (by rw [rowL_len h1] at hj; exact hj)).1⟩
theorem rj_d {L : List (List Int)} {n : Nat} (U : 0 ≤ nm (L.getD 0 []) 8) (hn : L.length = n) (hg : Jg L) :
    ((!cn (nm (L.getD 0 []) 0) || decide (max 1 ((nm (L.getD 0 []) 8 + (((L.getD 0 []).length : Int) - 12) - 1).tdiv (((L.getD 0 []).length : Int) - 12)) ≠ (n : Int)) || decide ((64 : Int) < (n : Int))) = true → ∀ x s, ¬ JOk L x s) ∧
    ((!cn (nm (L.getD 0 []) 0) || decide (max 1 ((nm (L.getD 0 []) 8 + (((L.getD 0 []).length : Int) - 12) - 1).tdiv (((L.getD 0 []).length : Int) - 12)) ≠ (n : Int)) || decide ((64 : Int) < (n : Int))) = false →
      (∀ j, j < n → nm (L.getD j []) 0 = nm (L.getD 0 []) 0 ∧ nm (L.getD j []) 4 = (j : Nat) ∧ nm (L.getD j []) 8 = nm (L.getD 0 []) 8) → JOk L (nm (L.getD 0 []) 0) (nm (L.getD 0 []) 8)) := by
  subst hn
  have h16 := hg.2.1
  have ep : (((L.getD 0 []).length : Int) - 12) = (((L.getD 0 []).length - 12 : Nat) : Int) := by omega
  rw [ep, Int.tdiv_eq_ediv_of_nonneg (by omega)]
  constructor
  · intro h x s hJ
    obtain ⟨_, k1, k2, k3, k4, k5⟩ := hJ
    obtain ⟨rfl, _, rfl⟩ := k1 0 hg.1
    simp only [Bool.or_eq_true, decide_eq_true_eq, Bool.not_eq_true'] at h
    rcases h with (h | h) | h
    · rw [k2] at h; cases h
    · exact h k5.symm
    · omega
  · intro h he
    simp only [Bool.or_eq_false_iff, decide_eq_false_iff_not, Bool.not_eq_false', Int.not_lt, Decidable.not_not] at h
    refine ⟨jg_iff.1 hg, he, h.1.1, by omega, ?_, h.1.2.symm⟩
    obtain ⟨z, hz⟩ := Int.eq_ofNat_of_zero_le U
    have h2 := h.1.2
    rw [hz] at h2 ⊢
    have e : (z : Int) + (((L.getD 0 []).length - 12 : Nat) : Int) - 1 = ((z + ((L.getD 0 []).length - 12) - 1 : Nat) : Int) := by omega
    rw [e] at h2
    have h3 : (z + ((L.getD 0 []).length - 12) - 1) / ((L.getD 0 []).length - 12) ≤ L.length := by omega
    have h4 := (Nat.div_lt_iff_lt_mul (show 0 < (L.getD 0 []).length - 12 by omega)).1 (Nat.lt_succ_of_le h3)
    rw [Nat.succ_mul] at h4
    omega
set_option maxHeartbeats 8000000 in
theorem rjoin_ok (o : Bool) (b q : Nat) (l : List (Rw Int)) (i n c : Nat) (h1 : i + n ≤ l.length) (ho : o = false → n = 0 ∧ c = 0) (hr : ∀ r ∈ (l.drop i).take n, Rok r ∧ Bys r.l) (hn : n ≤ 1000000) :
    Does (C := C0) Tryd.prog (.fn 25) [⟨b, q, 1, false, some o, .rows 26 l⟩] [.sl 0 i n c]
    [⟨Unit, fun _ => jbad (rowL l i n), fun _ => .tup [.int .i64 0, .nils, .int .i64 116], fun _ => [⟨b, q, 1, false, some o, .rows 26 l⟩]⟩,
     ⟨Unit, fun _ => ¬ jbad (rowL l i n) ∧ ∀ x s, ¬ JOk (rowL l i n) x s, fun _ => .tup [.int .i64 0, .nils, .int .i64 107], fun _ => [⟨b, q, 1, false, some o, .rows 26 l⟩]⟩,
     ⟨(Int × Nat) × Nat × Nat × List Int × Nat, fun y => JOk (rowL l i n) y.1.1 y.1.2 ∧ y.1.2 ≤ y.2.2.2.2 ∧ y.1.2 ≤ y.2.2.2.1.length ∧ y.2.2.2.1.take y.1.2 = (jout (rowL l i n)).take y.1.2, fun y => .tup [.int .i64 y.1.1, .sl 1 0 y.1.2 y.2.2.2.2, .int .i64 0],
      fun y => [⟨b, q, 1, false, some o, .rows 26 l⟩, ⟨y.2.1, y.2.2.1, 1, true, none, .rows 5 y.2.2.2.1⟩]⟩] := by
  refine loc_fn (P := Tryd.prog) (E := ⟨[], [pcNum, pcCount], 121, [], [fB], []⟩) (L := [Rj4 (rowL l i n), Rj15 (rowL l i n)]) mix Tryd.func25 rfl (by kernel_rfl) (by kernel_rfl) rfl rfl ?_
  ((conv => (arg 1; reduce)); with_reducible repeat' (first | exact Tr.yes_h | refine Tr.and_h ?_ ?_ | refine Tr.imp_h fun _ => ?_ | refine Tr.all_h fun _ => ?_ | refine Tr.lf_h ?_))
  all_goals try (first | first | (show Region.lexB _ _ = true; kernel_rfl) | (show planned _ _ = true; kernel_rfl) | exact rfl | exact True.intro | ((try dsimp only [imp, C0, cG, cInt, cPl, cSlot, cPg, rwCodec, cRaw] at *); (try refine inR64 ?_ ?_) <;> (try simp only [List.length_set, List.length_append, List.length_take, List.length_drop]) <;> omega))
  all_goals try (first | (first | first | (show Region.lexB _ _ = true; kernel_rfl) | (show planned _ _ = true; kernel_rfl) | exact rfl | exact True.intro | ((try dsimp only [imp, C0, cG, cInt, cPl, cSlot, cPg, rwCodec, cRaw] at *); (try refine inR64 ?_ ?_) <;> (try simp only [List.length_set, List.length_append, List.length_take, List.length_drop]) <;> omega)) | ((try dsimp only [imp, C0, cG, cInt, cPl, cSlot, cPg, rwCodec, cRaw, Rj4, Rj15] at *); (try simp only [decide_eq_true_eq, decide_eq_false_iff_not, Bool.and_eq_true, Bool.or_eq_true, Bool.or_eq_false_iff, Bool.and_eq_false_iff, Bool.not_eq_true', Bool.not_eq_false', SB.val, List.length_append, List.length_cons, List.length_nil, List.length_take, List.length_drop] at *); (first | omega | exact inR64 (by omega) (by omega) | (refine inR64 ?_ ?_ <;> omega))) | (refine on_of ho ?_; ((try dsimp only [imp, C0, cG, cInt, cPl, cSlot, cPg, rwCodec, cRaw, Rj4, Rj15] at *); (try simp only [decide_eq_true_eq, decide_eq_false_iff_not, Bool.and_eq_true, Bool.or_eq_true, Bool.or_eq_false_iff, Bool.and_eq_false_iff, Bool.not_eq_true', Bool.not_eq_false', SB.val, List.length_append, List.length_cons, List.length_nil, List.length_take, List.length_drop] at *); (first | omega | exact inR64 (by omega) (by omega) | (refine inR64 ?_ ?_ <;> omega)))))
  · rename_i d0
    try dsimp only [fB, C0, cG, cInt, cPl, cSlot, cPg, rwCodec, Rj4, Rj15] at d0
    refine Ends.one () (.inl (by rw [rowL_len h1]; have := of_decide_eq_true d0; omega)) ?_
    ((conv => (arg 1; reduce)); with_reducible repeat' (first | exact Tr.yes_h | refine Tr.and_h ?_ ?_ | refine Tr.imp_h fun _ => ?_ | refine Tr.all_h fun _ => ?_ | refine Tr.lf_h ?_))
    all_goals (first | first | (show Region.lexB _ _ = true; kernel_rfl) | (show planned _ _ = true; kernel_rfl) | exact rfl | exact True.intro | ((try dsimp only [imp, C0, cG, cInt, cPl, cSlot, cPg, rwCodec, cRaw] at *); (try refine inR64 ?_ ?_) <;> (try simp only [List.length_set, List.length_append, List.length_take, List.length_drop]) <;> omega))
  · rename_i d0
    try dsimp only [fB, C0, cG, cInt, cPl, cSlot, cPg, rwCodec, Rj4, Rj15] at d0
    refine Stands.one (0 : Nat) ⟨⟨Nat.zero_le _, fun j hj => absurd hj (Nat.not_lt_zero j)⟩, ?_⟩
    ((conv => (arg 1; reduce)); with_reducible repeat' (first | exact Tr.yes_h | refine Tr.and_h ?_ ?_ | refine Tr.imp_h fun _ => ?_ | refine Tr.all_h fun _ => ?_ | refine Tr.lf_h ?_))
    all_goals (first | first | (show Region.lexB _ _ = true; kernel_rfl) | (show planned _ _ = true; kernel_rfl) | exact rfl | exact True.intro | ((try dsimp only [imp, C0, cG, cInt, cPl, cSlot, cPg, rwCodec, cRaw] at *); (try refine inR64 ?_ ?_) <;> (try simp only [List.length_set, List.length_append, List.length_take, List.length_drop]) <;> omega))
  · rename_i d0 v hv d1
    try dsimp only [fB, C0, cG, cInt, cPl, cSlot, cPg, rwCodec, Rj4, Rj15] at d0 v hv d1
    have d1 : v < n := Int.ofNat_lt.1 (of_decide_eq_true d1)
    show (v : Int).toNat + i < l.length
    omega
  · rename_i d0 v hv d1 r0 g0
    try dsimp only [fB, C0, cG, cInt, cPl, cSlot, cPg, rwCodec, Rj4, Rj15] at d0 v hv d1 r0 g0
    have n0 : 0 < n := by have := of_decide_eq_false d0; omega
    show (0 : Int).toNat + i < l.length
    omega
  · rename_i d0 v hv d1 r0 g0 r1 g1 d2
    try dsimp only [fB, C0, cG, cInt, cPl, cSlot, cPg, rwCodec, Rj4, Rj15] at d0 v hv d1 r0 g0 r1 g1 d2
    have n0 : 0 < n := by have := of_decide_eq_false d0; omega
    have d1 : v < n := Int.ofNat_lt.1 (of_decide_eq_true d1)
    obtain ⟨a1, a2, a3⟩ := jr h1 hr d1 g0
    obtain ⟨b1, b2, b3⟩ := jr (v := 0) h1 hr n0 g1
    have d2 := of_decide_eq_true d2
    refine Ends.one () (.inr (.inr (.inr ⟨v, by rw [rowL_len h1]; exact d1, by rw [← a1, ← b1]; omega⟩))) ?_
    ((conv => (arg 1; reduce)); with_reducible repeat' (first | exact Tr.yes_h | refine Tr.and_h ?_ ?_ | refine Tr.imp_h fun _ => ?_ | refine Tr.all_h fun _ => ?_ | refine Tr.lf_h ?_))
    all_goals (first | first | (show Region.lexB _ _ = true; kernel_rfl) | (show planned _ _ = true; kernel_rfl) | exact rfl | exact True.intro | ((try dsimp only [imp, C0, cG, cInt, cPl, cSlot, cPg, rwCodec, cRaw] at *); (try refine inR64 ?_ ?_) <;> (try simp only [List.length_set, List.length_append, List.length_take, List.length_drop]) <;> omega))
  · rename_i d0 v hv d1 r0 g0 r1 g1 d2
    try dsimp only [fB, C0, cG, cInt, cPl, cSlot, cPg, rwCodec, Rj4, Rj15] at d0 v hv d1 r0 g0 r1 g1 d2
    have d1 : v < n := Int.ofNat_lt.1 (of_decide_eq_true d1)
    show (v : Int).toNat + i < l.length
    omega
  · rename_i d0 v hv d1 r0 g0 r1 g1 d2 r2 g2 d3
    try dsimp only [fB, C0, cG, cInt, cPl, cSlot, cPg, rwCodec, Rj4, Rj15] at d0 v hv d1 r0 g0 r1 g1 d2 r2 g2 d3
    have n0 : 0 < n := by have := of_decide_eq_false d0; omega
    have d1 : v < n := Int.ofNat_lt.1 (of_decide_eq_true d1)
    obtain ⟨a1, a2, a3⟩ := jr h1 hr d1 g0
    obtain ⟨b1, b2, b3⟩ := jr (v := 0) h1 hr n0 g1
    have d2 := of_decide_eq_false d2
    obtain ⟨c1, c2, c3⟩ := jr h1 hr d1 g2
    have ac : r0.l.length = r2.l.length := by rw [a1, c1]
    have d3 := of_decide_eq_true d3
    refine Ends.one () (.inr (.inl (by rw [← b1]; omega))) ?_
    ((conv => (arg 1; reduce)); with_reducible repeat' (first | exact Tr.yes_h | refine Tr.and_h ?_ ?_ | refine Tr.imp_h fun _ => ?_ | refine Tr.all_h fun _ => ?_ | refine Tr.lf_h ?_))
    all_goals (first | first | (show Region.lexB _ _ = true; kernel_rfl) | (show planned _ _ = true; kernel_rfl) | exact rfl | exact True.intro | ((try dsimp only [imp, C0, cG, cInt, cPl, cSlot, cPg, rwCodec, cRaw] at *); (try refine inR64 ?_ ?_) <;> (try simp only [List.length_set, List.length_append, List.length_take, List.length_drop]) <;> omega))
  · rename_i d0 v hv d1 r0 g0 r1 g1 d2 r2 g2 d3
    try dsimp only [fB, C0, cG, cInt, cPl, cSlot, cPg, rwCodec, Rj4, Rj15] at d0 v hv d1 r0 g0 r1 g1 d2 r2 g2 d3
    have d1 : v < n := Int.ofNat_lt.1 (of_decide_eq_true d1)
    show (v : Int).toNat + i < l.length
    omega
  · rename_i d0 v hv d1 r0 g0 r1 g1 d2 r2 g2 d3 r3 g3 d4
    try dsimp only [fB, C0, cG, cInt, cPl, cSlot, cPg, rwCodec, Rj4, Rj15] at d0 v hv d1 r0 g0 r1 g1 d2 r2 g2 d3 r3 g3 d4
    have n0 : 0 < n := by have := of_decide_eq_false d0; omega
    have d1 : v < n := Int.ofNat_lt.1 (of_decide_eq_true d1)
    obtain ⟨a1, a2, a3⟩ := jr h1 hr d1 g0
    obtain ⟨b1, b2, b3⟩ := jr (v := 0) h1 hr n0 g1
    have d2 := of_decide_eq_false d2
    obtain ⟨c1, c2, c3⟩ := jr h1 hr d1 g2
    have ac : r0.l.length = r2.l.length := by rw [a1, c1]
    have d3 := of_decide_eq_false d3
    obtain ⟨m1, m2, m3⟩ := jr h1 hr d1 g3
    have am : r0.l.length = r3.l.length := by rw [a1, m1]
    have d4 := of_decide_eq_true d4
    refine Ends.one () (.inr (.inr (.inl (by rw [← b1]; omega)))) ?_
    ((conv => (arg 1; reduce)); with_reducible repeat' (first | exact Tr.yes_h | refine Tr.and_h ?_ ?_ | refine Tr.imp_h fun _ => ?_ | refine Tr.all_h fun _ => ?_ | refine Tr.lf_h ?_))
    all_goals (first | first | (show Region.lexB _ _ = true; kernel_rfl) | (show planned _ _ = true; kernel_rfl) | exact rfl | exact True.intro | ((try dsimp only [imp, C0, cG, cInt, cPl, cSlot, cPg, rwCodec, cRaw] at *); (try refine inR64 ?_ ?_) <;> (try simp only [List.length_set, List.length_append, List.length_take, List.length_drop]) <;> omega))
  · rename_i d0 v hv d1 r0 g0 r1 g1 d2 r2 g2 d3 r3 g3 d4
    try dsimp only [fB, C0, cG, cInt, cPl, cSlot, cPg, rwCodec, Rj4, Rj15] at d0 v hv d1 r0 g0 r1 g1 d2 r2 g2 d3 r3 g3 d4
    have n0 : 0 < n := by have := of_decide_eq_false d0; omega
    have d1 : v < n := Int.ofNat_lt.1 (of_decide_eq_true d1)
    obtain ⟨a1, a2, a3⟩ := jr h1 hr d1 g0
    obtain ⟨b1, b2, b3⟩ := jr (v := 0) h1 hr n0 g1
    have d2 := of_decide_eq_false d2
    obtain ⟨c1, c2, c3⟩ := jr h1 hr d1 g2
    have ac : r0.l.length = r2.l.length := by rw [a1, c1]
    have d3 := of_decide_eq_false d3
    obtain ⟨m1, m2, m3⟩ := jr h1 hr d1 g3
    have am : r0.l.length = r3.l.length := by rw [a1, m1]
    have d4 := of_decide_eq_false d4
    have hv2 : ∀ j, j < v → ((rowL l i n).getD j []).length = ((rowL l i n).getD 0 []).length ∧ 16 ≤ ((rowL l i n).getD j []).length ∧ ((rowL l i n).getD j []).length ≤ 1024 := hv.2
    refine Stands.one (v + 1 : Nat) ⟨⟨by rw [rowL_len h1]; exact d1, fun j hj => ?_⟩, ?_, ?_⟩
    · rcases Nat.lt_or_ge j v with hj2 | hj2
      · exact hv2 j hj2
      · obtain rfl : j = v := by omega
        rw [← a1, ← b1]
        exact ⟨by omega, by omega, by omega⟩
    · show (rowL l i n).length - (v + 1) < (rowL l i n).length - v
      rw [rowL_len h1]; omega
    ((conv => (arg 1; reduce)); with_reducible repeat' (first | exact Tr.yes_h | refine Tr.and_h ?_ ?_ | refine Tr.imp_h fun _ => ?_ | refine Tr.all_h fun _ => ?_ | refine Tr.lf_h ?_))
    all_goals (first | first | (show Region.lexB _ _ = true; kernel_rfl) | (show planned _ _ = true; kernel_rfl) | exact rfl | exact True.intro | ((try dsimp only [imp, C0, cG, cInt, cPl, cSlot, cPg, rwCodec, cRaw] at *); (try refine inR64 ?_ ?_) <;> (try simp only [List.length_set, List.length_append, List.length_take, List.length_drop]) <;> omega))
  · rename_i d0 v hv d1
    try dsimp only [fB, C0, cG, cInt, cPl, cSlot, cPg, rwCodec, Rj4, Rj15] at d0 v hv d1
    have n0 : 0 < n := by have := of_decide_eq_false d0; omega
    show (0 : Int).toNat + i < l.length
    omega
  · rename_i d0 v hv d1 r0 g0
    try dsimp only [fB, C0, cG, cInt, cPl, cSlot, cPg, rwCodec, Rj4, Rj15] at d0 v hv d1 r0 g0
    have n0 : 0 < n := by have := of_decide_eq_false d0; omega
    have JG := rj_jg h1 n0 hv d1
    obtain ⟨a1, a2, a3⟩ := jr (v := 0) h1 hr n0 g0
    have a4 : 16 ≤ r0.l.length ∧ r0.l.length ≤ 1024 := by rw [a1]; exact ⟨JG.2.1, JG.2.2.1⟩
    exact ⟨by show 0 + r0.l.length ≤ r0.l.length; omega, ⟨by decide, by show (0 : Int) + 4 ≤ (r0.l.length : Int); omega⟩, a2.2.2, a2.1, (a3.drop 0).take _⟩
  · rename_i d0 v hv d1 r0 g0
    try dsimp only [fB, C0, cG, cInt, cPl, cSlot, cPg, rwCodec, Rj4, Rj15] at d0 v hv d1 r0 g0
    have n0 : 0 < n := by have := of_decide_eq_false d0; omega
    show (0 : Int).toNat + i < l.length
    omega
  · rename_i d0 v hv d1 r0 g0 r1 g1
    try dsimp only [fB, C0, cG, cInt, cPl, cSlot, cPg, rwCodec, Rj4, Rj15] at d0 v hv d1 r0 g0 r1 g1
    have n0 : 0 < n := by have := of_decide_eq_false d0; omega
    have JG := rj_jg h1 n0 hv d1
    obtain ⟨b1, b2, b3⟩ := jr (v := 0) h1 hr n0 g1
    have b4 : 16 ≤ r1.l.length ∧ r1.l.length ≤ 1024 := by rw [b1]; exact ⟨JG.2.1, JG.2.2.1⟩
    exact ⟨by show 0 + r1.l.length ≤ r1.l.length; omega, ⟨by decide, by show (8 : Int) + 4 ≤ (r1.l.length : Int); omega⟩, b2.2.2, b2.1, (b3.drop 0).take _⟩
  · rename_i d0 v hv d1 r0 g0 r1 g1
    try dsimp only [fB, C0, cG, cInt, cPl, cSlot, cPg, rwCodec, Rj4, Rj15] at d0 v hv d1 r0 g0 r1 g1
    have n0 : 0 < n := by have := of_decide_eq_false d0; omega
    show (0 : Int).toNat + i < l.length
    omega
  · rename_i d0 v hv d1 r0 g0 r1 g1 r2 g2
    try dsimp only [fB, C0, cG, cInt, cPl, cSlot, cPg, rwCodec, Rj4, Rj15] at d0 v hv d1 r0 g0 r1 g1 r2 g2
    have n0 : 0 < n := by have := of_decide_eq_false d0; omega
    have JG := rj_jg h1 n0 hv d1
    obtain ⟨c1, c2, c3⟩ := jr (v := 0) h1 hr n0 g2
    have c4 : 16 ≤ r2.l.length ∧ r2.l.length ≤ 1024 := by rw [c1]; exact ⟨JG.2.1, JG.2.2.1⟩
    show inR .i64 ((r2.l.length : Int) - 12)
    exact inR64 (by omega) (by omega)
  · rename_i d0 v hv d1 r0 g0 r1 g1 r2 g2 d2
    try dsimp only [fB, C0, cG, cInt, cPl, cSlot, cPg, rwCodec, Rj4, Rj15] at d0 v hv d1 r0 g0 r1 g1 r2 g2 d2
    have n0 : 0 < n := by have := of_decide_eq_false d0; omega
    have JG := rj_jg h1 n0 hv d1
    obtain ⟨a1, a2, a3⟩ := jr (v := 0) h1 hr n0 g0
    have a4 : 16 ≤ r0.l.length ∧ r0.l.length ≤ 1024 := by rw [a1]; exact ⟨JG.2.1, JG.2.2.1⟩
    obtain ⟨b1, b2, b3⟩ := jr (v := 0) h1 hr n0 g1
    have b4 : 16 ≤ r1.l.length ∧ r1.l.length ≤ 1024 := by rw [b1]; exact ⟨JG.2.1, JG.2.2.1⟩
    obtain ⟨c1, c2, c3⟩ := jr (v := 0) h1 hr n0 g2
    have c4 : 16 ≤ r2.l.length ∧ r2.l.length ≤ 1024 := by rw [c1]; exact ⟨JG.2.1, JG.2.2.1⟩
    have U := (four_nm b3 (j := 8) (by omega)).2
    unfold U32 at U
    show inR .i64 (nm r1.l 8 + ((r2.l.length : Int) - 12))
    exact inR64 (by omega) (by omega)
  · rename_i d0 v hv d1 r0 g0 r1 g1 r2 g2 d2
    try dsimp only [fB, C0, cG, cInt, cPl, cSlot, cPg, rwCodec, Rj4, Rj15] at d0 v hv d1 r0 g0 r1 g1 r2 g2 d2
    have n0 : 0 < n := by have := of_decide_eq_false d0; omega
    have JG := rj_jg h1 n0 hv d1
    obtain ⟨a1, a2, a3⟩ := jr (v := 0) h1 hr n0 g0
    have a4 : 16 ≤ r0.l.length ∧ r0.l.length ≤ 1024 := by rw [a1]; exact ⟨JG.2.1, JG.2.2.1⟩
    obtain ⟨b1, b2, b3⟩ := jr (v := 0) h1 hr n0 g1
    have b4 : 16 ≤ r1.l.length ∧ r1.l.length ≤ 1024 := by rw [b1]; exact ⟨JG.2.1, JG.2.2.1⟩
    obtain ⟨c1, c2, c3⟩ := jr (v := 0) h1 hr n0 g2
    have c4 : 16 ≤ r2.l.length ∧ r2.l.length ≤ 1024 := by rw [c1]; exact ⟨JG.2.1, JG.2.2.1⟩
    have U := (four_nm b3 (j := 8) (by omega)).2
    unfold U32 at U
    show inR .i64 (nm r1.l 8 + ((r2.l.length : Int) - 12) - 1)
    exact inR64 (by omega) (by omega)
  · rename_i d0 v hv d1 r0 g0 r1 g1 r2 g2 d2
    try dsimp only [fB, C0, cG, cInt, cPl, cSlot, cPg, rwCodec, Rj4, Rj15] at d0 v hv d1 r0 g0 r1 g1 r2 g2 d2
    have n0 : 0 < n := by have := of_decide_eq_false d0; omega
    have JG := rj_jg h1 n0 hv d1
    obtain ⟨c1, c2, c3⟩ := jr (v := 0) h1 hr n0 g2
    have c4 : 16 ≤ r2.l.length ∧ r2.l.length ≤ 1024 := by rw [c1]; exact ⟨JG.2.1, JG.2.2.1⟩
    show ((r2.l.length : Int) - 12) ≠ 0
    omega
  · rename_i d0 v hv d1 r0 g0 r1 g1 r2 g2 d2
    try dsimp only [fB, C0, cG, cInt, cPl, cSlot, cPg, rwCodec, Rj4, Rj15] at d0 v hv d1 r0 g0 r1 g1 r2 g2 d2
    have n0 : 0 < n := by have := of_decide_eq_false d0; omega
    have JG := rj_jg h1 n0 hv d1
    obtain ⟨a1, a2, a3⟩ := jr (v := 0) h1 hr n0 g0
    have a4 : 16 ≤ r0.l.length ∧ r0.l.length ≤ 1024 := by rw [a1]; exact ⟨JG.2.1, JG.2.2.1⟩
    obtain ⟨b1, b2, b3⟩ := jr (v := 0) h1 hr n0 g1
    have b4 : 16 ≤ r1.l.length ∧ r1.l.length ≤ 1024 := by rw [b1]; exact ⟨JG.2.1, JG.2.2.1⟩
    obtain ⟨c1, c2, c3⟩ := jr (v := 0) h1 hr n0 g2
    have c4 : 16 ≤ r2.l.length ∧ r2.l.length ≤ 1024 := by rw [c1]; exact ⟨JG.2.1, JG.2.2.1⟩
    have U := (four_nm b3 (j := 8) (by omega)).2
    unfold U32 at U
    show inR .i64 ((nm r1.l 8 + ((r2.l.length : Int) - 12) - 1).tdiv ((r2.l.length : Int) - 12))
    rw [Int.tdiv_eq_ediv_of_nonneg (by omega)]
    have q1 : 0 ≤ (nm r1.l 8 + ((r2.l.length : Int) - 12) - 1) / ((r2.l.length : Int) - 12) := Int.ediv_nonneg (by omega) (by omega)
    have q2 : (nm r1.l 8 + ((r2.l.length : Int) - 12) - 1) / ((r2.l.length : Int) - 12) ≤ nm r1.l 8 + ((r2.l.length : Int) - 12) - 1 := Int.ediv_le_self _ (by omega)
    exact inR64 (by omega) (by omega)
  · rename_i d0 v hv d1 r0 g0 r1 g1 r2 g2 d2
    try dsimp only [fB, C0, cG, cInt, cPl, cSlot, cPg, rwCodec, Rj4, Rj15] at d0 v hv d1 r0 g0 r1 g1 r2 g2 d2
    have n0 : 0 < n := by have := of_decide_eq_false d0; omega
    have JG := rj_jg h1 n0 hv d1
    obtain ⟨a1, a2, a3⟩ := jr (v := 0) h1 hr n0 g0
    have a4 : 16 ≤ r0.l.length ∧ r0.l.length ≤ 1024 := by rw [a1]; exact ⟨JG.2.1, JG.2.2.1⟩
    obtain ⟨b1, b2, b3⟩ := jr (v := 0) h1 hr n0 g1
    have b4 : 16 ≤ r1.l.length ∧ r1.l.length ≤ 1024 := by rw [b1]; exact ⟨JG.2.1, JG.2.2.1⟩
    obtain ⟨c1, c2, c3⟩ := jr (v := 0) h1 hr n0 g2
    have c4 : 16 ≤ r2.l.length ∧ r2.l.length ≤ 1024 := by rw [c1]; exact ⟨JG.2.1, JG.2.2.1⟩
    have U := (four_nm b3 (j := 8) (by omega)).2
    unfold U32 at U
    have d2 : (!cn (nm r0.l 0) || decide (max 1 ((nm r1.l 8 + ((r2.l.length : Int) - 12) - 1).tdiv ((r2.l.length : Int) - 12)) ≠ (n : Int)) || decide ((64 : Int) < (n : Int))) = true := d2
    rw [a1, b1, c1] at d2
    have := (rj_d (by rw [← b1]; exact U.1) (rowL_len h1) JG).1 d2
    refine Ends.next (Ends.one () ⟨jg_iff.1 JG, this⟩ ?_)
    ((conv => (arg 1; reduce)); with_reducible repeat' (first | exact Tr.yes_h | refine Tr.and_h ?_ ?_ | refine Tr.imp_h fun _ => ?_ | refine Tr.all_h fun _ => ?_ | refine Tr.lf_h ?_))
    all_goals (first | first | (show Region.lexB _ _ = true; kernel_rfl) | (show planned _ _ = true; kernel_rfl) | exact rfl | exact True.intro | ((try dsimp only [imp, C0, cG, cInt, cPl, cSlot, cPg, rwCodec, cRaw] at *); (try refine inR64 ?_ ?_) <;> (try simp only [List.length_set, List.length_append, List.length_take, List.length_drop]) <;> omega))
  · rename_i d0 v hv d1 r0 g0 r1 g1 r2 g2 d2
    try dsimp only [fB, C0, cG, cInt, cPl, cSlot, cPg, rwCodec, Rj4, Rj15] at d0 v hv d1 r0 g0 r1 g1 r2 g2 d2
    refine Stands.one (0, false, 0, 0, [], 0) ⟨⟨Nat.zero_le _, ⟨Nat.zero_mul _, by rw [Nat.zero_mul]; rfl, Nat.le_of_eq (Nat.zero_mul _), Nat.le_refl _, fun _ => ⟨Nat.zero_mul _, rfl⟩⟩, fun j hj => absurd hj (Nat.not_lt_zero j)⟩, ?_⟩
    ((conv => (arg 1; reduce)); with_reducible repeat' (first | exact Tr.yes_h | refine Tr.and_h ?_ ?_ | refine Tr.imp_h fun _ => ?_ | refine Tr.all_h fun _ => ?_ | refine Tr.lf_h ?_))
    all_goals try (first | first | (show Region.lexB _ _ = true; kernel_rfl) | (show planned _ _ = true; kernel_rfl) | exact rfl | exact True.intro | ((try dsimp only [imp, C0, cG, cInt, cPl, cSlot, cPg, rwCodec, cRaw] at *); (try refine inR64 ?_ ?_) <;> (try simp only [List.length_set, List.length_append, List.length_take, List.length_drop]) <;> omega))
    all_goals exact (Nat.zero_mul _).symm
  · rename_i d0 v hv d1 r0 g0 r1 g1 r2 g2 d2 w hw d5
    try dsimp only [fB, C0, cG, cInt, cPl, cSlot, cPg, rwCodec, Rj4, Rj15] at d0 v hv d1 r0 g0 r1 g1 r2 g2 d2 w hw d5
    obtain ⟨k, on, vb, vq, vl, vc⟩ := w
    have d5 : k < n := Int.ofNat_lt.1 (of_decide_eq_true d5)
    show (k : Int).toNat + i < l.length
    omega
  · rename_i d0 v hv d1 r0 g0 r1 g1 r2 g2 d2 w hw d5 rx gx
    try dsimp only [fB, C0, cG, cInt, cPl, cSlot, cPg, rwCodec, Rj4, Rj15] at d0 v hv d1 r0 g0 r1 g1 r2 g2 d2 w hw d5 rx gx
    have n0 : 0 < n := by have := of_decide_eq_false d0; omega
    have JG := rj_jg h1 n0 hv d1
    obtain ⟨a1, a2, a3⟩ := jr (v := 0) h1 hr n0 g0
    have a4 : 16 ≤ r0.l.length ∧ r0.l.length ≤ 1024 := by rw [a1]; exact ⟨JG.2.1, JG.2.2.1⟩
    obtain ⟨b1, b2, b3⟩ := jr (v := 0) h1 hr n0 g1
    have b4 : 16 ≤ r1.l.length ∧ r1.l.length ≤ 1024 := by rw [b1]; exact ⟨JG.2.1, JG.2.2.1⟩
    obtain ⟨k, on, vb, vq, vl, vc⟩ := w
    have d5 : k < n := Int.ofNat_lt.1 (of_decide_eq_true d5)
    obtain ⟨x1, x2, x3⟩ := jr h1 hr d5 gx
    have x4 : rx.l.length = r0.l.length := by rw [x1, a1]; exact JG.2.2.2 k (by rw [rowL_len h1]; exact d5)
    exact ⟨by show 0 + rx.l.length ≤ rx.l.length; omega, ⟨by decide, by show (0 : Int) + 4 ≤ (rx.l.length : Int); omega⟩, x2.2.2, x2.1, (x3.drop 0).take _⟩
  · rename_i d0 v hv d1 r0 g0 r1 g1 r2 g2 d2 w hw d5 rx gx d6
    try dsimp only [fB, C0, cG, cInt, cPl, cSlot, cPg, rwCodec, Rj4, Rj15] at d0 v hv d1 r0 g0 r1 g1 r2 g2 d2 w hw d5 rx gx d6
    have n0 : 0 < n := by have := of_decide_eq_false d0; omega
    have JG := rj_jg h1 n0 hv d1
    obtain ⟨a1, a2, a3⟩ := jr (v := 0) h1 hr n0 g0
    have a4 : 16 ≤ r0.l.length ∧ r0.l.length ≤ 1024 := by rw [a1]; exact ⟨JG.2.1, JG.2.2.1⟩
    obtain ⟨b1, b2, b3⟩ := jr (v := 0) h1 hr n0 g1
    have b4 : 16 ≤ r1.l.length ∧ r1.l.length ≤ 1024 := by rw [b1]; exact ⟨JG.2.1, JG.2.2.1⟩
    obtain ⟨k, on, vb, vq, vl, vc⟩ := w
    have d5 : k < n := Int.ofNat_lt.1 (of_decide_eq_true d5)
    obtain ⟨x1, x2, x3⟩ := jr h1 hr d5 gx
    have x4 : rx.l.length = r0.l.length := by rw [x1, a1]; exact JG.2.2.2 k (by rw [rowL_len h1]; exact d5)
    refine Ends.next (Ends.one () ⟨jg_iff.1 JG, fun p s h => ?_⟩ ?_)
    · obtain ⟨u1, u2, u3⟩ := h.2.1 k (by rw [rowL_len h1]; exact d5)
      obtain ⟨v1, v2, v3⟩ := h.2.1 0 (by rw [rowL_len h1]; exact n0)
      rw [← x1] at u1 u2 u3
      rw [← a1] at v1
      rw [← b1] at v3
      have d9 := of_decide_eq_true d6
      simp only [Int.toNat, Nat.add_zero] at d9
      omega
    ((conv => (arg 1; reduce)); with_reducible repeat' (first | exact Tr.yes_h | refine Tr.and_h ?_ ?_ | refine Tr.imp_h fun _ => ?_ | refine Tr.all_h fun _ => ?_ | refine Tr.lf_h ?_))
    all_goals (first | first | (show Region.lexB _ _ = true; kernel_rfl) | (show planned _ _ = true; kernel_rfl) | exact rfl | exact True.intro | ((try dsimp only [imp, C0, cG, cInt, cPl, cSlot, cPg, rwCodec, cRaw] at *); (try refine inR64 ?_ ?_) <;> (try simp only [List.length_set, List.length_append, List.length_take, List.length_drop]) <;> omega))
  · rename_i d0 v hv d1 r0 g0 r1 g1 r2 g2 d2 w hw d5 rx gx d6
    try dsimp only [fB, C0, cG, cInt, cPl, cSlot, cPg, rwCodec, Rj4, Rj15] at d0 v hv d1 r0 g0 r1 g1 r2 g2 d2 w hw d5 rx gx d6
    obtain ⟨k, on, vb, vq, vl, vc⟩ := w
    have d5 : k < n := Int.ofNat_lt.1 (of_decide_eq_true d5)
    show (k : Int).toNat + i < l.length
    omega
  · rename_i d0 v hv d1 r0 g0 r1 g1 r2 g2 d2 w hw d5 rx gx d6 ry gy
    try dsimp only [fB, C0, cG, cInt, cPl, cSlot, cPg, rwCodec, Rj4, Rj15] at d0 v hv d1 r0 g0 r1 g1 r2 g2 d2 w hw d5 rx gx d6 ry gy
    have n0 : 0 < n := by have := of_decide_eq_false d0; omega
    have JG := rj_jg h1 n0 hv d1
    obtain ⟨a1, a2, a3⟩ := jr (v := 0) h1 hr n0 g0
    have a4 : 16 ≤ r0.l.length ∧ r0.l.length ≤ 1024 := by rw [a1]; exact ⟨JG.2.1, JG.2.2.1⟩
    obtain ⟨b1, b2, b3⟩ := jr (v := 0) h1 hr n0 g1
    have b4 : 16 ≤ r1.l.length ∧ r1.l.length ≤ 1024 := by rw [b1]; exact ⟨JG.2.1, JG.2.2.1⟩
    obtain ⟨k, on, vb, vq, vl, vc⟩ := w
    have d5 : k < n := Int.ofNat_lt.1 (of_decide_eq_true d5)
    obtain ⟨y1, y2, y3⟩ := jr h1 hr d5 gy
    have y4 : ry.l.length = r0.l.length := by rw [y1, a1]; exact JG.2.2.2 k (by rw [rowL_len h1]; exact d5)
    exact ⟨by show 0 + ry.l.length ≤ ry.l.length; omega, ⟨by decide, by show (4 : Int) + 4 ≤ (ry.l.length : Int); omega⟩, y2.2.2, y2.1, (y3.drop 0).take _⟩
  · rename_i d0 v hv d1 r0 g0 r1 g1 r2 g2 d2 w hw d5 rx gx d6 ry gy d7
    try dsimp only [fB, C0, cG, cInt, cPl, cSlot, cPg, rwCodec, Rj4, Rj15] at d0 v hv d1 r0 g0 r1 g1 r2 g2 d2 w hw d5 rx gx d6 ry gy d7
    have n0 : 0 < n := by have := of_decide_eq_false d0; omega
    have JG := rj_jg h1 n0 hv d1
    obtain ⟨a1, a2, a3⟩ := jr (v := 0) h1 hr n0 g0
    have a4 : 16 ≤ r0.l.length ∧ r0.l.length ≤ 1024 := by rw [a1]; exact ⟨JG.2.1, JG.2.2.1⟩
    obtain ⟨b1, b2, b3⟩ := jr (v := 0) h1 hr n0 g1
    have b4 : 16 ≤ r1.l.length ∧ r1.l.length ≤ 1024 := by rw [b1]; exact ⟨JG.2.1, JG.2.2.1⟩
    obtain ⟨k, on, vb, vq, vl, vc⟩ := w
    have d5 : k < n := Int.ofNat_lt.1 (of_decide_eq_true d5)
    obtain ⟨y1, y2, y3⟩ := jr h1 hr d5 gy
    have y4 : ry.l.length = r0.l.length := by rw [y1, a1]; exact JG.2.2.2 k (by rw [rowL_len h1]; exact d5)
    refine Ends.next (Ends.one () ⟨jg_iff.1 JG, fun p s h => ?_⟩ ?_)
    · obtain ⟨u1, u2, u3⟩ := h.2.1 k (by rw [rowL_len h1]; exact d5)
      obtain ⟨v1, v2, v3⟩ := h.2.1 0 (by rw [rowL_len h1]; exact n0)
      rw [← y1] at u1 u2 u3
      rw [← a1] at v1
      rw [← b1] at v3
      have d9 := of_decide_eq_true d7
      simp only [Int.toNat, Nat.add_zero] at d9
      omega
    ((conv => (arg 1; reduce)); with_reducible repeat' (first | exact Tr.yes_h | refine Tr.and_h ?_ ?_ | refine Tr.imp_h fun _ => ?_ | refine Tr.all_h fun _ => ?_ | refine Tr.lf_h ?_))
    all_goals (first | first | (show Region.lexB _ _ = true; kernel_rfl) | (show planned _ _ = true; kernel_rfl) | exact rfl | exact True.intro | ((try dsimp only [imp, C0, cG, cInt, cPl, cSlot, cPg, rwCodec, cRaw] at *); (try refine inR64 ?_ ?_) <;> (try simp only [List.length_set, List.length_append, List.length_take, List.length_drop]) <;> omega))
  · rename_i d0 v hv d1 r0 g0 r1 g1 r2 g2 d2 w hw d5 rx gx d6 ry gy d7
    try dsimp only [fB, C0, cG, cInt, cPl, cSlot, cPg, rwCodec, Rj4, Rj15] at d0 v hv d1 r0 g0 r1 g1 r2 g2 d2 w hw d5 rx gx d6 ry gy d7
    obtain ⟨k, on, vb, vq, vl, vc⟩ := w
    have d5 : k < n := Int.ofNat_lt.1 (of_decide_eq_true d5)
    show (k : Int).toNat + i < l.length
    omega
  · rename_i d0 v hv d1 r0 g0 r1 g1 r2 g2 d2 w hw d5 rx gx d6 ry gy d7 rz gz
    try dsimp only [fB, C0, cG, cInt, cPl, cSlot, cPg, rwCodec, Rj4, Rj15] at d0 v hv d1 r0 g0 r1 g1 r2 g2 d2 w hw d5 rx gx d6 ry gy d7 rz gz
    have n0 : 0 < n := by have := of_decide_eq_false d0; omega
    have JG := rj_jg h1 n0 hv d1
    obtain ⟨a1, a2, a3⟩ := jr (v := 0) h1 hr n0 g0
    have a4 : 16 ≤ r0.l.length ∧ r0.l.length ≤ 1024 := by rw [a1]; exact ⟨JG.2.1, JG.2.2.1⟩
    obtain ⟨b1, b2, b3⟩ := jr (v := 0) h1 hr n0 g1
    have b4 : 16 ≤ r1.l.length ∧ r1.l.length ≤ 1024 := by rw [b1]; exact ⟨JG.2.1, JG.2.2.1⟩
    obtain ⟨k, on, vb, vq, vl, vc⟩ := w
    have d5 : k < n := Int.ofNat_lt.1 (of_decide_eq_true d5)
    obtain ⟨z1, z2, z3⟩ := jr h1 hr d5 gz
    have z4 : rz.l.length = r0.l.length := by rw [z1, a1]; exact JG.2.2.2 k (by rw [rowL_len h1]; exact d5)
    exact ⟨by show 0 + rz.l.length ≤ rz.l.length; omega, ⟨by decide, by show (8 : Int) + 4 ≤ (rz.l.length : Int); omega⟩, z2.2.2, z2.1, (z3.drop 0).take _⟩
  · rename_i d0 v hv d1 r0 g0 r1 g1 r2 g2 d2 w hw d5 rx gx d6 ry gy d7 rz gz d8
    try dsimp only [fB, C0, cG, cInt, cPl, cSlot, cPg, rwCodec, Rj4, Rj15] at d0 v hv d1 r0 g0 r1 g1 r2 g2 d2 w hw d5 rx gx d6 ry gy d7 rz gz d8
    have n0 : 0 < n := by have := of_decide_eq_false d0; omega
    have JG := rj_jg h1 n0 hv d1
    obtain ⟨a1, a2, a3⟩ := jr (v := 0) h1 hr n0 g0
    have a4 : 16 ≤ r0.l.length ∧ r0.l.length ≤ 1024 := by rw [a1]; exact ⟨JG.2.1, JG.2.2.1⟩
    obtain ⟨b1, b2, b3⟩ := jr (v := 0) h1 hr n0 g1
    have b4 : 16 ≤ r1.l.length ∧ r1.l.length ≤ 1024 := by rw [b1]; exact ⟨JG.2.1, JG.2.2.1⟩
    obtain ⟨k, on, vb, vq, vl, vc⟩ := w
    have d5 : k < n := Int.ofNat_lt.1 (of_decide_eq_true d5)
    obtain ⟨z1, z2, z3⟩ := jr h1 hr d5 gz
    have z4 : rz.l.length = r0.l.length := by rw [z1, a1]; exact JG.2.2.2 k (by rw [rowL_len h1]; exact d5)
    refine Ends.next (Ends.one () ⟨jg_iff.1 JG, fun p s h => ?_⟩ ?_)
    · obtain ⟨u1, u2, u3⟩ := h.2.1 k (by rw [rowL_len h1]; exact d5)
      obtain ⟨v1, v2, v3⟩ := h.2.1 0 (by rw [rowL_len h1]; exact n0)
      rw [← z1] at u1 u2 u3
      rw [← a1] at v1
      rw [← b1] at v3
      have d9 := of_decide_eq_true d8
      simp only [Int.toNat, Nat.add_zero] at d9
      omega
    ((conv => (arg 1; reduce)); with_reducible repeat' (first | exact Tr.yes_h | refine Tr.and_h ?_ ?_ | refine Tr.imp_h fun _ => ?_ | refine Tr.all_h fun _ => ?_ | refine Tr.lf_h ?_))
    all_goals (first | first | (show Region.lexB _ _ = true; kernel_rfl) | (show planned _ _ = true; kernel_rfl) | exact rfl | exact True.intro | ((try dsimp only [imp, C0, cG, cInt, cPl, cSlot, cPg, rwCodec, cRaw] at *); (try refine inR64 ?_ ?_) <;> (try simp only [List.length_set, List.length_append, List.length_take, List.length_drop]) <;> omega))
  · rename_i d0 v hv d1 r0 g0 r1 g1 r2 g2 d2 w hw d5 rx gx d6 ry gy d7 rz gz d8
    try dsimp only [fB, C0, cG, cInt, cPl, cSlot, cPg, rwCodec, Rj4, Rj15] at d0 v hv d1 r0 g0 r1 g1 r2 g2 d2 w hw d5 rx gx d6 ry gy d7 rz gz d8
    obtain ⟨k, on, vb, vq, vl, vc⟩ := w
    have d5 : k < n := Int.ofNat_lt.1 (of_decide_eq_true d5)
    show (k : Int).toNat + i < l.length
    omega
  · rename_i d0 v hv d1 r0 g0 r1 g1 r2 g2 d2 w hw d5 rx gx d6 ry gy d7 rz gz d8 ru gu
    try dsimp only [fB, C0, cG, cInt, cPl, cSlot, cPg, rwCodec, Rj4, Rj15] at d0 v hv d1 r0 g0 r1 g1 r2 g2 d2 w hw d5 rx gx d6 ry gy d7 rz gz d8 ru gu
    have n0 : 0 < n := by have := of_decide_eq_false d0; omega
    have JG := rj_jg h1 n0 hv d1
    obtain ⟨a1, a2, a3⟩ := jr (v := 0) h1 hr n0 g0
    have a4 : 16 ≤ r0.l.length ∧ r0.l.length ≤ 1024 := by rw [a1]; exact ⟨JG.2.1, JG.2.2.1⟩
    obtain ⟨b1, b2, b3⟩ := jr (v := 0) h1 hr n0 g1
    have b4 : 16 ≤ r1.l.length ∧ r1.l.length ≤ 1024 := by rw [b1]; exact ⟨JG.2.1, JG.2.2.1⟩
    obtain ⟨k, on, vb, vq, vl, vc⟩ := w
    have d5 : k < n := Int.ofNat_lt.1 (of_decide_eq_true d5)
    obtain ⟨u1, u2, u3⟩ := jr h1 hr d5 gu
    have u4 : ru.l.length = r0.l.length := by rw [u1, a1]; exact JG.2.2.2 k (by rw [rowL_len h1]; exact d5)
    exact u2.1
  · rename_i d0 v hv d1 r0 g0 r1 g1 r2 g2 d2 w hw d5 rx gx d6 ry gy d7 rz gz d8 ru gu
    try dsimp only [fB, C0, cG, cInt, cPl, cSlot, cPg, rwCodec, Rj4, Rj15] at d0 v hv d1 r0 g0 r1 g1 r2 g2 d2 w hw d5 rx gx d6 ry gy d7 rz gz d8 ru gu
    have n0 : 0 < n := by have := of_decide_eq_false d0; omega
    have JG := rj_jg h1 n0 hv d1
    obtain ⟨a1, a2, a3⟩ := jr (v := 0) h1 hr n0 g0
    have a4 : 16 ≤ r0.l.length ∧ r0.l.length ≤ 1024 := by rw [a1]; exact ⟨JG.2.1, JG.2.2.1⟩
    obtain ⟨b1, b2, b3⟩ := jr (v := 0) h1 hr n0 g1
    have b4 : 16 ≤ r1.l.length ∧ r1.l.length ≤ 1024 := by rw [b1]; exact ⟨JG.2.1, JG.2.2.1⟩
    obtain ⟨k, on, vb, vq, vl, vc⟩ := w
    have d5 : k < n := Int.ofNat_lt.1 (of_decide_eq_true d5)
    obtain ⟨u1, u2, u3⟩ := jr h1 hr d5 gu
    have u4 : ru.l.length = r0.l.length := by rw [u1, a1]; exact JG.2.2.2 k (by rw [rowL_len h1]; exact d5)
    show (12 : Int) ≤ (ru.l.length : Int)
    omega
  · rename_i d0 v hv d1 r0 g0 r1 g1 r2 g2 d2 w hw d5 rx gx d6 ry gy d7 rz gz d8 ru gu
    try dsimp only [fB, C0, cG, cInt, cPl, cSlot, cPg, rwCodec, Rj4, Rj15] at d0 v hv d1 r0 g0 r1 g1 r2 g2 d2 w hw d5 rx gx d6 ry gy d7 rz gz d8 ru gu
    have n0 : 0 < n := by have := of_decide_eq_false d0; omega
    have JG := rj_jg h1 n0 hv d1
    obtain ⟨a1, a2, a3⟩ := jr (v := 0) h1 hr n0 g0
    have a4 : 16 ≤ r0.l.length ∧ r0.l.length ≤ 1024 := by rw [a1]; exact ⟨JG.2.1, JG.2.2.1⟩
    obtain ⟨b1, b2, b3⟩ := jr (v := 0) h1 hr n0 g1
    have b4 : 16 ≤ r1.l.length ∧ r1.l.length ≤ 1024 := by rw [b1]; exact ⟨JG.2.1, JG.2.2.1⟩
    obtain ⟨k, on, vb, vq, vl, vc⟩ := w
    have d5 : k < n := Int.ofNat_lt.1 (of_decide_eq_true d5)
    obtain ⟨u1, u2, u3⟩ := jr h1 hr d5 gu
    have u4 : ru.l.length = r0.l.length := by rw [u1, a1]; exact JG.2.2.2 k (by rw [rowL_len h1]; exact d5)
    have e1 : Grw (jout ((rowL l i n).take k)) vl on (k * (((rowL l i n).getD 0 []).length - 12)) vc := hw.2.1
    have e2 : ∀ j, j < k → nm ((rowL l i n).getD j []) 0 = nm ((rowL l i n).getD 0 []) 0 ∧ nm ((rowL l i n).getD j []) 4 = (j : Nat) ∧ nm ((rowL l i n).getD j []) 8 = nm ((rowL l i n).getD 0 []) 8 := hw.2.2
    have es : srow ru.m (Int.toNat 12) 0 = 12 := by
      have := u2.2.1
      show srow ru.m 12 0 = 12
      unfold srow
      rw [if_neg (by omega)]
    have hkp : k * (((rowL l i n).getD 0 []).length - 12) ≤ 1000000 * 1012 := Nat.mul_le_mul (by omega) (by have := JG.2.2.1; omega)
    rw [by5]
    refine ⟨e1.2.2.1, by show 0 + vc ≤ vl.length; have := e1.2.2.2.1; omega, ?_, ?_⟩
    · show srow ru.m (Int.toNat 12) 0 + (ru.l.length - 12) ≤ ru.l.length
      rw [es]; omega
    · show (k * (((rowL l i n).getD 0 []).length - 12) + (ru.l.length - 12)) * 1 ≤ 140737488355328
      omega
  · rename_i d0 v hv d1 r0 g0 r1 g1 r2 g2 d2 w hw d5 rx gx d6 ry gy d7 rz gz d8 ru gu
    try dsimp only [fB, C0, cG, cInt, cPl, cSlot, cPg, rwCodec, Rj4, Rj15] at d0 v hv d1 r0 g0 r1 g1 r2 g2 d2 w hw d5 rx gx d6 ry gy d7 rz gz d8 ru gu
    obtain ⟨k, on, vb, vq, vl, vc⟩ := w
    have d5 : k < n := Int.ofNat_lt.1 (of_decide_eq_true d5)
    have e1 : Grw (jout ((rowL l i n).take k)) vl on (k * (((rowL l i n).getD 0 []).length - 12)) vc := hw.2.1
    have e2 : ∀ j, j < k → nm ((rowL l i n).getD j []) 0 = nm ((rowL l i n).getD 0 []) 0 ∧ nm ((rowL l i n).getD j []) 4 = (j : Nat) ∧ nm ((rowL l i n).getD j []) 8 = nm ((rowL l i n).getD 0 []) 8 := hw.2.2
    exact e1.2.2.2.2
  · rename_i d0 v hv d1 r0 g0 r1 g1 r2 g2 d2 w hw d5 rx gx d6 ry gy d7 rz gz d8 ru gu
    try dsimp only [fB, C0, cG, cInt, cPl, cSlot, cPg, rwCodec, Rj4, Rj15] at d0 v hv d1 r0 g0 r1 g1 r2 g2 d2 w hw d5 rx gx d6 ry gy d7 rz gz d8 ru gu
    have n0 : 0 < n := by have := of_decide_eq_false d0; omega
    have JG := rj_jg h1 n0 hv d1
    obtain ⟨a1, a2, a3⟩ := jr (v := 0) h1 hr n0 g0
    have a4 : 16 ≤ r0.l.length ∧ r0.l.length ≤ 1024 := by rw [a1]; exact ⟨JG.2.1, JG.2.2.1⟩
    obtain ⟨b1, b2, b3⟩ := jr (v := 0) h1 hr n0 g1
    have b4 : 16 ≤ r1.l.length ∧ r1.l.length ≤ 1024 := by rw [b1]; exact ⟨JG.2.1, JG.2.2.1⟩
    obtain ⟨k, on, vb, vq, vl, vc⟩ := w
    have d5 : k < n := Int.ofNat_lt.1 (of_decide_eq_true d5)
    obtain ⟨u1, u2, u3⟩ := jr h1 hr d5 gu
    have u4 : ru.l.length = r0.l.length := by rw [u1, a1]; exact JG.2.2.2 k (by rw [rowL_len h1]; exact d5)
    intro ho
    have := (u2.1 ho).1
    omega
  · rename_i d0 v hv d1 r0 g0 r1 g1 r2 g2 d2 w hw d5 rx gx d6 ry gy d7 rz gz d8 ru gu b9 q9 sp c9 m1 m2
    try dsimp only [fB, C0, cG, cInt, cPl, cSlot, cPg, rwCodec, Rj4, Rj15] at d0 v hv d1 r0 g0 r1 g1 r2 g2 d2 w hw d5 rx gx d6 ry gy d7 rz gz d8 ru gu b9 q9 sp c9 m1 m2
    have n0 : 0 < n := by have := of_decide_eq_false d0; omega
    have JG := rj_jg h1 n0 hv d1
    obtain ⟨a1, a2, a3⟩ := jr (v := 0) h1 hr n0 g0
    have a4 : 16 ≤ r0.l.length ∧ r0.l.length ≤ 1024 := by rw [a1]; exact ⟨JG.2.1, JG.2.2.1⟩
    obtain ⟨b1, b2, b3⟩ := jr (v := 0) h1 hr n0 g1
    have b4 : 16 ≤ r1.l.length ∧ r1.l.length ≤ 1024 := by rw [b1]; exact ⟨JG.2.1, JG.2.2.1⟩
    obtain ⟨k, on, vb, vq, vl, vc⟩ := w
    have d5 : k < n := Int.ofNat_lt.1 (of_decide_eq_true d5)
    obtain ⟨x1, x2, x3⟩ := jr h1 hr d5 gx
    have x4 : rx.l.length = r0.l.length := by rw [x1, a1]; exact JG.2.2.2 k (by rw [rowL_len h1]; exact d5)
    obtain ⟨y1, y2, y3⟩ := jr h1 hr d5 gy
    have y4 : ry.l.length = r0.l.length := by rw [y1, a1]; exact JG.2.2.2 k (by rw [rowL_len h1]; exact d5)
    obtain ⟨z1, z2, z3⟩ := jr h1 hr d5 gz
    have z4 : rz.l.length = r0.l.length := by rw [z1, a1]; exact JG.2.2.2 k (by rw [rowL_len h1]; exact d5)
    obtain ⟨u1, u2, u3⟩ := jr h1 hr d5 gu
    have u4 : ru.l.length = r0.l.length := by rw [u1, a1]; exact JG.2.2.2 k (by rw [rowL_len h1]; exact d5)
    have e1 : Grw (jout ((rowL l i n).take k)) vl on (k * (((rowL l i n).getD 0 []).length - 12)) vc := hw.2.1
    have e2 : ∀ j, j < k → nm ((rowL l i n).getD j []) 0 = nm ((rowL l i n).getD 0 []) 0 ∧ nm ((rowL l i n).getD j []) 4 = (j : Nat) ∧ nm ((rowL l i n).getD j []) 8 = nm ((rowL l i n).getD 0 []) 8 := hw.2.2
    have es : srow ru.m (Int.toNat 12) 0 = 12 := by
      have := u2.2.1
      show srow ru.m 12 0 = 12
      unfold srow
      rw [if_neg (by omega)]
    have d6 := of_decide_eq_false d6
    have d7 := of_decide_eq_false d7
    have d8 := of_decide_eq_false d8
    simp only [Int.toNat, Nat.add_zero] at d6 d7 d8
    try dsimp only at d6 d7 d8
    have hp : ru.l.length - 12 = ((rowL l i n).getD 0 []).length - 12 := by rw [← a1]; omega
    have e5 := grw_app (M := ru.l.drop 12) (sp := sp) (c' := c9) (by rw [List.length_drop]; omega) e1 (by rw [List.length_drop]; exact m1) (by rw [List.length_drop]; exact m2)
    rw [List.length_drop] at e5
    have e6 : jout ((rowL l i n).take (k + 1)) = jout ((rowL l i n).take k) ++ ru.l.drop 12 := by
      unfold jout
      rw [take_snoc (d := []) (by rw [rowL_len h1]; exact d5), List.flatMap_append, ← u1]
      simp
    have e7 : (ru.l.drop (srow ru.m (Int.toNat 12) 0)).take (ru.l.length - 12) = ru.l.drop 12 := by rw [es]; exact List.take_of_length_le (by rw [List.length_drop]; exact Nat.le_refl _)
    refine Stands.one (k + 1, (Nat.blt 0 (ru.l.length - 12) || on), b9, q9, vl.take (k * (((rowL l i n).getD 0 []).length - 12)) ++ (ru.l.drop (srow ru.m (Int.toNat 12) 0)).take (ru.l.length - 12) ++ sp, c9) ⟨⟨by rw [rowL_len h1]; exact d5, ?_, fun j hj => ?_⟩, ?_, ?_⟩
    · show Grw (jout ((rowL l i n).take (k + 1))) _ _ ((k + 1) * (((rowL l i n).getD 0 []).length - 12)) c9
      rw [e6, e7, Nat.add_mul, Nat.one_mul, ← hp]
      rw [← hp] at e5
      exact e5
    · rcases Nat.lt_or_ge j k with hj2 | hj2
      · exact e2 j hj2
      · obtain rfl : j = k := by have hj : j < k + 1 := hj; omega
        refine ⟨?_, ?_, ?_⟩
        · rw [← x1, ← a1]; omega
        · rw [← y1]; omega
        · rw [← z1, ← b1]; omega
    · show (rowL l i n).length - (k + 1) < (rowL l i n).length - k
      rw [rowL_len h1]; omega
    ((conv => (arg 1; reduce)); with_reducible repeat' (first | exact Tr.yes_h | refine Tr.and_h ?_ ?_ | refine Tr.imp_h fun _ => ?_ | refine Tr.all_h fun _ => ?_ | refine Tr.lf_h ?_))
    all_goals try (first | first | (show Region.lexB _ _ = true; kernel_rfl) | (show planned _ _ = true; kernel_rfl) | exact rfl | exact True.intro | ((try dsimp only [imp, C0, cG, cInt, cPl, cSlot, cPg, rwCodec, cRaw] at *); (try refine inR64 ?_ ?_) <;> (try simp only [List.length_set, List.length_append, List.length_take, List.length_drop]) <;> omega))
    show k * (((rowL l i n).getD 0 []).length - 12) + (ru.l.length - 12) = (k + 1) * (((rowL l i n).getD 0 []).length - 12)
    rw [Nat.add_mul, Nat.one_mul, hp]
  · rename_i d0 v hv d1 r0 g0 r1 g1 r2 g2 d2 w hw d5
    try dsimp only [fB, C0, cG, cInt, cPl, cSlot, cPg, rwCodec, Rj4, Rj15] at d0 v hv d1 r0 g0 r1 g1 r2 g2 d2 w hw d5
    obtain ⟨k, on, vb, vq, vl, vc⟩ := w
    have e1 : Grw (jout ((rowL l i n).take k)) vl on (k * (((rowL l i n).getD 0 []).length - 12)) vc := hw.2.1
    have e2 : ∀ j, j < k → nm ((rowL l i n).getD j []) 0 = nm ((rowL l i n).getD 0 []) 0 ∧ nm ((rowL l i n).getD j []) 4 = (j : Nat) ∧ nm ((rowL l i n).getD j []) 8 = nm ((rowL l i n).getD 0 []) 8 := hw.2.2
    exact e1.2.2.2.2
  · rename_i d0 v hv d1 r0 g0 r1 g1 r2 g2 d2 w hw d5
    try dsimp only [fB, C0, cG, cInt, cPl, cSlot, cPg, rwCodec, Rj4, Rj15] at d0 v hv d1 r0 g0 r1 g1 r2 g2 d2 w hw d5
    have n0 : 0 < n := by have := of_decide_eq_false d0; omega
    have JG := rj_jg h1 n0 hv d1
    obtain ⟨a1, a2, a3⟩ := jr (v := 0) h1 hr n0 g0
    have a4 : 16 ≤ r0.l.length ∧ r0.l.length ≤ 1024 := by rw [a1]; exact ⟨JG.2.1, JG.2.2.1⟩
    obtain ⟨b1, b2, b3⟩ := jr (v := 0) h1 hr n0 g1
    have b4 : 16 ≤ r1.l.length ∧ r1.l.length ≤ 1024 := by rw [b1]; exact ⟨JG.2.1, JG.2.2.1⟩
    obtain ⟨c1, c2, c3⟩ := jr (v := 0) h1 hr n0 g2
    have c4 : 16 ≤ r2.l.length ∧ r2.l.length ≤ 1024 := by rw [c1]; exact ⟨JG.2.1, JG.2.2.1⟩
    have U := (four_nm b3 (j := 8) (by omega)).2
    unfold U32 at U
    exact U.1
  · rename_i d0 v hv d1 r0 g0 r1 g1 r2 g2 d2 w hw d5
    try dsimp only [fB, C0, cG, cInt, cPl, cSlot, cPg, rwCodec, Rj4, Rj15] at d0 v hv d1 r0 g0 r1 g1 r2 g2 d2 w hw d5
    have n0 : 0 < n := by have := of_decide_eq_false d0; omega
    have JG := rj_jg h1 n0 hv d1
    obtain ⟨a1, a2, a3⟩ := jr (v := 0) h1 hr n0 g0
    have a4 : 16 ≤ r0.l.length ∧ r0.l.length ≤ 1024 := by rw [a1]; exact ⟨JG.2.1, JG.2.2.1⟩
    obtain ⟨b1, b2, b3⟩ := jr (v := 0) h1 hr n0 g1
    have b4 : 16 ≤ r1.l.length ∧ r1.l.length ≤ 1024 := by rw [b1]; exact ⟨JG.2.1, JG.2.2.1⟩
    obtain ⟨c1, c2, c3⟩ := jr (v := 0) h1 hr n0 g2
    have c4 : 16 ≤ r2.l.length ∧ r2.l.length ≤ 1024 := by rw [c1]; exact ⟨JG.2.1, JG.2.2.1⟩
    have U := (four_nm b3 (j := 8) (by omega)).2
    unfold U32 at U
    have d2 : (!cn (nm r0.l 0) || decide (max 1 ((nm r1.l 8 + ((r2.l.length : Int) - 12) - 1).tdiv ((r2.l.length : Int) - 12)) ≠ (n : Int)) || decide ((64 : Int) < (n : Int))) = false := d2
    rw [a1, b1, c1] at d2
    obtain ⟨k, on, vb, vq, vl, vc⟩ := w
    have d5 : ¬ k < n := fun h => of_decide_eq_false d5 (Int.ofNat_lt.2 h)
    obtain rfl : k = n := by have : k ≤ (rowL l i n).length := hw.1; rw [rowL_len h1] at this; omega
    have e1 : Grw (jout ((rowL l i k).take k)) vl on (k * (((rowL l i k).getD 0 []).length - 12)) vc := hw.2.1
    have e2 : ∀ j, j < k → nm ((rowL l i k).getD j []) 0 = nm ((rowL l i k).getD 0 []) 0 ∧ nm ((rowL l i k).getD j []) 4 = (j : Nat) ∧ nm ((rowL l i k).getD j []) 8 = nm ((rowL l i k).getD 0 []) 8 := hw.2.2
    have J := (rj_d (by rw [← b1]; exact U.1) (rowL_len h1) JG).2 d2 e2
    have s1 : (nm r1.l 8).toNat ≤ k * (((rowL l i k).getD 0 []).length - 12) := by
      have := J.2.2.2.2.1
      rw [rowL_len h1, show nm ((rowL l i k).getD 0 []) 8 = nm r1.l 8 by rw [b1]] at this
      omega
    have s2 := e1.2.2.1
    have s3 := e1.2.2.2.1
    show nm r1.l 8 ≤ (vc : Int)
    omega
  · rename_i d0 v hv d1 r0 g0 r1 g1 r2 g2 d2 w hw d5
    try dsimp only [fB, C0, cG, cInt, cPl, cSlot, cPg, rwCodec, Rj4, Rj15] at d0 v hv d1 r0 g0 r1 g1 r2 g2 d2 w hw d5
    have n0 : 0 < n := by have := of_decide_eq_false d0; omega
    have JG := rj_jg h1 n0 hv d1
    obtain ⟨a1, a2, a3⟩ := jr (v := 0) h1 hr n0 g0
    have a4 : 16 ≤ r0.l.length ∧ r0.l.length ≤ 1024 := by rw [a1]; exact ⟨JG.2.1, JG.2.2.1⟩
    obtain ⟨b1, b2, b3⟩ := jr (v := 0) h1 hr n0 g1
    have b4 : 16 ≤ r1.l.length ∧ r1.l.length ≤ 1024 := by rw [b1]; exact ⟨JG.2.1, JG.2.2.1⟩
    obtain ⟨c1, c2, c3⟩ := jr (v := 0) h1 hr n0 g2
    have c4 : 16 ≤ r2.l.length ∧ r2.l.length ≤ 1024 := by rw [c1]; exact ⟨JG.2.1, JG.2.2.1⟩
    have U := (four_nm b3 (j := 8) (by omega)).2
    unfold U32 at U
    have d2 : (!cn (nm r0.l 0) || decide (max 1 ((nm r1.l 8 + ((r2.l.length : Int) - 12) - 1).tdiv ((r2.l.length : Int) - 12)) ≠ (n : Int)) || decide ((64 : Int) < (n : Int))) = false := d2
    rw [a1, b1, c1] at d2
    obtain ⟨k, on, vb, vq, vl, vc⟩ := w
    have d5 : ¬ k < n := fun h => of_decide_eq_false d5 (Int.ofNat_lt.2 h)
    obtain rfl : k = n := by have : k ≤ (rowL l i n).length := hw.1; rw [rowL_len h1] at this; omega
    have e1 : Grw (jout ((rowL l i k).take k)) vl on (k * (((rowL l i k).getD 0 []).length - 12)) vc := hw.2.1
    have e2 : ∀ j, j < k → nm ((rowL l i k).getD j []) 0 = nm ((rowL l i k).getD 0 []) 0 ∧ nm ((rowL l i k).getD j []) 4 = (j : Nat) ∧ nm ((rowL l i k).getD j []) 8 = nm ((rowL l i k).getD 0 []) 8 := hw.2.2
    have J := (rj_d (by rw [← b1]; exact U.1) (rowL_len h1) JG).2 d2 e2
    have s1 : (nm r1.l 8).toNat ≤ k * (((rowL l i k).getD 0 []).length - 12) := by
      have := J.2.2.2.2.1
      rw [rowL_len h1, show nm ((rowL l i k).getD 0 []) 8 = nm r1.l 8 by rw [b1]] at this
      omega
    have s2 := e1.2.2.1
    have s3 := e1.2.2.2.1
    have hkp : 0 < k * (((rowL l i k).getD 0 []).length - 12) := Nat.mul_pos n0 (by have := JG.2.1; omega)
    obtain rfl : on = true := on_of e1.2.2.2.2 hkp
    have s4 : jout (rowL l i k) = vl.take (k * (((rowL l i k).getD 0 []).length - 12)) := by
      rw [e1.2.1, List.take_of_length_le (l := rowL l i k) (by rw [rowL_len h1]; exact Nat.le_refl _)]
    have s5 : ((nm r1.l 8).toNat : Int) = nm r1.l 8 := by omega
    have J : JOk (rowL l i k) (nm r0.l 0) (nm r1.l 8) := by rw [a1, b1]; exact J
    refine Ends.next (Ends.next (Ends.one ((nm r0.l 0, (nm r1.l 8).toNat), vb, vq, vl, vc) ⟨by rw [s5]; exact J, by show (nm r1.l 8).toNat ≤ vc; omega, by show (nm r1.l 8).toNat ≤ vl.length; omega, ?_⟩ ?_))
    · show vl.take _ = (jout (rowL l i k)).take _
      rw [s4, List.take_take, Nat.min_eq_left s1]
    ((conv => (arg 1; reduce)); with_reducible repeat' (first | exact Tr.yes_h | refine Tr.and_h ?_ ?_ | refine Tr.imp_h fun _ => ?_ | refine Tr.all_h fun _ => ?_ | refine Tr.lf_h ?_))
    all_goals (first | first | (show Region.lexB _ _ = true; kernel_rfl) | (show planned _ _ = true; kernel_rfl) | exact rfl | exact True.intro | ((try dsimp only [imp, C0, cG, cInt, cPl, cSlot, cPg, rwCodec, cRaw] at *); (try refine inR64 ?_ ?_) <;> (try simp only [List.length_set, List.length_append, List.length_take, List.length_drop]) <;> omega))
def fcRjoin : Fc Tryd.prog C0 where
  tg := .fn 25
  X := Bool × Nat × Nat × List (Rw Int) × Nat × Nat × Nat
  args := fun (o, b, q, l, i, n, c) => [.sl 0 i n c]
  mem := fun (o, b, q, l, i, n, c) => [⟨b, q, 1, false, some o, .rows 26 l⟩]
  pre := fun (o, b, q, l, i, n, c) => i + n ≤ l.length ∧ (o = false → n = 0 ∧ c = 0) ∧ (∀ r ∈ (l.drop i).take n, Rok r ∧ Bys r.l) ∧ n ≤ 1000000
  alts := fun (o, b, q, l, i, n, c) => [⟨Unit, fun _ => jbad (rowL l i n), fun _ => .tup [.int .i64 0, .nils, .int .i64 116], fun _ => [⟨b, q, 1, false, some o, .rows 26 l⟩]⟩,
     ⟨Unit, fun _ => ¬ jbad (rowL l i n) ∧ ∀ x s, ¬ JOk (rowL l i n) x s, fun _ => .tup [.int .i64 0, .nils, .int .i64 107], fun _ => [⟨b, q, 1, false, some o, .rows 26 l⟩]⟩,
     ⟨(Int × Nat) × Nat × Nat × List Int × Nat, fun y => JOk (rowL l i n) y.1.1 y.1.2 ∧ y.1.2 ≤ y.2.2.2.2 ∧ y.1.2 ≤ y.2.2.2.1.length ∧ y.2.2.2.1.take y.1.2 = (jout (rowL l i n)).take y.1.2, fun y => .tup [.int .i64 y.1.1, .sl 1 0 y.1.2 y.2.2.2.2, .int .i64 0],
      fun y => [⟨b, q, 1, false, some o, .rows 26 l⟩, ⟨y.2.1, y.2.2.1, 1, true, none, .rows 5 y.2.2.2.1⟩]⟩]
  mat vs m := match vs with
    | [.sl a i n c] => match nth m a with
      | ⟨b, q, _, _, g, .rows 26 l⟩ => some ((onOf g, b, q, l, i, n, c), [a])
      | _ => none
    | [.nils] => some ((false, 0, 0, [], 0, 0, 0), [m.length])
    | _ => none
  ok := fun (o, b, q, l, i, n, c) h => rjoin_ok o b q l i n c h.1 h.2.1 h.2.2.1 h.2.2.2
end Go.Vx
set_option linter.unusedSectionVars false
set_option maxRecDepth 100000
set_option linter.unusedVariables false
set_option linter.unusedSimpArgs false
namespace Go.Vx
open Go Go.Proofs
variable [Gl]

/-- A reader behind k numbers of n bytes. -/
@[irreducible] def rdr (i n c k : Nat) : Rs := (i + 4 * min k (n / 4), n - 4 * min k (n / 4), c - 4 * min k (n / 4), decide (n / 4 < k))
theorem rdr_zero (i n c : Nat) : rdr i n c 0 = (i, n, c, false) := by unfold rdr; simp
theorem rdr_next {l : List Int} {i n c k : Nat} (hc : n < c) (h : i + n ≤ l.length) : (gs (rdr i n c k), gv l (rdr i n c k)) = (rdr i n c (k + 1), (rdN ((l.drop i).take n) (n / 4)).getD k 0) := by
  unfold rdr gs gv
  by_cases hk : k < n / 4
  · have e1 : min k (n / 4) = k := by omega
    have e2 : min (k + 1) (n / 4) = k + 1 := by omega
    simp only [e1, e2, show ¬ n - 4 * k < 4 by omega, if_false]
    refine Prod.ext (Prod.ext ?_ (Prod.ext ?_ (Prod.ext ?_ ?_))) ?_
    · show srow (c - 4 * k) 4 (i + 4 * k) = _
      unfold srow
      rw [if_neg (by omega)]
      show 4 + (i + 4 * k) = i + 4 * (k + 1); omega
    · show n - 4 * k - 4 = n - 4 * (k + 1); omega
    · show c - 4 * k - 4 = c - 4 * (k + 1); omega
    · show decide (n / 4 < k) = decide (n / 4 < k + 1)
      rw [decide_eq_decide]; omega
    · show nm l (i + 4 * k) = _
      rw [rdN_get _ hk, nm_take _ (by omega), nm_drop]
  · have e1 : min k (n / 4) = n / 4 := by omega
    have e2 : min (k + 1) (n / 4) = n / 4 := by omega
    simp only [e1, e2, show n - 4 * (n / 4) < 4 by omega, if_true]
    refine Prod.ext (Prod.ext rfl (Prod.ext rfl (Prod.ext rfl ?_))) ?_
    · show true = decide (n / 4 < k + 1)
      rw [decide_eq_true (by omega)]
    · show (0 : Int) = _
      rw [List.getD_eq_getElem?_getD, List.getElem?_eq_none (by rw [rdN_len]; omega)]; rfl
theorem rdr_pre {l : List Int} {i n c k : Nat} {o : Bool} (hc : n < c) (h : i + c ≤ l.length) (hl : n < 140737488355000) (ho : o = false → c = 0) (hb : Bys ((l.drop i).take n)) :
    (rdr i n c k).2.1 ≤ (rdr i n c k).2.2.1 ∧ (rdr i n c k).1 + (rdr i n c k).2.2.1 ≤ l.length ∧ (rdr i n c k).2.1 < 140737488355000 ∧ (o = false → (rdr i n c k).2.1 = 0 ∧ (rdr i n c k).2.2.1 = 0) ∧ Bys ((l.drop (rdr i n c k).1).take (rdr i n c k).2.1) := by
  unfold rdr
  have hm : 4 * min k (n / 4) ≤ n := by omega
  refine ⟨by show n - _ ≤ c - _; omega, by show i + _ + (c - _) ≤ _; omega, by show n - _ < _; omega, fun h => by have := ho h; omega, ?_⟩
  intro x hx
  refine hb x ?_
  have hx : x ∈ (l.drop (i + 4 * min k (n / 4))).take (n - 4 * min k (n / 4)) := hx
  rw [← List.drop_drop, ← List.drop_take] at hx
  exact List.mem_of_mem_drop hx
theorem rdr_bad (i n c k : Nat) : (rdr i n c k).2.2.2 = decide (n / 4 < k) := by unfold rdr; rfl
theorem rdr_rest (i n c k : Nat) : (rdr i n c k).2.1 = n - 4 * min k (n / 4) := by unfold rdr; rfl
/-- Block j; slot j behind K numbers. -/
def blkAt (R : List Int) (j : Nat) : Pl := (R.getD (5 + 2 * j) 0, R.getD (5 + 2 * j + 1) 0)
def slotAt (R : List Int) (K j : Nat) : Slot := ⟨R.getD (K + 9 * j) 0, (R.getD (K + 9 * j + 1) 0, R.getD (K + 9 * j + 2) 0), ⟨R.getD (K + 9 * j + 3) 0, R.getD (K + 9 * j + 4) 0, R.getD (K + 9 * j + 5) 0, R.getD (K + 9 * j + 6) 0, R.getD (K + 9 * j + 7) 0, R.getD (K + 9 * j + 8) 0⟩⟩
@[irreducible] def nB (R : List Int) : Nat := min (R.getD 4 0).toNat ((R.length - 3) / 2)
@[irreducible] def nS (R : List Int) : Nat := min (R.getD (5 + 2 * nB R) 0).toNat ((R.length + 9 - (6 + 2 * nB R)) / 9)
def hdR (R : List Int) : Hd := (R.getD 0 0, R.getD 1 0, R.getD 2 0, R.getD 3 0)
@[irreducible] def blks (R : List Int) (j : Nat) : List Pl := (List.range j).map (blkAt R)
@[irreducible] def slts (R : List Int) (j : Nat) : List Slot := (List.range j).map (slotAt R (6 + 2 * nB R))
theorem blks_len (R : List Int) (j : Nat) : (blks R j).length = j := by unfold blks; simp
theorem slts_len (R : List Int) (j : Nat) : (slts R j).length = j := by unfold slts; simp
theorem blks_zero (R : List Int) : blks R 0 = [] := by unfold blks; rfl
theorem slts_zero (R : List Int) : slts R 0 = [] := by unfold slts; rfl
theorem blks_next (R : List Int) (j : Nat) : blks R (j + 1) = blks R j ++ [blkAt R j] := by unfold blks; rw [List.range_succ, List.map_append]; rfl
theorem slts_next (R : List Int) (j : Nat) : slts R (j + 1) = slts R j ++ [slotAt R (6 + 2 * nB R) j] := by unfold slts; rw [List.range_succ, List.map_append]; rfl
/-- What the bytes are: a point's. -/
def IsPt (b : List Int) (h : Hd) (A : List Pl) (B : List Slot) : Prop := okP h A B = true ∧ b = bytesP h A B
theorem seg {R : List Int} {k m : Nat} (h : k + m ≤ R.length) : (R.drop k).take m = (List.range m).map fun t => R.getD (k + t) 0 := by
  refine List.ext_getElem (by simp; omega) fun t h1 h2 => ?_
  simp only [List.length_take, List.length_drop] at h1
  rw [List.getElem_take, List.getElem_drop, List.getElem_map, List.getElem_range, List.getD_eq_getElem?_getD, List.getElem?_eq_getElem (by omega), Option.getD_some]
theorem blks_flat {R : List Int} : ∀ {a : Nat}, 5 + 2 * a ≤ R.length → (blks R a).flatMap lst = (R.drop 5).take (2 * a)
  | 0, _ => by rw [blks_zero]; rfl
  | a + 1, h => by
    rw [blks_next, List.flatMap_append, blks_flat (by omega), show 2 * (a + 1) = 2 * a + 2 by omega, List.take_add, List.drop_drop, seg (k := 5 + 2 * a) (m := 2) (by omega)]
    simp only [List.flatMap_singleton, lst, blkAt, List.range_succ, List.range_zero, List.nil_append, List.map_append, List.map_cons, List.map_nil, List.cons_append, Nat.add_zero]
theorem slts_flat {R : List Int} : ∀ {b : Nat}, 6 + 2 * nB R + 9 * b ≤ R.length → (slts R b).flatMap slotN = (R.drop (6 + 2 * nB R)).take (9 * b)
  | 0, _ => by rw [slts_zero]; rfl
  | b + 1, h => by
    rw [slts_next, List.flatMap_append, slts_flat (by omega), show 9 * (b + 1) = 9 * b + 9 by omega, List.take_add, List.drop_drop, seg (k := 6 + 2 * nB R + 9 * b) (m := 9) (by omega)]
    simp only [List.flatMap_singleton, slotN, slotAt, List.range_succ, List.range_zero, List.nil_append, List.map_append, List.map_cons, List.map_nil, List.cons_append, Nat.add_zero]
theorem nums_of {R : List Int} (hu : ∀ x ∈ R, 0 ≤ x) (h : 6 + 2 * nB R + 9 * nS R = R.length) : nums (hdR R) (blks R (nB R)) (slts R (nS R)) = R := by
  have h0 : ∀ k, 0 ≤ R.getD k 0 := by
    intro k
    by_cases hk : k < R.length
    · rw [List.getD_eq_getElem?_getD, List.getElem?_eq_getElem hk]; exact hu _ (List.getElem_mem hk)
    · rw [List.getD_eq_getElem?_getD, List.getElem?_eq_none (by omega)]; exact Int.le_refl 0
  have hB : R.getD 4 0 = (nB R : Nat) := by
    have e : nB R = min (R.getD 4 0).toNat ((R.length - 3) / 2) := by unfold nB; rfl
    have := h0 4
    omega
  have hS : R.getD (5 + 2 * nB R) 0 = (nS R : Nat) := by
    have e : nS R = min (R.getD (5 + 2 * nB R) 0).toNat ((R.length + 9 - (6 + 2 * nB R)) / 9) := by unfold nS; rfl
    have := h0 (5 + 2 * nB R)
    omega
  unfold nums
  rw [blks_flat (by omega), slts_flat (by omega), blks_len, slts_len, ← hB, ← hS]
  have e5 : [(hdR R).1, (hdR R).2.1, (hdR R).2.2.1, (hdR R).2.2.2, R.getD 4 0] = (R.drop 0).take 5 := by
    rw [seg (by omega)]; rfl
  have e1 : [R.getD (5 + 2 * nB R) 0] = (R.drop (5 + 2 * nB R)).take 1 := by
    rw [seg (by omega)]; rfl
  rw [e5, e1, List.drop_zero, ← List.take_add, show (R.drop (5 + 2 * nB R)).take 1 = ((R.drop (5 + 2 * nB R))).take 1 from rfl, ← List.take_add]
  have e9 : 6 + 2 * nB R = 5 + 2 * nB R + 1 := by omega
  rw [e9, ← List.take_add, List.take_of_length_le (by omega)]
theorem nB_nums (h : Hd) (A : List Pl) (B : List Slot) : nB (nums h A B) = A.length := by
  have e := nums_len h A B
  have e4 : (nums h A B).getD 4 0 = (A.length : Nat) := by unfold nums; rfl
  unfold nB
  rw [e, e4]
  omega
theorem nS_nums (h : Hd) (A : List Pl) (B : List Slot) : nS (nums h A B) = B.length := by
  have e := nums_len h A B
  have e1 : ∀ A : List Pl, (A.flatMap lst).length = 2 * A.length := by
    intro A
    induction A with
    | nil => rfl
    | cons x r ih => rw [List.flatMap_cons, List.length_append, ih]; simp [lst]; omega
  have e4 : (nums h A B).getD (5 + 2 * A.length) 0 = (B.length : Nat) := by
    unfold nums
    rw [List.getD_eq_getElem?_getD, List.append_assoc, List.getElem?_append_right (by simp [e1]; omega)]
    have : 5 + 2 * A.length - ([h.1, h.2.1, h.2.2.1, h.2.2.2, (A.length : Int)] ++ A.flatMap lst).length = 0 := by simp [e1]; omega
    rw [this]; rfl
  unfold nS
  rw [nB_nums, e, e4]
  omega
theorem nums_parts {h : Hd} {A : List Pl} {B : List Slot} (hu : ∀ x ∈ nums h A B, U32 x) : hdR (nums h A B) = h ∧ blks (nums h A B) (nB (nums h A B)) = A ∧ slts (nums h A B) (nS (nums h A B)) = B := by
  refine nums_inj (nums_of (fun x hx => (hu x hx).1) ?_)
  rw [nB_nums, nS_nums, nums_len]
/-- The numbers of bytes, without the sum behind. -/
@[irreducible] def nsOf (bv : List Int) : List Int := rdN (bv.take (bv.length - 4)) ((bv.length - 4) / 4)
theorem nsOf_len (bv : List Int) : (nsOf bv).length = (bv.length - 4) / 4 := by unfold nsOf; exact rdN_len _ _
theorem isPt_facts {bv : List Int} {h : Hd} {A : List Pl} {B : List Slot} (hp : IsPt bv h A B) (hl : bv.length < 4294967296) :
    28 ≤ bv.length ∧ nsOf bv = nums h A B ∧ nm bv (bv.length - 4) = crc (bv.take (bv.length - 4)) ∧ 6 + 2 * nB (nsOf bv) + 9 * nS (nsOf bv) = (nsOf bv).length ∧ 4 * (nsOf bv).length = bv.length - 4 ∧ okP (hdR (nsOf bv)) (blks (nsOf bv) (nB (nsOf bv))) (slts (nsOf bv) (nS (nsOf bv))) = true := by
  obtain ⟨h1, h2⟩ := hp
  have hlen := bytesP_len h A B
  rw [← h2] at hlen
  have hu := okP_u32 h1 (by omega) (by omega)
  have hf : bv.take (bv.length - 4) = fours (nums h A B) := by
    rw [h2]
    unfold bytesP
    rw [List.length_append, four_len, Nat.add_sub_cancel, List.take_left]
  have hM : (bv.length - 4) / 4 = (nums h A B).length := by rw [nums_len]; omega
  have e := rdN_fours hu []
  rw [List.append_nil] at e
  have en : nsOf bv = nums h A B := by unfold nsOf; rw [hf, hM, e]
  have ep := nums_parts hu
  refine ⟨by omega, en, ?_, ?_, ?_, ?_⟩
  · have hd : bv.drop (bv.length - 4) = four (crc (bv.take (bv.length - 4))) := by
      rw [hf]
      have : bv.length - 4 = (fours (nums h A B)).length := by rw [fours_len, nums_len]; omega
      rw [this, h2]
      unfold bytesP
      exact List.drop_left
    have e1 := nm_drop bv (bv.length - 4) 0
    rw [hd, Nat.add_zero] at e1
    rw [← e1]
    have e2 := nm_four (crc_u32 (bv.take (bv.length - 4))) []
    rw [List.append_nil] at e2
    exact e2
  · rw [en, nB_nums, nS_nums, nums_len]
  · rw [en, nums_len]; omega
  · rw [en, ep.1, ep.2.1, ep.2.2]; exact h1
theorem isPt_of {bv : List Int} (hb : Bys bv) (h4 : 4 ≤ bv.length) (hc : nm bv (bv.length - 4) = crc (bv.take (bv.length - 4))) (h1 : 6 + 2 * nB (nsOf bv) + 9 * nS (nsOf bv) = (nsOf bv).length) (h2 : 4 * (nsOf bv).length = bv.length - 4)
    (hok : okP (hdR (nsOf bv)) (blks (nsOf bv) (nB (nsOf bv))) (slts (nsOf bv) (nS (nsOf bv))) = true) : IsPt bv (hdR (nsOf bv)) (blks (nsOf bv) (nB (nsOf bv))) (slts (nsOf bv) (nS (nsOf bv))) := by
  refine ⟨hok, ?_⟩
  have hl := nsOf_len bv
  have hR : fours (nsOf bv) = bv.take (bv.length - 4) := by
    unfold nsOf
    rw [fours_rdN (hb.take _) _ (by rw [List.length_take]; omega), List.take_take]
    congr 1
    omega
  have hu : ∀ x ∈ nsOf bv, 0 ≤ x := by
    intro x hx
    unfold nsOf at hx
    exact (rdN_u32 (hb.take _) (by rw [List.length_take]; omega) x hx).1
  have e := nums_of hu h1
  unfold bytesP
  rw [e, hR, ← hc, (four_nm hb (by omega)).1, List.take_of_length_le (l := bv.drop _) (by rw [List.length_drop]; omega), List.take_append_drop]
theorem got {l : List Int} {i n c : Nat} (h4 : 4 ≤ n) (h1 : n ≤ c) (h2 : i + c ≤ l.length) {s : Rs} {k : Nat} {y : Rs × Int} (hs : s = rdr i (n - 4) c k) (hy : y = (gs s, gv l s)) :
    y = (rdr i (n - 4) c (k + 1), (nsOf ((l.drop i).take n)).getD k 0) := by
  rw [hy, hs, rdr_next (by omega) (by omega)]
  unfold nsOf
  rw [rows_len (show i + n ≤ l.length by omega), List.take_take, Nat.min_eq_left (by omega)]
theorem got_pre {l : List Int} {i n c : Nat} {o : Bool} (h4 : 4 ≤ n) (h1 : n ≤ c) (h2 : i + c ≤ l.length) (h3 : n < 140737488355000) (ho : o = false → c = 0) (hb : Bys ((l.drop i).take n)) {s : Rs} {k : Nat} (hs : s = rdr i (n - 4) c k) :
    s.2.1 ≤ s.2.2.1 ∧ s.1 + s.2.2.1 ≤ l.length ∧ s.2.1 < 140737488355000 ∧ (o = false → s.2.1 = 0 ∧ s.2.2.1 = 0) ∧ Bys ((l.drop s.1).take s.2.1) := by
  rw [hs]
  refine rdr_pre (by omega) h2 (by omega) ho ?_
  have := hb.take (n - 4)
  rw [List.take_take, Nat.min_eq_left (by omega)] at this
  exact this
theorem end_i {i n c : Nat} (h4 : 4 ≤ n) (h1 : n ≤ c) : srow c (n - 4) i = i + (n - 4) := by unfold srow; rw [if_neg (by omega)]; omega
theorem end_pre {l : List Int} {i n c : Nat} {o : Bool} (h4 : 4 ≤ n) (h1 : n ≤ c) (h2 : i + c ≤ l.length) (h3 : n < 140737488355000) (ho : o = false → c = 0) (hb : Bys ((l.drop i).take n)) :
    n - (n - 4) ≤ c - (n - 4) ∧ srow c (n - 4) i + (c - (n - 4)) ≤ l.length ∧ n - (n - 4) < 140737488355000 ∧ (o = false → n - (n - 4) = 0 ∧ c - (n - 4) = 0) ∧ Bys ((l.drop (srow c (n - 4) i)).take (n - (n - 4))) := by
  rw [end_i h4 h1]
  refine ⟨by omega, by omega, by omega, fun h => by have := ho h; omega, ?_⟩
  intro x hx
  refine hb x ?_
  rw [← List.drop_drop, ← List.drop_take] at hx
  exact List.mem_of_mem_drop hx
theorem end_get {l : List Int} {i n c : Nat} (h4 : 4 ≤ n) (h1 : n ≤ c) (h2 : i + c ≤ l.length) : gv l (srow c (n - 4) i, n - (n - 4), c - (n - 4), false) = nm ((l.drop i).take n) (n - 4) := by
  unfold gv
  rw [end_i h4 h1]
  simp only [show ¬ n - (n - 4) < 4 by omega, if_false]
  rw [nm_take _ (by omega), nm_drop]
theorem nB_le (R : List Int) : 2 * nB R + 3 ≤ R.length ∨ nB R = 0 := by unfold nB; omega
theorem nB_lt {R : List Int} {j : Nat} (h : 0 < R.getD 4 0 - (j : Int)) (h2 : ¬ R.length < 5 + 2 * j) : j + 1 ≤ nB R := by unfold nB; omega
theorem nB_eq {R : List Int} {j : Nat} (hj : j ≤ nB R) (h : (decide (0 < R.getD 4 0 - (j : Int)) && !decide (R.length < 5 + 2 * j)) = false) : j = nB R := by
  have e : nB R = min (R.getD 4 0).toNat ((R.length - 3) / 2) := by unfold nB; rfl
  simp only [Bool.and_eq_false_iff, decide_eq_false_iff_not, Bool.not_eq_false', decide_eq_true_iff] at h
  omega
theorem nS_le (R : List Int) : 9 * nS R ≤ R.length + 3 := by unfold nS; omega
theorem nS_lt {R : List Int} {j : Nat} (h : 0 < R.getD (5 + 2 * nB R) 0 - (j : Int)) (h2 : ¬ R.length < 6 + 2 * nB R + 9 * j) : j + 1 ≤ nS R := by unfold nS; omega
theorem nS_eq {R : List Int} {j : Nat} (hj : j ≤ nS R) (h : (decide (0 < R.getD (5 + 2 * nB R) 0 - (j : Int)) && !decide (R.length < 6 + 2 * nB R + 9 * j)) = false) : j = nS R := by
  have e : nS R = min (R.getD (5 + 2 * nB R) 0).toNat ((R.length + 9 - (6 + 2 * nB R)) / 9) := by unfold nS; rfl
  simp only [Bool.and_eq_false_iff, decide_eq_false_iff_not, Bool.not_eq_false', decide_eq_true_iff] at h
  omega
theorem ns_u32 {bv : List Int} (hb : Bys bv) (k : Nat) : U32 ((nsOf bv).getD k 0) := by
  by_cases hk : k < (nsOf bv).length
  · rw [List.getD_eq_getElem?_getD, List.getElem?_eq_getElem hk, Option.getD_some]
    have hm := List.getElem_mem hk
    have hu : ∀ x ∈ nsOf bv, U32 x := by
      unfold nsOf
      exact rdN_u32 (hb.take _) (by rw [List.length_take]; omega)
    exact hu _ hm
  · rw [List.getD_eq_getElem?_getD, List.getElem?_eq_none (by omega)]
    exact ⟨Int.le_refl 0, by decide⟩
end Go.Vx
