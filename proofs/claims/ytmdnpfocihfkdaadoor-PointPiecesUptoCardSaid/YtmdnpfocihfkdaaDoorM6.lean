/-
  Round 23: a point that may be.
  Round 23: a point's bytes.
  Round 23: bytes in pieces.
  Round 23: plain facts: numbers and their four bytes; a point's numbers.
  Round 23: bytes of pieces.
  Round 23: pieces joined are what they were pieces of.
  Conditions: none.
-/
import Derived.Test.YtmdnpfocihfkdaaDoorM5
set_option linter.unusedSectionVars false
set_option maxRecDepth 100000
set_option linter.unusedVariables false
set_option linter.unusedSimpArgs false
namespace Go.Vx
open Go Go.Proofs
variable [Gl]

/-- A block behind those ahead. -/
def okB (ok : Bool) (i : Nat) (p b : Pl) : Bool := ok && (cn b.1 && cn b.2) && decide (b.1 < 64) && (decide (i = 0) || decide (p.1 < b.1))
def okBs : List Pl → Nat → Bool
  | _, 0 => true
  | A, i + 1 => okB (okBs A i) i (A.getD (i - 1) (0, 0)) (A.getD i (0, 0))
def okS (A : List Pl) (ok : Bool) (i : Nat) (p s : Slot) : Bool := ok && anyF (fun x => decide (x.1 = s.pl.1)) A && (cn s.key && cn s.pl.2) && decide (s.pl.2 < 64) && okMe s.me && (decide (i = 0) || (decide (p.pl.1 < s.pl.1) || (decide (p.pl.1 = s.pl.1) && decide (p.pl.2 < s.pl.2))))
def okSs (A : List Pl) (ok : Bool) (B : List Slot) : Nat → Bool
  | 0 => ok
  | i + 1 => okS A (okSs A ok B i) i (B.getD (i - 1) slot0) (B.getD i slot0)
def okH (h : Hd) : Bool := cn h.1 && cn h.2.1 && cn h.2.2.1 && cn h.2.2.2
/-- May a point be. -/
@[irreducible] def okP (h : Hd) (A : List Pl) (B : List Slot) : Bool := okSs A (okH h && okBs A A.length) B B.length
def Mb (h : Hd) (A : List Pl) : Inv' C0 := ⟨3, Nat × Bool, fun x => [(22, .int .i64 (x.1 : Int)), (3, .bool (.tm x.2))], fun _ m => m, fun x => x.1 ≤ A.length ∧ x.2 = (okH h && okBs A x.1), fun x => A.length - x.1⟩
def Ms (h : Hd) (A : List Pl) (B : List Slot) : Inv' C0 := ⟨8, Nat × Bool, fun x => [(61, .int .i64 (x.1 : Int)), (3, .bool (.tm x.2))], fun _ m => m, fun x => x.1 ≤ B.length ∧ x.2 = okSs A (okH h && okBs A A.length) B x.1, fun x => B.length - x.1⟩
theorem pred_nat {v : Nat} : ((v : Int) - 1).toNat + 0 = v - 1 := by omega
theorem int_zero {v : Nat} : decide ((v : Int) = 0) = decide (v = 0) := by rw [decide_eq_decide]; omega
theorem alln2 (a b : Int) : alln [a, b] = (cn a && cn b) := by unfold alln; simp
theorem alln4 (a b c d : Int) : alln [a, b, c, d] = (cn a && cn b && cn c && cn d) := by unfold alln; simp [Bool.and_assoc]
set_option maxHeartbeats 8000000 in
theorem pmay_ok (h : Hd) (o : Bool) (b q : Nat) (l : List Pl) (n c : Nat) (o2 : Bool) (b2 q2 : Nat) (l2 : List Slot) (n2 c2 : Nat)
    (h1 : Sq.ok (o, b, q, l, n, c)) (h2 : Sq.ok (o2, b2, q2, l2, n2, c2)) (hn : n ≤ 1000000) (hn2 : n2 ≤ 1000000) :
    Tells (C := C0) Tryd.prog (.fn 13) [⟨b, q, 2, false, some o, .rows 87 l⟩, ⟨b2, q2, 9, false, some o2, .rows 88 l2⟩] [ptv h (.sl 0 0 n c) (.sl 1 0 n2 c2)] (.bool (.tm (okP h (l.take n) (l2.take n2)))) := by
  have hnl : n ≤ l.length := h1.2.1
  have hnl2 : n2 ≤ l2.length := h2.2.1
  refine loc_pc (P := Tryd.prog) (E := ⟨[], [pcNumb, pcHasb, pcMay, pcAhead], 112, [(5, [], pmayA),
    (11, [], pmayB)], [], []⟩) (L := [Mb h (l.take n), Ms h (l.take n) (l2.take n2)]) mix Tryd.func13 rfl (by kernel_rfl) (by kernel_rfl) rfl rfl ?_
  ((conv => (arg 1; reduce)); with_reducible repeat' (first | exact Tr.yes_h | refine Tr.and_h ?_ ?_ | refine Tr.imp_h fun _ => ?_ | refine Tr.all_h fun _ => ?_ | refine Tr.lf_h ?_))
  all_goals try exact pmayA_ok _ (by kernel_rfl)
  all_goals try exact pmayB_ok _ (by kernel_rfl)
  all_goals try (first | (first | first | (show Region.lexB _ _ = true; kernel_rfl) | (show planned _ _ = true; kernel_rfl) | exact rfl | exact True.intro | ((try dsimp only [imp, C0, cG, cInt, cPl, cSlot, cPg, rwCodec, cRaw] at *); (try refine inR64 ?_ ?_) <;> (try simp only [List.length_set, List.length_append, List.length_take, List.length_drop]) <;> omega)) | ((try dsimp only [imp, C0, cG, cInt, cPl, cSlot, cPg, rwCodec, cRaw, Mb] at *); (try simp only [decide_eq_true_eq, decide_eq_false_iff_not, Bool.and_eq_true, Bool.or_eq_true, Bool.or_eq_false_iff, Bool.and_eq_false_iff, Bool.not_eq_true', Bool.not_eq_false', SB.val, List.length_append, List.length_cons, List.length_nil, List.length_take, List.length_drop] at *); (first | omega | exact inR64 (by omega) (by omega) | (refine inR64 ?_ ?_ <;> omega))))
  · exact ⟨Nat.le_refl _, by decide, fun h => Bool.noConfusion h⟩
  · refine Stands.one (0, okH h) ⟨⟨Nat.zero_le _, by simp [okBs]⟩, ?_⟩
    ((conv => (arg 1; reduce)); with_reducible repeat' (first | exact Tr.yes_h | refine Tr.and_h ?_ ?_ | refine Tr.imp_h fun _ => ?_ | refine Tr.all_h fun _ => ?_ | refine Tr.lf_h ?_))
    all_goals try (first | first | (show Region.lexB _ _ = true; kernel_rfl) | (show planned _ _ = true; kernel_rfl) | exact rfl | exact True.intro | ((try dsimp only [imp, C0, cG, cInt, cPl, cSlot, cPg, rwCodec, cRaw] at *); (try refine inR64 ?_ ?_) <;> (try simp only [List.length_set, List.length_append, List.length_take, List.length_drop]) <;> omega))
    exact alln4 _ _ _ _
  · rename_i b0 b1 v hv h3
    have hq := hv
    obtain ⟨v, k⟩ := v
    obtain ⟨e1, e2⟩ : v ≤ (l.take n).length ∧ k = (okH h && okBs (l.take n) v) := hq
    have h3 : v < n := Int.ofNat_lt.1 (of_decide_eq_true h3)
    exact on_of h1.2.2 (Nat.lt_of_le_of_lt (Nat.zero_le _) h3)
  · rename_i b0 b1 v hv h3
    have hq := hv
    obtain ⟨v, k⟩ := v
    obtain ⟨e1, e2⟩ : v ≤ (l.take n).length ∧ k = (okH h && okBs (l.take n) v) := hq
    have h3 : v < n := Int.ofNat_lt.1 (of_decide_eq_true h3)
    exact on_of h1.2.2 (Nat.lt_of_le_of_lt (Nat.zero_le _) h3)
  · exact ⟨Nat.le_refl _, by decide, fun h => Bool.noConfusion h⟩
  · rename_i b0 b1 v hv h3 b2 hk b3 hg h5
    have hq := hv
    obtain ⟨v, k⟩ := v
    obtain ⟨e1, e2⟩ : v ≤ (l.take n).length ∧ k = (okH h && okBs (l.take n) v) := hq
    have h3 : v < n := Int.ofNat_lt.1 (of_decide_eq_true h3)
    exact on_of h1.2.2 (Nat.lt_of_le_of_lt (Nat.zero_le _) h3)
  · rename_i b0 b1 v hv h3 b2 hk b3 hg h5
    have hq := hv
    obtain ⟨v, k⟩ := v
    obtain ⟨e1, e2⟩ : v ≤ (l.take n).length ∧ k = (okH h && okBs (l.take n) v) := hq
    have h3 : v < n := Int.ofNat_lt.1 (of_decide_eq_true h3)
    exact on_of h1.2.2 (Nat.lt_of_le_of_lt (Nat.zero_le _) h3)
  · rename_i b0 b1 v hv h3 b2 hk b3
    have hq := hv
    obtain ⟨v, k⟩ := v
    obtain ⟨e1, e2⟩ : v ≤ (l.take n).length ∧ k = (okH h && okBs (l.take n) v) := hq
    have h3 : v < n := Int.ofNat_lt.1 (of_decide_eq_true h3)
    refine Stands.one (v + 1, okB k v (l.getD (v - 1) (0, 0)) (l.getD v (0, 0))) ⟨⟨by rw [tk_len hnl]; omega, ?_⟩, ?_, ?_⟩
    · show okB _ _ _ _ = (okH h && okBs (l.take n) (v + 1))
      rw [okBs, tk_at (by omega), tk_at (by omega), e2]
      unfold okB
      simp only [Bool.and_assoc]
    · show (l.take n).length - (v + 1) < (l.take n).length - v
      rw [tk_len hnl]; omega
    ((conv => (arg 1; reduce)); with_reducible repeat' (first | exact Tr.yes_h | refine Tr.and_h ?_ ?_ | refine Tr.imp_h fun _ => ?_ | refine Tr.all_h fun _ => ?_ | refine Tr.lf_h ?_))
    all_goals try (first | first | (show Region.lexB _ _ = true; kernel_rfl) | (show planned _ _ = true; kernel_rfl) | exact rfl | exact True.intro | ((try dsimp only [imp, C0, cG, cInt, cPl, cSlot, cPg, rwCodec, cRaw] at *); (try refine inR64 ?_ ?_) <;> (try simp only [List.length_set, List.length_append, List.length_take, List.length_drop]) <;> omega))
    have hk : k = true := hk
    show (alln [(l.getD v (0, 0)).1, (l.getD v (0, 0)).2] && decide ((l.getD v (0, 0)).1 < 64) && (decide ((v : Int) = 0) || decide ((l.getD (((v : Int) - 1).toNat + 0) (0, 0)).1 < (l.getD v (0, 0)).1))) = okB k v _ _
    rw [alln2, hk, pred_nat, int_zero]
    unfold okB
    simp only [Bool.true_and]
  · rename_i b0 b1 v hv h3 b2 hk
    have hq := hv
    obtain ⟨v, k⟩ := v
    obtain ⟨e1, e2⟩ : v ≤ (l.take n).length ∧ k = (okH h && okBs (l.take n) v) := hq
    have h3 : v < n := Int.ofNat_lt.1 (of_decide_eq_true h3)
    refine Stands.one (v + 1, okB k v (l.getD (v - 1) (0, 0)) (l.getD v (0, 0))) ⟨⟨by rw [tk_len hnl]; omega, ?_⟩, ?_, ?_⟩
    · show okB _ _ _ _ = (okH h && okBs (l.take n) (v + 1))
      rw [okBs, tk_at (by omega), tk_at (by omega), e2]
      unfold okB
      simp only [Bool.and_assoc]
    · show (l.take n).length - (v + 1) < (l.take n).length - v
      rw [tk_len hnl]; omega
    ((conv => (arg 1; reduce)); with_reducible repeat' (first | exact Tr.yes_h | refine Tr.and_h ?_ ?_ | refine Tr.imp_h fun _ => ?_ | refine Tr.all_h fun _ => ?_ | refine Tr.lf_h ?_))
    all_goals try (first | first | (show Region.lexB _ _ = true; kernel_rfl) | (show planned _ _ = true; kernel_rfl) | exact rfl | exact True.intro | ((try dsimp only [imp, C0, cG, cInt, cPl, cSlot, cPg, rwCodec, cRaw] at *); (try refine inR64 ?_ ?_) <;> (try simp only [List.length_set, List.length_append, List.length_take, List.length_drop]) <;> omega))
    have hk : k = false := hk
    show false = okB k v _ _
    rw [hk]; unfold okB; rfl
  · rename_i b0 b1 v hv h3
    obtain ⟨v, k⟩ := v
    obtain ⟨e1, e2⟩ : v ≤ (l.take n).length ∧ k = (okH h && okBs (l.take n) v) := hv
    have h3 : ¬ v < n := fun h => of_decide_eq_false h3 (Int.ofNat_lt.2 h)
    obtain rfl : v = n := by rw [tk_len hnl] at e1; omega
    refine Stands.one (0, k) ⟨⟨Nat.zero_le _, by rw [tk_len hnl]; exact e2⟩, ?_⟩
    ((conv => (arg 1; reduce)); with_reducible repeat' (first | exact Tr.yes_h | refine Tr.and_h ?_ ?_ | refine Tr.imp_h fun _ => ?_ | refine Tr.all_h fun _ => ?_ | refine Tr.lf_h ?_))
    all_goals (first | first | (show Region.lexB _ _ = true; kernel_rfl) | (show planned _ _ = true; kernel_rfl) | exact rfl | exact True.intro | ((try dsimp only [imp, C0, cG, cInt, cPl, cSlot, cPg, rwCodec, cRaw] at *); (try refine inR64 ?_ ?_) <;> (try simp only [List.length_set, List.length_append, List.length_take, List.length_drop]) <;> omega))
  · rename_i b0 b1 v hv h3 w hw h4
    have hq := hw
    obtain ⟨w, k⟩ := w
    obtain ⟨e1, e2⟩ : w ≤ (l2.take n2).length ∧ k = okSs (l.take n) (okH h && okBs (l.take n) (l.take n).length) (l2.take n2) w := hq
    have h4 : w < n2 := Int.ofNat_lt.1 (of_decide_eq_true h4)
    exact on_of h2.2.2 (Nat.lt_of_le_of_lt (Nat.zero_le _) h4)
  · rename_i b0 b1 v hv h3 w hw h4
    have hq := hw
    obtain ⟨w, k⟩ := w
    obtain ⟨e1, e2⟩ : w ≤ (l2.take n2).length ∧ k = okSs (l.take n) (okH h && okBs (l.take n) (l.take n).length) (l2.take n2) w := hq
    have h4 : w < n2 := Int.ofNat_lt.1 (of_decide_eq_true h4)
    exact on_of h2.2.2 (Nat.lt_of_le_of_lt (Nat.zero_le _) h4)
  · rename_i b0 b1 v hv h3 w hw h4 b2
    have hq := hw
    obtain ⟨w, k⟩ := w
    obtain ⟨e1, e2⟩ : w ≤ (l2.take n2).length ∧ k = okSs (l.take n) (okH h && okBs (l.take n) (l.take n).length) (l2.take n2) w := hq
    have h4 : w < n2 := Int.ofNat_lt.1 (of_decide_eq_true h4)
    exact ⟨by show 0 + n ≤ l.length; omega, by show n < _; omega, h1.2.2⟩
  · exact ⟨Nat.le_refl _, by decide, fun h => Bool.noConfusion h⟩
  · rename_i b0 b1 v hv h3 w hw h4 b2 hk b3 hg h5
    have hq := hw
    obtain ⟨w, k⟩ := w
    obtain ⟨e1, e2⟩ : w ≤ (l2.take n2).length ∧ k = okSs (l.take n) (okH h && okBs (l.take n) (l.take n).length) (l2.take n2) w := hq
    have h4 : w < n2 := Int.ofNat_lt.1 (of_decide_eq_true h4)
    exact on_of h2.2.2 (Nat.lt_of_le_of_lt (Nat.zero_le _) h4)
  · rename_i b0 b1 v hv h3 w hw h4 b2 hk b3 hg h5
    have hq := hw
    obtain ⟨w, k⟩ := w
    obtain ⟨e1, e2⟩ : w ≤ (l2.take n2).length ∧ k = okSs (l.take n) (okH h && okBs (l.take n) (l.take n).length) (l2.take n2) w := hq
    have h4 : w < n2 := Int.ofNat_lt.1 (of_decide_eq_true h4)
    exact on_of h2.2.2 (Nat.lt_of_le_of_lt (Nat.zero_le _) h4)
  · rename_i b0 b1 v hv h3 w hw h4 b2 hk b3
    have hq := hw
    obtain ⟨w, k⟩ := w
    obtain ⟨e1, e2⟩ : w ≤ (l2.take n2).length ∧ k = okSs (l.take n) (okH h && okBs (l.take n) (l.take n).length) (l2.take n2) w := hq
    have h4 : w < n2 := Int.ofNat_lt.1 (of_decide_eq_true h4)
    refine Stands.one (w + 1, okS (l.take n) k w (l2.getD (w - 1) slot0) (l2.getD w slot0)) ⟨⟨by rw [tk_len hnl2]; omega, ?_⟩, ?_, ?_⟩
    · show okS _ _ _ _ _ = okSs _ _ _ (w + 1)
      rw [okSs, tk_at (by omega), tk_at (by omega), e2]
    · show (l2.take n2).length - (w + 1) < (l2.take n2).length - w
      rw [tk_len hnl2]; omega
    ((conv => (arg 1; reduce)); with_reducible repeat' (first | exact Tr.yes_h | refine Tr.and_h ?_ ?_ | refine Tr.imp_h fun _ => ?_ | refine Tr.all_h fun _ => ?_ | refine Tr.lf_h ?_))
    all_goals try (first | first | (show Region.lexB _ _ = true; kernel_rfl) | (show planned _ _ = true; kernel_rfl) | exact rfl | exact True.intro | ((try dsimp only [imp, C0, cG, cInt, cPl, cSlot, cPg, rwCodec, cRaw] at *); (try refine inR64 ?_ ?_) <;> (try simp only [List.length_set, List.length_append, List.length_take, List.length_drop]) <;> omega))
    have hk : (k && anyF (fun x => decide (x.1 = (l2.getD w slot0).pl.1)) (l.take n)) = true := hk
    show (alln [(l2.getD w slot0).key, (l2.getD w slot0).pl.2] && decide ((l2.getD w slot0).pl.2 < 64) && okMe (l2.getD w slot0).me && (decide ((w : Int) = 0) ||
      (decide ((l2.getD (((w : Int) - 1).toNat + 0) slot0).pl.1 < (l2.getD w slot0).pl.1) || (decide ((l2.getD (((w : Int) - 1).toNat + 0) slot0).pl.1 = (l2.getD w slot0).pl.1) && decide ((l2.getD (((w : Int) - 1).toNat + 0) slot0).pl.2 < (l2.getD w slot0).pl.2))))) = okS (l.take n) k w _ _
    rw [alln2, pred_nat, int_zero]
    unfold okS
    rw [hk]
    simp only [Bool.true_and]
  · rename_i b0 b1 v hv h3 w hw h4 b2 hk
    have hq := hw
    obtain ⟨w, k⟩ := w
    obtain ⟨e1, e2⟩ : w ≤ (l2.take n2).length ∧ k = okSs (l.take n) (okH h && okBs (l.take n) (l.take n).length) (l2.take n2) w := hq
    have h4 : w < n2 := Int.ofNat_lt.1 (of_decide_eq_true h4)
    refine Stands.one (w + 1, okS (l.take n) k w (l2.getD (w - 1) slot0) (l2.getD w slot0)) ⟨⟨by rw [tk_len hnl2]; omega, ?_⟩, ?_, ?_⟩
    · show okS _ _ _ _ _ = okSs _ _ _ (w + 1)
      rw [okSs, tk_at (by omega), tk_at (by omega), e2]
    · show (l2.take n2).length - (w + 1) < (l2.take n2).length - w
      rw [tk_len hnl2]; omega
    ((conv => (arg 1; reduce)); with_reducible repeat' (first | exact Tr.yes_h | refine Tr.and_h ?_ ?_ | refine Tr.imp_h fun _ => ?_ | refine Tr.all_h fun _ => ?_ | refine Tr.lf_h ?_))
    all_goals try (first | first | (show Region.lexB _ _ = true; kernel_rfl) | (show planned _ _ = true; kernel_rfl) | exact rfl | exact True.intro | ((try dsimp only [imp, C0, cG, cInt, cPl, cSlot, cPg, rwCodec, cRaw] at *); (try refine inR64 ?_ ?_) <;> (try simp only [List.length_set, List.length_append, List.length_take, List.length_drop]) <;> omega))
    have hk : (k && anyF (fun x => decide (x.1 = (l2.getD w slot0).pl.1)) (l.take n)) = false := hk
    show false = okS (l.take n) k w _ _
    unfold okS
    rw [hk]
    rfl
  · rename_i b0 b1 v hv h3 w hw h4
    obtain ⟨w, k⟩ := w
    obtain ⟨e1, e2⟩ : w ≤ (l2.take n2).length ∧ k = okSs (l.take n) (okH h && okBs (l.take n) (l.take n).length) (l2.take n2) w := hw
    have h4 : ¬ w < n2 := fun h => of_decide_eq_false h4 (Int.ofNat_lt.2 h)
    obtain rfl : w = n2 := by rw [tk_len hnl2] at e1; omega
    show k = okP _ _ _
    unfold okP
    rw [e2, tk_len hnl2]
def pcPmay : Pc Tryd.prog C0 where
  tg := .fn 13
  X := Hd × Sq Pl × Sq Slot
  args := fun (h, (o, b, q, l, n, c), (o2, b2, q2, l2, n2, c2)) => [ptv h (.sl 0 0 n c) (.sl 1 0 n2 c2)]
  mem := fun (h, (o, b, q, l, n, c), (o2, b2, q2, l2, n2, c2)) => [⟨b, q, 2, false, some o, .rows 87 l⟩, ⟨b2, q2, 9, false, some o2, .rows 88 l2⟩]
  pre := fun (h, (o, b, q, l, n, c), (o2, b2, q2, l2, n2, c2)) => Sq.ok (o, b, q, l, n, c) ∧ Sq.ok (o2, b2, q2, l2, n2, c2) ∧ n ≤ 1000000 ∧ n2 ≤ 1000000
  res := fun (h, (o, b, q, l, n, c), (o2, b2, q2, l2, n2, c2)) => .bool (.tm (okP h (l.take n) (l2.take n2)))
  mat vs m := match vs with
    | [.agg [.int _ h1, .int _ h2, .int _ h3, .int _ h4, sa, sb]] => match sa, sb with
      | .sl a 0 n c, .sl a' 0 n' c' => match nth m a, nth m a' with
        | ⟨b, q, _, _, g, .rows 87 l⟩, ⟨b', q', _, _, g', .rows 88 l'⟩ => some (((h1, h2, h3, h4), (onOf g, b, q, l, n, c), (onOf g', b', q', l', n', c')), [a, a'])
        | _, _ => none
      | .nils, .nils => some (((h1, h2, h3, h4), (false, 0, 0, [], 0, 0), (false, 0, 0, [], 0, 0)), [m.length, m.length + 1])
      | _, _ => none
    | _ => none
  ok := fun (h, (o, b, q, l, n, c), (o2, b2, q2, l2, n2, c2)) x => pmay_ok h o b q l n c o2 b2 q2 l2 n2 c2 x.1 x.2.1 x.2.2.1 x.2.2.2
end Go.Vx
set_option linter.unusedSectionVars false
set_option maxRecDepth 100000
set_option linter.unusedVariables false
set_option linter.unusedSimpArgs false
namespace Go.Vx
open Go Go.Proofs
variable [Gl]

/-- An error that is laid. -/
abbrev eV (g : Nat) : SV := .ifc 195 (.val (.pointer (some (Gl.A g))))
def slotN (s : Slot) : List Int := [s.key, s.pl.1, s.pl.2, s.me.kind, s.me.key, s.me.seq, s.me.stamp, s.me.batch, s.me.floor]
/-- A point's numbers. -/
@[irreducible] def nums (h : Hd) (A : List Pl) (B : List Slot) : List Int := [h.1, h.2.1, h.2.2.1, h.2.2.2, (A.length : Int)] ++ A.flatMap lst ++ [(B.length : Int)] ++ B.flatMap slotN
@[irreducible] def bytesP (h : Hd) (A : List Pl) (B : List Slot) : List Int := fours (nums h A B) ++ four (crc (fours (nums h A B)))
abbrev Wx := Nat × Nat × Bool × List Int × Nat
/-- What was written: the numbers N. -/
def Wr (N : List Int) (y : Wx) (k : Nat) : Prop := Gr (fours N) y.2.2.2.1 k y.2.2.2.2 ∧ (y.2.2.1 = false → k = 0 ∧ y.2.2.2.2 = 0)
theorem Wr.lay {N M : List Int} {y0 y : Wx} {k m : Nat} (h : Wr N y0 k) (hy : Gr (y0.2.2.2.1.take k ++ fours M) y.2.2.2.1 (k + 4 * m) y.2.2.2.2 ∧ (y.2.2.1 = false → k + 4 * m = 0 ∧ y.2.2.2.2 = 0)) : Wr (N ++ M) y (k + 4 * m) := by
  refine ⟨?_, hy.2⟩
  rw [fours_app, ← h.1.2.1]
  exact hy.1
theorem Wr.pre {N : List Int} {y : Wx} {k n len : Nat} (h : Wr N y k) (hn : 0 + n ≤ len) (hn2 : n < 35184372088700) (hk : k + 4 * n < 140737488355000) :
    0 + n ≤ len ∧ n < 35184372088700 ∧ k ≤ y.2.2.2.2 ∧ y.2.2.2.2 ≤ y.2.2.2.1.length ∧ k + 4 * n < 140737488355000 ∧ (y.2.2.1 = false → k = 0 ∧ y.2.2.2.2 = 0) :=
  ⟨hn, hn2, h.1.2.2.1, h.1.2.2.2, hk, h.2⟩
abbrev hdN (h : Hd) (n : Nat) : List Int := [h.1, h.2.1, h.2.2.1, h.2.2.2, (n : Int)]
def By6 (h : Hd) (A : List Pl) : Inv' C0 := ⟨6, Nat × Wx, fun x => [(34, .int .i64 (x.1 : Int))], fun x m => match m with
  | [a0, a1, bx, w, i, d, y] => [a0, a1, bx, ⟨w.block, w.base, 1, true, none, .one [.sl 6 0 (20 + 8 * x.1) x.2.2.2.2.2]⟩, i, d, ⟨x.2.1, x.2.2.1, 1, true, some x.2.2.2.1, .rows 5 x.2.2.2.2.1⟩]
  | m => m, fun x => x.1 ≤ A.length ∧ Wr (hdN h A.length ++ (A.take x.1).flatMap lst) x.2 (20 + 8 * x.1), fun x => A.length - x.1⟩
def By12 (h : Hd) (A : List Pl) (B : List Slot) : Inv' C0 := ⟨12, Nat × Wx, fun x => [(57, .int .i64 (x.1 : Int))], fun x m => match m with
  | [a0, a1, bx, w, i, d, e, i2, y] => [a0, a1, bx, ⟨w.block, w.base, 1, true, none, .one [.sl 8 0 (24 + 8 * A.length + 36 * x.1) x.2.2.2.2.2]⟩, i, d, e, i2, ⟨x.2.1, x.2.2.1, 1, true, some x.2.2.2.1, .rows 5 x.2.2.2.2.1⟩]
  | m => m, fun x => x.1 ≤ B.length ∧ Wr (hdN h A.length ++ A.flatMap lst ++ [(B.length : Int)] ++ (B.take x.1).flatMap slotN) x.2 (24 + 8 * A.length + 36 * x.1), fun x => B.length - x.1⟩
set_option maxHeartbeats 8000000 in
theorem bytes_ok (h : Hd) (o : Bool) (b q : Nat) (l : List Pl) (n c : Nat) (o2 : Bool) (b2 q2 : Nat) (l2 : List Slot) (n2 c2 : Nat)
    (h1 : Sq.ok (o, b, q, l, n, c)) (h2 : Sq.ok (o2, b2, q2, l2, n2, c2)) (hn : n ≤ 1000000) (hn2 : n2 ≤ 1000000) :
    Does (C := C0) Tryd.prog (.fn 10) [⟨b, q, 2, false, some o, .rows 87 l⟩, ⟨b2, q2, 9, false, some o2, .rows 88 l2⟩] [ptv h (.sl 0 0 n c) (.sl 1 0 n2 c2)]
    [⟨Unit, fun _ => okP h (l.take n) (l2.take n2) = false, fun _ => .tup [.nils, eV 0], fun _ => [⟨b, q, 2, false, some o, .rows 87 l⟩, ⟨b2, q2, 9, false, some o2, .rows 88 l2⟩]⟩,
     ⟨Nat × Nat × List Int × Nat, fun y => okP h (l.take n) (l2.take n2) = true ∧ Gr (bytesP h (l.take n) (l2.take n2)) y.2.2.1 (bytesP h (l.take n) (l2.take n2)).length y.2.2.2, fun y => .tup [.sl 2 0 (bytesP h (l.take n) (l2.take n2)).length y.2.2.2, .nili],
      fun y => [⟨b, q, 2, false, some o, .rows 87 l⟩, ⟨b2, q2, 9, false, some o2, .rows 88 l2⟩, ⟨y.1, y.2.1, 1, true, none, .rows 5 y.2.2.1⟩]⟩] := by
  have hnl : n ≤ l.length := h1.2.1
  have hnl2 : n2 ≤ l2.length := h2.2.1
  refine loc_fn (P := Tryd.prog) (E := ⟨[fcLay], [pcPmay, pcCrc], 101, [(2, [], [.p 1, .q 0, .p 2])], [], []⟩) (L := [By6 h (l.take n), By12 h (l.take n) (l2.take n2)]) mix Tryd.func10 rfl (by kernel_rfl) (by kernel_rfl) rfl rfl ?_
  ((conv => (arg 1; reduce)); with_reducible repeat' (first | exact Tr.yes_h | refine Tr.and_h ?_ ?_ | refine Tr.imp_h fun _ => ?_ | refine Tr.all_h fun _ => ?_ | refine Tr.lf_h ?_))
  all_goals try (first | first | (show Region.lexB _ _ = true; kernel_rfl) | (show planned _ _ = true; kernel_rfl) | exact rfl | exact True.intro | ((try dsimp only [imp, C0, cG, cInt, cPl, cSlot, cPg, rwCodec, cRaw] at *); (try refine inR64 ?_ ?_) <;> (try simp only [List.length_set, List.length_append, List.length_take, List.length_drop]) <;> omega))
  · exact ⟨h1, h2, hn, hn2⟩
  · rename_i b0 h0
    have h0 : (!okP h (l.take n) (l2.take n2)) = true := h0
    refine Ends.one () (show okP h (l.take n) (l2.take n2) = false by simpa using h0) ?_
    ((conv => (arg 1; reduce)); with_reducible repeat' (first | exact Tr.yes_h | refine Tr.and_h ?_ ?_ | refine Tr.imp_h fun _ => ?_ | refine Tr.all_h fun _ => ?_ | refine Tr.lf_h ?_))
    all_goals (first | first | (show Region.lexB _ _ = true; kernel_rfl) | (show planned _ _ = true; kernel_rfl) | exact rfl | exact True.intro | ((try dsimp only [imp, C0, cG, cInt, cPl, cSlot, cPg, rwCodec, cRaw] at *); (try refine inR64 ?_ ?_) <;> (try simp only [List.length_set, List.length_append, List.length_take, List.length_drop]) <;> omega))
  · exact ⟨Nat.le_refl 5, by decide, Nat.le_refl 0, Nat.le_refl 0, by decide, fun _ => ⟨rfl, rfl⟩⟩
  · rename_i b0 h0 bw bi y hy
    refine Stands.one (0, y) ⟨⟨Nat.zero_le _, ?_⟩, ?_⟩
    · have e := Wr.lay (N := []) (y0 := (0, 0, false, [], 0)) (k := 0) ⟨⟨by rw [fours_nil]; rfl, by rw [fours_nil]; rfl, Nat.le_refl _, Nat.le_refl _⟩, fun _ => ⟨rfl, rfl⟩⟩ hy
      rw [tk_len hnl]
      exact e
    ((conv => (arg 1; reduce)); with_reducible repeat' (first | exact Tr.yes_h | refine Tr.and_h ?_ ?_ | refine Tr.imp_h fun _ => ?_ | refine Tr.all_h fun _ => ?_ | refine Tr.lf_h ?_))
    all_goals (first | first | (show Region.lexB _ _ = true; kernel_rfl) | (show planned _ _ = true; kernel_rfl) | exact rfl | exact True.intro | ((try dsimp only [imp, C0, cG, cInt, cPl, cSlot, cPg, rwCodec, cRaw] at *); (try refine inR64 ?_ ?_) <;> (try simp only [List.length_set, List.length_append, List.length_take, List.length_drop]) <;> omega))
  · rename_i b0 h0 bw bi y hy v hv h3
    obtain ⟨v, y6⟩ := v
    obtain ⟨e1, e2⟩ : v ≤ (l.take n).length ∧ Wr (hdN h (l.take n).length ++ ((l.take n).take v).flatMap lst) y6 (20 + 8 * v) := hv
    have h3 : v < n := Int.ofNat_lt.1 (of_decide_eq_true h3)
    exact on_of h1.2.2 (Nat.lt_of_le_of_lt (Nat.zero_le _) h3)
  · rename_i b0 h0 bw bi y hy v hv h3
    obtain ⟨v, y6⟩ := v
    obtain ⟨e1, e2⟩ : v ≤ (l.take n).length ∧ Wr (hdN h (l.take n).length ++ ((l.take n).take v).flatMap lst) y6 (20 + 8 * v) := hv
    have h3 : v < n := Int.ofNat_lt.1 (of_decide_eq_true h3)
    exact Int.ofNat_lt.2 h3
  · rename_i b0 h0 bw bi y hy v hv h3
    obtain ⟨v, y6⟩ := v
    obtain ⟨e1, e2⟩ : v ≤ (l.take n).length ∧ Wr (hdN h (l.take n).length ++ ((l.take n).take v).flatMap lst) y6 (20 + 8 * v) := hv
    have h3 : v < n := Int.ofNat_lt.1 (of_decide_eq_true h3)
    exact on_of h1.2.2 (Nat.lt_of_le_of_lt (Nat.zero_le _) h3)
  · rename_i b0 h0 bw bi y hy v hv h3
    obtain ⟨v, y6⟩ := v
    obtain ⟨e1, e2⟩ : v ≤ (l.take n).length ∧ Wr (hdN h (l.take n).length ++ ((l.take n).take v).flatMap lst) y6 (20 + 8 * v) := hv
    have h3 : v < n := Int.ofNat_lt.1 (of_decide_eq_true h3)
    show (v : Int).toNat + 0 < l.length
    omega
  · rename_i b0 h0 bw bi y hy v hv h3 b3 b4
    obtain ⟨v, y6⟩ := v
    obtain ⟨e1, e2⟩ : v ≤ (l.take n).length ∧ Wr (hdN h (l.take n).length ++ ((l.take n).take v).flatMap lst) y6 (20 + 8 * v) := hv
    have h3 : v < n := Int.ofNat_lt.1 (of_decide_eq_true h3)
    exact e2.pre (Nat.le_refl 2) (by decide) (by omega)
  · rename_i b0 h0 bw bi y hy v hv h3 b3 b4 z hz
    obtain ⟨v, y6⟩ := v
    obtain ⟨e1, e2⟩ : v ≤ (l.take n).length ∧ Wr (hdN h (l.take n).length ++ ((l.take n).take v).flatMap lst) y6 (20 + 8 * v) := hv
    have h3 : v < n := Int.ofNat_lt.1 (of_decide_eq_true h3)
    exact inR64 (by show _ ≤ (v : Int) + 1; omega) (by show (v : Int) + 1 ≤ _; omega)
  · rename_i b0 h0 bw bi y hy v hv h3 b3 b4 z hz
    obtain ⟨v, y6⟩ := v
    obtain ⟨e1, e2⟩ : v ≤ (l.take n).length ∧ Wr (hdN h (l.take n).length ++ ((l.take n).take v).flatMap lst) y6 (20 + 8 * v) := hv
    have h3 : v < n := Int.ofNat_lt.1 (of_decide_eq_true h3)
    have e3 := e2.lay (M := lst (l.getD v (0, 0))) hz
    refine Stands.one (v + 1, z) ⟨⟨by rw [tk_len hnl]; omega, ?_⟩, ?_, ?_⟩
    · show Wr (_ ++ ((l.take n).take (v + 1)).flatMap lst) z (20 + 8 * (v + 1))
      rw [take_snoc (d := (0, 0)) (by rw [tk_len hnl]; exact h3), tk_at h3, List.flatMap_append, List.flatMap_singleton, ← List.append_assoc]
      exact e3
    · show (l.take n).length - (v + 1) < (l.take n).length - v
      rw [tk_len hnl]; omega
    ((conv => (arg 1; reduce)); with_reducible repeat' (first | exact Tr.yes_h | refine Tr.and_h ?_ ?_ | refine Tr.imp_h fun _ => ?_ | refine Tr.all_h fun _ => ?_ | refine Tr.lf_h ?_))
    all_goals (first | first | (show Region.lexB _ _ = true; kernel_rfl) | (show planned _ _ = true; kernel_rfl) | exact rfl | exact True.intro | ((try dsimp only [imp, C0, cG, cInt, cPl, cSlot, cPg, rwCodec, cRaw] at *); (try refine inR64 ?_ ?_) <;> (try simp only [List.length_set, List.length_append, List.length_take, List.length_drop]) <;> omega))
  · rename_i b0 h0 bw bi y hy v hv h3 b3
    obtain ⟨v, y6⟩ := v
    obtain ⟨e1, e2⟩ : v ≤ (l.take n).length ∧ Wr (hdN h (l.take n).length ++ ((l.take n).take v).flatMap lst) y6 (20 + 8 * v) := hv
    have h3 : ¬ v < n := fun h => of_decide_eq_false h3 (Int.ofNat_lt.2 h)
    obtain rfl : v = n := by rw [tk_len hnl] at e1; omega
    rw [List.take_of_length_le (l := l.take v) (by rw [tk_len hnl]; exact Nat.le_refl _)] at e2
    exact e2.pre (Nat.le_refl 1) (by decide) (by omega)
  · rename_i b0 h0 bw bi y hy v hv h3 b3 z hz
    obtain ⟨v, y6⟩ := v
    obtain ⟨e1, e2⟩ : v ≤ (l.take n).length ∧ Wr (hdN h (l.take n).length ++ ((l.take n).take v).flatMap lst) y6 (20 + 8 * v) := hv
    have h3 : ¬ v < n := fun h => of_decide_eq_false h3 (Int.ofNat_lt.2 h)
    obtain rfl : v = n := by rw [tk_len hnl] at e1; omega
    rw [List.take_of_length_le (l := l.take v) (by rw [tk_len hnl]; exact Nat.le_refl _)] at e2
    have e3 := e2.lay (M := [(n2 : Int)]) hz
    refine Stands.one (0, z) ⟨⟨Nat.zero_le _, ?_⟩, ?_⟩
    · show Wr (_ ++ [((l2.take n2).length : Int)] ++ []) z (24 + 8 * (l.take v).length + 36 * 0)
      rw [tk_len hnl2, tk_len hnl, List.append_nil, show 24 + 8 * v + 36 * 0 = 20 + 8 * v + 4 * 1 by omega]
      rw [tk_len hnl] at e3
      exact e3
    ((conv => (arg 1; reduce)); with_reducible repeat' (first | exact Tr.yes_h | refine Tr.and_h ?_ ?_ | refine Tr.imp_h fun _ => ?_ | refine Tr.all_h fun _ => ?_ | refine Tr.lf_h ?_))
    all_goals (first | first | (show Region.lexB _ _ = true; kernel_rfl) | (show planned _ _ = true; kernel_rfl) | exact rfl | exact True.intro | ((try dsimp only [imp, C0, cG, cInt, cPl, cSlot, cPg, rwCodec, cRaw] at *); (try refine inR64 ?_ ?_) <;> (try simp only [List.length_set, List.length_append, List.length_take, List.length_drop]) <;> omega))
  · rename_i b0 h0 bw bi y hy v hv h3 b3 z hz w hw h4
    obtain ⟨w, y9⟩ := w
    obtain ⟨e1, e2⟩ : w ≤ (l2.take n2).length ∧ Wr (hdN h (l.take n).length ++ (l.take n).flatMap lst ++ [((l2.take n2).length : Int)] ++ ((l2.take n2).take w).flatMap slotN) y9 (24 + 8 * (l.take n).length + 36 * w) := hw
    have hnn := tk_len hnl
    have h4 : w < n2 := Int.ofNat_lt.1 (of_decide_eq_true h4)
    exact on_of h2.2.2 (Nat.lt_of_le_of_lt (Nat.zero_le _) h4)
  · rename_i b0 h0 bw bi y hy v hv h3 b3 z hz w hw h4
    obtain ⟨w, y9⟩ := w
    obtain ⟨e1, e2⟩ : w ≤ (l2.take n2).length ∧ Wr (hdN h (l.take n).length ++ (l.take n).flatMap lst ++ [((l2.take n2).length : Int)] ++ ((l2.take n2).take w).flatMap slotN) y9 (24 + 8 * (l.take n).length + 36 * w) := hw
    have hnn := tk_len hnl
    have h4 : w < n2 := Int.ofNat_lt.1 (of_decide_eq_true h4)
    exact Int.ofNat_lt.2 h4
  · rename_i b0 h0 bw bi y hy v hv h3 b3 z hz w hw h4
    obtain ⟨w, y9⟩ := w
    obtain ⟨e1, e2⟩ : w ≤ (l2.take n2).length ∧ Wr (hdN h (l.take n).length ++ (l.take n).flatMap lst ++ [((l2.take n2).length : Int)] ++ ((l2.take n2).take w).flatMap slotN) y9 (24 + 8 * (l.take n).length + 36 * w) := hw
    have hnn := tk_len hnl
    have h4 : w < n2 := Int.ofNat_lt.1 (of_decide_eq_true h4)
    exact on_of h2.2.2 (Nat.lt_of_le_of_lt (Nat.zero_le _) h4)
  · rename_i b0 h0 bw bi y hy v hv h3 b3 z hz w hw h4
    obtain ⟨w, y9⟩ := w
    obtain ⟨e1, e2⟩ : w ≤ (l2.take n2).length ∧ Wr (hdN h (l.take n).length ++ (l.take n).flatMap lst ++ [((l2.take n2).length : Int)] ++ ((l2.take n2).take w).flatMap slotN) y9 (24 + 8 * (l.take n).length + 36 * w) := hw
    have hnn := tk_len hnl
    have h4 : w < n2 := Int.ofNat_lt.1 (of_decide_eq_true h4)
    show (w : Int).toNat + 0 < l2.length
    omega
  · rename_i b0 h0 bw bi y hy v hv h3 b3 z hz w hw h4 b5 b6 b7
    obtain ⟨w, y9⟩ := w
    obtain ⟨e1, e2⟩ : w ≤ (l2.take n2).length ∧ Wr (hdN h (l.take n).length ++ (l.take n).flatMap lst ++ [((l2.take n2).length : Int)] ++ ((l2.take n2).take w).flatMap slotN) y9 (24 + 8 * (l.take n).length + 36 * w) := hw
    have hnn := tk_len hnl
    have h4 : w < n2 := Int.ofNat_lt.1 (of_decide_eq_true h4)
    exact e2.pre (Nat.le_refl 9) (by decide) (by omega)
  · rename_i b0 h0 bw bi y hy v hv h3 b3 z hz w hw h4 b5 b6 b7 x hx
    obtain ⟨w, y9⟩ := w
    obtain ⟨e1, e2⟩ : w ≤ (l2.take n2).length ∧ Wr (hdN h (l.take n).length ++ (l.take n).flatMap lst ++ [((l2.take n2).length : Int)] ++ ((l2.take n2).take w).flatMap slotN) y9 (24 + 8 * (l.take n).length + 36 * w) := hw
    have hnn := tk_len hnl
    have h4 : w < n2 := Int.ofNat_lt.1 (of_decide_eq_true h4)
    exact inR64 (by show _ ≤ (w : Int) + 1; omega) (by show (w : Int) + 1 ≤ _; omega)
  · rename_i b0 h0 bw bi y hy v hv h3 b3 z hz w hw h4 b5 b6 b7 x hx
    obtain ⟨w, y9⟩ := w
    obtain ⟨e1, e2⟩ : w ≤ (l2.take n2).length ∧ Wr (hdN h (l.take n).length ++ (l.take n).flatMap lst ++ [((l2.take n2).length : Int)] ++ ((l2.take n2).take w).flatMap slotN) y9 (24 + 8 * (l.take n).length + 36 * w) := hw
    have hnn := tk_len hnl
    have h4 : w < n2 := Int.ofNat_lt.1 (of_decide_eq_true h4)
    have e3 := e2.lay (M := slotN (l2.getD w slot0)) hx
    refine Stands.one (w + 1, x) ⟨⟨by rw [tk_len hnl2]; omega, ?_⟩, ?_, ?_⟩
    · show Wr (_ ++ ((l2.take n2).take (w + 1)).flatMap slotN) x (24 + 8 * (l.take n).length + 36 * (w + 1))
      rw [take_snoc (d := slot0) (by rw [tk_len hnl2]; exact h4), tk_at h4, List.flatMap_append, List.flatMap_singleton, ← List.append_assoc, show 24 + 8 * (l.take n).length + 36 * (w + 1) = 24 + 8 * (l.take n).length + 36 * w + 4 * 9 by omega]
      exact e3
    · show (l2.take n2).length - (w + 1) < (l2.take n2).length - w
      rw [tk_len hnl2]; omega
    ((conv => (arg 1; reduce)); with_reducible repeat' (first | exact Tr.yes_h | refine Tr.and_h ?_ ?_ | refine Tr.imp_h fun _ => ?_ | refine Tr.all_h fun _ => ?_ | refine Tr.lf_h ?_))
    all_goals (first | first | (show Region.lexB _ _ = true; kernel_rfl) | (show planned _ _ = true; kernel_rfl) | exact rfl | exact True.intro | ((try dsimp only [imp, C0, cG, cInt, cPl, cSlot, cPg, rwCodec, cRaw] at *); (try refine inR64 ?_ ?_) <;> (try simp only [List.length_set, List.length_append, List.length_take, List.length_drop]) <;> omega))
  · rename_i b0 h0 bw bi y hy v hv h3 b3 z hz w hw h4
    obtain ⟨w, y9⟩ := w
    obtain ⟨e1, e2⟩ : w ≤ (l2.take n2).length ∧ Wr (hdN h (l.take n).length ++ (l.take n).flatMap lst ++ [((l2.take n2).length : Int)] ++ ((l2.take n2).take w).flatMap slotN) y9 (24 + 8 * (l.take n).length + 36 * w) := hw
    have hnn := tk_len hnl
    have h4 : ¬ w < n2 := fun h => of_decide_eq_false h4 (Int.ofNat_lt.2 h)
    obtain rfl : w = n2 := by rw [tk_len hnl2] at e1; omega
    rw [List.take_of_length_le (l := l2.take w) (by rw [tk_len hnl2]; exact Nat.le_refl _)] at e2
    have e4 : Wr (nums h (l.take n) (l2.take w)) y9 (24 + 8 * (l.take n).length + 36 * w) := by unfold nums; exact e2
    have g := e4.1
    exact ⟨by show 0 + (24 + 8 * (l.take n).length + 36 * w) ≤ y9.2.2.2.1.length; have := g.2.2; omega, by show _ < (4611686018427387904 : Nat); omega, e4.2⟩
  · rename_i b0 h0 bw bi y hy v hv h3 b3 z hz w hw h4 b5
    obtain ⟨w, y9⟩ := w
    obtain ⟨e1, e2⟩ : w ≤ (l2.take n2).length ∧ Wr (hdN h (l.take n).length ++ (l.take n).flatMap lst ++ [((l2.take n2).length : Int)] ++ ((l2.take n2).take w).flatMap slotN) y9 (24 + 8 * (l.take n).length + 36 * w) := hw
    have hnn := tk_len hnl
    have h4 : ¬ w < n2 := fun h => of_decide_eq_false h4 (Int.ofNat_lt.2 h)
    obtain rfl : w = n2 := by rw [tk_len hnl2] at e1; omega
    rw [List.take_of_length_le (l := l2.take w) (by rw [tk_len hnl2]; exact Nat.le_refl _)] at e2
    have e4 : Wr (nums h (l.take n) (l2.take w)) y9 (24 + 8 * (l.take n).length + 36 * w) := by unfold nums; exact e2
    exact e4.pre (Nat.le_refl 1) (by decide) (by omega)
  · rename_i b0 h0 bw bi y hy v hv h3 b3 z hz w hw h4 b5 x hx
    obtain ⟨w, y9⟩ := w
    obtain ⟨e1, e2⟩ : w ≤ (l2.take n2).length ∧ Wr (hdN h (l.take n).length ++ (l.take n).flatMap lst ++ [((l2.take n2).length : Int)] ++ ((l2.take n2).take w).flatMap slotN) y9 (24 + 8 * (l.take n).length + 36 * w) := hw
    have hnn := tk_len hnl
    have h4 : ¬ w < n2 := fun h => of_decide_eq_false h4 (Int.ofNat_lt.2 h)
    obtain rfl : w = n2 := by rw [tk_len hnl2] at e1; omega
    rw [List.take_of_length_le (l := l2.take w) (by rw [tk_len hnl2]; exact Nat.le_refl _)] at e2
    have e4 : Wr (nums h (l.take n) (l2.take w)) y9 (24 + 8 * (l.take n).length + 36 * w) := by unfold nums; exact e2
    have hc := e4.1
    obtain ⟨hx1, hx2⟩ := hx
    have hx1 : Gr (y9.2.2.2.1.take (24 + 8 * (l.take n).length + 36 * w) ++ fours [crc (y9.2.2.2.1.take (24 + 8 * (l.take n).length + 36 * w))]) x.2.2.2.1 (24 + 8 * (l.take n).length + 36 * w + 4 * 1) x.2.2.2.2 := hx1
    rw [fours_one, hc.2.1] at hx1
    have hx1 : Gr (bytesP h (l.take n) (l2.take w)) x.2.2.2.1 (24 + 8 * (l.take n).length + 36 * w + 4 * 1) x.2.2.2.2 := by unfold bytesP; exact hx1
    have hlen := hx1.1
    rw [hlen] at hx1
    refine Ends.next (Ends.one (x.1, x.2.1, x.2.2.2.1, x.2.2.2.2) ⟨by simpa using h0, hx1⟩ ?_)
    ((conv => (arg 1; reduce)); with_reducible repeat' (first | exact Tr.yes_h | refine Tr.and_h ?_ ?_ | refine Tr.imp_h fun _ => ?_ | refine Tr.all_h fun _ => ?_ | refine Tr.lf_h ?_))
    all_goals try (first | first | (show Region.lexB _ _ = true; kernel_rfl) | (show planned _ _ = true; kernel_rfl) | exact rfl | exact True.intro | ((try dsimp only [imp, C0, cG, cInt, cPl, cSlot, cPg, rwCodec, cRaw] at *); (try refine inR64 ?_ ?_) <;> (try simp only [List.length_set, List.length_append, List.length_take, List.length_drop]) <;> omega))
    cases hx3 : x.2.2.1 with
    | true => rfl
    | false => exact absurd (hx2 hx3).1 (by omega)
def fcBytes : Fc Tryd.prog C0 where
  tg := .fn 10
  X := Hd × Sq Pl × Sq Slot
  args := fun (h, (o, b, q, l, n, c), (o2, b2, q2, l2, n2, c2)) => [ptv h (.sl 0 0 n c) (.sl 1 0 n2 c2)]
  mem := fun (h, (o, b, q, l, n, c), (o2, b2, q2, l2, n2, c2)) => [⟨b, q, 2, false, some o, .rows 87 l⟩, ⟨b2, q2, 9, false, some o2, .rows 88 l2⟩]
  pre := fun (h, (o, b, q, l, n, c), (o2, b2, q2, l2, n2, c2)) => Sq.ok (o, b, q, l, n, c) ∧ Sq.ok (o2, b2, q2, l2, n2, c2) ∧ n ≤ 1000000 ∧ n2 ≤ 1000000
  alts := fun (h, (o, b, q, l, n, c), (o2, b2, q2, l2, n2, c2)) => [⟨Unit, fun _ => okP h (l.take n) (l2.take n2) = false, fun _ => .tup [.nils, eV 0], fun _ => [⟨b, q, 2, false, some o, .rows 87 l⟩, ⟨b2, q2, 9, false, some o2, .rows 88 l2⟩]⟩,
     ⟨Nat × Nat × List Int × Nat, fun y => okP h (l.take n) (l2.take n2) = true ∧ Gr (bytesP h (l.take n) (l2.take n2)) y.2.2.1 (bytesP h (l.take n) (l2.take n2)).length y.2.2.2, fun y => .tup [.sl 2 0 (bytesP h (l.take n) (l2.take n2)).length y.2.2.2, .nili],
      fun y => [⟨b, q, 2, false, some o, .rows 87 l⟩, ⟨b2, q2, 9, false, some o2, .rows 88 l2⟩, ⟨y.1, y.2.1, 1, true, none, .rows 5 y.2.2.1⟩]⟩]
  mat vs m := match vs with
    | [.agg [.int _ h1, .int _ h2, .int _ h3, .int _ h4, sa, sb]] => match sa, sb with
      | .sl a 0 n c, .sl a' 0 n' c' => match nth m a, nth m a' with
        | ⟨b, q, _, _, g, .rows 87 l⟩, ⟨b', q', _, _, g', .rows 88 l'⟩ => some (((h1, h2, h3, h4), (onOf g, b, q, l, n, c), (onOf g', b', q', l', n', c')), [a, a'])
        | _, _ => none
      | .nils, .nils => some (((h1, h2, h3, h4), (false, 0, 0, [], 0, 0), (false, 0, 0, [], 0, 0)), [m.length, m.length + 1])
      | _, _ => none
    | _ => none
  ok := fun (h, (o, b, q, l, n, c), (o2, b2, q2, l2, n2, c2)) x => bytes_ok h o b q l n c o2 b2 q2 l2 n2 c2 x.1 x.2.1 x.2.2.1 x.2.2.2
end Go.Vx
set_option linter.unusedSectionVars false
set_option maxRecDepth 100000
set_option linter.unusedVariables false
set_option linter.unusedSimpArgs false
namespace Go.Vx
open Go Go.Proofs
variable [Gl]

theorem by26 : Tryd.prog.types[26].bytes = 24 := by kernel_rfl
/-- The k-th piece of bytes B, of s bytes each, numbered n. -/
@[irreducible] def piece (B : List Int) (s : Nat) (n : Int) (k : Nat) : List Int :=
  fours [n, (k : Int), (B.length : Int)] ++ ((B.drop (k * (s - 12))).take (s - 12) ++ List.replicate (s - 12 - ((B.drop (k * (s - 12))).take (s - 12)).length) 0)
theorem piece_len {B : List Int} {s : Nat} {n : Int} {k : Nat} (h : 12 ≤ s) : (piece B s n k).length = s := by
  unfold piece
  rw [List.length_append, fours_len, List.length_append, List.length_replicate, List.length_take, List.length_drop]
  simp only [List.length_cons, List.length_nil]
  omega
/-- How many there are. -/
def pcN (len s : Nat) : Nat := max 1 ((len + (s - 12) - 1) / (s - 12))
theorem pcN_lt {len s k : Nat} (hs : 12 < s) : k < pcN len s ↔ k = 0 ∨ k * (s - 12) < len := by
  unfold pcN
  have hm : ∀ a : Nat, k < max 1 a ↔ k = 0 ∨ k < a := by intro a; omega
  rw [hm]
  have : k < (len + (s - 12) - 1) / (s - 12) ↔ k * (s - 12) < len := by
    rw [show (k < (len + (s - 12) - 1) / (s - 12)) ↔ (k + 1 ≤ (len + (s - 12) - 1) / (s - 12)) from Iff.rfl, Nat.le_div_iff_mul_le (by omega), Nat.add_mul, Nat.one_mul]
    omega
  rw [this]
theorem pcN_le {len s : Nat} (hs : 12 < s) (h : len ≤ 64 * (s - 12)) : pcN len s ≤ 64 := by
  rcases Nat.lt_or_ge 64 (pcN len s) with h1 | h1
  · rcases (pcN_lt (len := len) hs).1 h1 with h | h <;> omega
  · exact h1
theorem pcN_pos (len s : Nat) : 1 ≤ pcN len s := by unfold pcN; exact Nat.le_max_left ..
/-- Rows that are these pieces. -/
def Prs (B : List Int) (s : Nat) (n : Int) (vl : List (Rw Int)) (k : Nat) : Prop := (vl.take k).map (·.l) = (List.range k).map (piece B s n) ∧ ∀ r ∈ vl.take k, Rok r
def Pi9 (B : List Int) (s : Nat) (n : Int) : Inv' C0 := ⟨9, Gx (Rw Int), fun x => [(9, .int .i64 ((x.1 * (s - 12) : Nat) : Int)), (8, .sl 2 0 x.1 x.2.2.2.2.2)], fun x m => match m with
  | [a, rs] => [a, rs, ⟨x.2.2.1, x.2.2.2.1, 1, true, some x.2.1, .rows 26 x.2.2.2.2.1⟩]
  | m => m, fun x => x.1 ≤ pcN B.length s ∧ Grw (x.2.2.2.2.1.take x.1) x.2.2.2.2.1 x.2.1 x.1 x.2.2.2.2.2 ∧ Prs B s n x.2.2.2.2.1 x.1, fun x => pcN B.length s - x.1⟩
theorem alln1 (n : Int) : alln [n] = cn n := by unfold alln; simp
theorem piS0 {s : Int} (h : (decide (s < 16) || decide (1024 < s)) = false) : 16 ≤ s ∧ s ≤ 1024 := by
  simp only [Bool.or_eq_false_iff, decide_eq_false_iff_not] at h; omega
theorem piS1 {s : Int} (h : (decide (s < 16) || decide (1024 < s)) = true) : s < 16 ∨ 1024 < s := by
  simpa only [Bool.or_eq_true, decide_eq_true_eq] using h
theorem piK {n k : Nat} {s : Int} (hS : (decide (s < 16) || decide (1024 < s)) = false) (h : (decide (((k * (s.toNat - 12) : Nat) : Int) = 0) || decide (((k * (s.toNat - 12) : Nat) : Int) < (n : Int))) = true) :
    16 ≤ s ∧ s ≤ 1024 ∧ k < pcN n s.toNat ∧ k * (s.toNat - 12) ≤ n := by
  obtain ⟨s1, s2⟩ := piS0 hS
  simp only [Bool.or_eq_true, decide_eq_true_eq] at h
  refine ⟨s1, s2, (pcN_lt (by omega)).2 ?_, by omega⟩
  rcases h with h | h
  · have h : k * (s.toNat - 12) = 0 := by omega
    rcases Nat.mul_eq_zero.1 h with h | h <;> omega
  · omega
theorem piK2 {n k : Nat} {s : Int} (hS : (decide (s < 16) || decide (1024 < s)) = false) (h : (decide (((k * (s.toNat - 12) : Nat) : Int) = 0) || decide (((k * (s.toNat - 12) : Nat) : Int) < (n : Int))) = false)
    (hk : k ≤ pcN n s.toNat) : k = pcN n s.toNat := by
  obtain ⟨s1, s2⟩ := piS0 hS
  simp only [Bool.or_eq_false_iff, decide_eq_false_iff_not] at h
  have : ¬ k < pcN n s.toNat := by
    rw [pcN_lt (by omega)]
    rintro (rfl | h3)
    · exact h.1 (by simp)
    · omega
  omega
theorem pi_m {n K : Nat} {s : Int} (hs : 16 ≤ s) (hK : K ≤ n) : (min ((K : Int) + s - 12) (n : Int)).toNat - (K : Int).toNat = min (s.toNat - 12) (n - K) := by omega
abbrev piM (n k : Nat) (s : Int) : Nat := (min (((k * (s.toNat - 12) : Nat) : Int) + s - 12) (n : Int)).toNat - ((k * (s.toNat - 12) : Nat) : Int).toNat
abbrev piZ (n k : Nat) (s : Int) : Nat := (s - ((0 + 4 * 3 + piM n k s : Nat) : Int)).toNat
abbrev piRow (c n k : Nat) (s : Int) (g l spA spZ : List Int) : List Int :=
  List.take (0 + 4 * 3 + piM n k s) (List.drop 0 (List.take (0 + 4 * 3) (List.drop 0 g) ++ List.take (piM n k s) (List.drop (srow c (k * (s.toNat - 12)) 0) l) ++ spA)) ++ List.replicate (piZ n k s) 0 ++ spZ
theorem pi_srow {c n k : Nat} {s : Int} {l : List Int} (hm : piM n k s = min (s.toNat - 12) (n - k * (s.toNat - 12))) (hn : n ≤ l.length) (hc : n ≤ c) (hK : k * (s.toNat - 12) ≤ n) :
    (List.take (piM n k s) (List.drop (srow c (k * (s.toNat - 12)) 0) l)).length = piM n k s := by
  rw [List.length_take, List.length_drop, hm]
  unfold srow
  split <;> omega
theorem pi_row0 {L g l spA : List Int} {c n k cg : Nat} {s : Int} (hg : Gr L g (0 + 4 * 3) cg) (hm : piM n k s = min (s.toNat - 12) (n - k * (s.toNat - 12))) (hn : n ≤ l.length) (hc : n ≤ c) (hK : k * (s.toNat - 12) ≤ n) :
    List.take (0 + 4 * 3 + piM n k s) (List.drop 0 (List.take (0 + 4 * 3) (List.drop 0 g) ++ List.take (piM n k s) (List.drop (srow c (k * (s.toNat - 12)) 0) l) ++ spA)) = L ++ List.take (piM n k s) (List.drop (srow c (k * (s.toNat - 12)) 0) l) := by
  have e := pi_srow hm hn hc hK
  rw [List.drop_zero, List.drop_zero, hg.2.1, List.take_append_of_le_length (by rw [List.length_append, e, ← hg.1]; exact Nat.le_refl _), List.take_of_length_le (by rw [List.length_append, e, ← hg.1]; exact Nat.le_refl _)]
theorem pi_row_len {L g l spA spZ : List Int} {c n k cg : Nat} {s : Int} (hg : Gr L g (0 + 4 * 3) cg) (hm : piM n k s = min (s.toNat - 12) (n - k * (s.toNat - 12))) (hn : n ≤ l.length) (hc : n ≤ c) (hK : k * (s.toNat - 12) ≤ n) :
    (piRow c n k s g l spA spZ).length = 0 + 4 * 3 + piM n k s + piZ n k s + spZ.length := by
  unfold piRow
  rw [pi_row0 (spA := spA) hg hm hn hc hK, List.length_append, List.length_append, List.length_append, pi_srow hm hn hc hK, List.length_replicate, ← hg.1]
theorem pi_row {num : Int} {g l spA spZ : List Int} {c n k cg : Nat} {s : Int} (hg : Gr (fours [num, (k : Int), (n : Int)]) g (0 + 4 * 3) cg) (hm : piM n k s = min (s.toNat - 12) (n - k * (s.toNat - 12))) (hn : n ≤ l.length) (hc : n ≤ c)
    (hK : k * (s.toNat - 12) ≤ n) : List.take (0 + 4 * 3 + piM n k s + piZ n k s) (List.drop 0 (piRow c n k s g l spA spZ)) = piece (l.take n) s.toNat num k := by
  have e := pi_srow hm hn hc hK
  have h12 := hg.1
  unfold piRow
  rw [pi_row0 (spA := spA) hg hm hn hc hK, List.drop_zero, List.take_append_of_le_length (by rw [List.length_append, List.length_append, e, List.length_replicate, ← h12]; exact Nat.le_refl _),
    List.take_of_length_le (by rw [List.length_append, List.length_append, e, List.length_replicate, ← h12]; exact Nat.le_refl _), List.append_assoc]
  unfold piece
  rw [tk_len hn]
  have e2 : List.take (s.toNat - 12) (List.drop (k * (s.toNat - 12)) (List.take n l)) = List.take (piM n k s) (List.drop (srow c (k * (s.toNat - 12)) 0) l) := by
    rw [List.drop_take, List.take_take, hm]
    unfold srow
    split
    · rename_i h
      have : min (s.toNat - 12) (n - k * (s.toNat - 12)) = 0 := by omega
      rw [this, List.take_zero, List.take_zero]
    · rw [Nat.add_zero]
  rw [e2, e]
  congr 3
  show (s - ((0 + 4 * 3 + piM n k s : Nat) : Int)).toNat = s.toNat - 12 - piM n k s
  omega
set_option maxHeartbeats 8000000 in
theorem pieces_ok (o : Bool) (b q : Nat) (l : List Int) (n c : Nat) (s num : Int) (h1 : Sq.ok (o, b, q, l, n, c)) (hn : n ≤ 1000000) :
    Does (C := C0) Tryd.prog (.fn 20) [⟨b, q, 1, false, some o, .rows 5 l⟩] [.sl 0 0 n c, .int .i64 s, .int .i64 num]
    [⟨Unit, fun _ => s < 16 ∨ 1024 < s, fun _ => .tup [.nils, eV 2], fun _ => [⟨b, q, 1, false, some o, .rows 5 l⟩]⟩,
     ⟨Unit, fun _ => (16 ≤ s ∧ s ≤ 1024) ∧ cn num = false, fun _ => .tup [.nils, eV 0], fun _ => [⟨b, q, 1, false, some o, .rows 5 l⟩]⟩,
     ⟨Unit, fun _ => (16 ≤ s ∧ s ≤ 1024) ∧ cn num = true ∧ 64 * (s.toNat - 12) < n, fun _ => .tup [.nils, eV 1], fun _ => [⟨b, q, 1, false, some o, .rows 5 l⟩]⟩,
     ⟨Nat × Nat × List (Rw Int) × Nat, fun y => (16 ≤ s ∧ s ≤ 1024) ∧ cn num = true ∧ n ≤ 64 * (s.toNat - 12) ∧ Grw (y.2.2.1.take (pcN n s.toNat)) y.2.2.1 true (pcN n s.toNat) y.2.2.2 ∧ Prs (l.take n) s.toNat num y.2.2.1 (pcN n s.toNat), fun y => .tup [.sl 1 0 (pcN n s.toNat) y.2.2.2, .nili],
      fun y => [⟨b, q, 1, false, some o, .rows 5 l⟩, ⟨y.1, y.2.1, 1, true, none, .rows 26 y.2.2.1⟩]⟩] := by
  have hnl : n ≤ l.length := h1.2.1
  refine loc_fn (P := Tryd.prog) (E := ⟨[fcLay], [pcNumb], 90, [(2, [], [.p 0, .p 1, .p 2]), (4, [], [.p 0, .p 1, .p 2]), (6, [], [.p 0, .p 1, .p 2]),
    (13, [3], [.p 0, .p 1, .p 2, .p 3, .p 4, .p 5, .p 6, .p 7, .p 8, .p 9, .p 10, .p 11, .p 12, .p 13, .p 14, .e 15, .p 16, .p 17, .f 18]),
    (14, [3], [.p 0, .p 1, .p 2, .p 3, .p 4, .p 5, .p 6, .p 7, .p 8, .p 9, .p 10, .p 11, .e 12, .e 13, .e 14, .p 15])], [], [wB]⟩) (L := [Pi9 (l.take n) s.toNat num]) mix Tryd.func20 rfl (by kernel_rfl) (by kernel_rfl) rfl rfl ?_
  ((conv => (arg 1; reduce)); with_reducible repeat' (first | exact Tr.yes_h | refine Tr.and_h ?_ ?_ | refine Tr.imp_h fun _ => ?_ | refine Tr.all_h fun _ => ?_ | refine Tr.lf_h ?_))
  all_goals try (first | first | (show Region.lexB _ _ = true; kernel_rfl) | (show planned _ _ = true; kernel_rfl) | exact rfl | exact True.intro | ((try dsimp only [imp, C0, cG, cInt, cPl, cSlot, cPg, rwCodec, cRaw] at *); (try refine inR64 ?_ ?_) <;> (try simp only [List.length_set, List.length_append, List.length_take, List.length_drop]) <;> omega))
  · rename_i hS
    refine Ends.one () (piS1 hS) ?_
    ((conv => (arg 1; reduce)); with_reducible repeat' (first | exact Tr.yes_h | refine Tr.and_h ?_ ?_ | refine Tr.imp_h fun _ => ?_ | refine Tr.all_h fun _ => ?_ | refine Tr.lf_h ?_))
    all_goals (first | first | (show Region.lexB _ _ = true; kernel_rfl) | (show planned _ _ = true; kernel_rfl) | exact rfl | exact True.intro | ((try dsimp only [imp, C0, cG, cInt, cPl, cSlot, cPg, rwCodec, cRaw] at *); (try refine inR64 ?_ ?_) <;> (try simp only [List.length_set, List.length_append, List.length_take, List.length_drop]) <;> omega))
  · exact ⟨Nat.le_refl 1, by decide, fun h => Bool.noConfusion h⟩
  · rename_i hS bn hA
    refine Ends.next (Ends.one () ⟨piS0 hS, (alln1 num).symm.trans (by simpa using hA)⟩ ?_)
    ((conv => (arg 1; reduce)); with_reducible repeat' (first | exact Tr.yes_h | refine Tr.and_h ?_ ?_ | refine Tr.imp_h fun _ => ?_ | refine Tr.all_h fun _ => ?_ | refine Tr.lf_h ?_))
    all_goals (first | first | (show Region.lexB _ _ = true; kernel_rfl) | (show planned _ _ = true; kernel_rfl) | exact rfl | exact True.intro | ((try dsimp only [imp, C0, cG, cInt, cPl, cSlot, cPg, rwCodec, cRaw] at *); (try refine inR64 ?_ ?_) <;> (try simp only [List.length_set, List.length_append, List.length_take, List.length_drop]) <;> omega))
  · rename_i hS bn hA
    have := piS0 hS
    exact inR64 (by omega) (by omega)
  · rename_i hS bn hA
    have := piS0 hS
    exact inR64 (by omega) (by omega)
  · rename_i hS bn hA h64
    have h := of_decide_eq_true h64
    have := piS0 hS
    refine Ends.next (Ends.next (Ends.one () ⟨piS0 hS, (alln1 num).symm.trans (by simpa using hA), by omega⟩ ?_))
    ((conv => (arg 1; reduce)); with_reducible repeat' (first | exact Tr.yes_h | refine Tr.and_h ?_ ?_ | refine Tr.imp_h fun _ => ?_ | refine Tr.all_h fun _ => ?_ | refine Tr.lf_h ?_))
    all_goals (first | first | (show Region.lexB _ _ = true; kernel_rfl) | (show planned _ _ = true; kernel_rfl) | exact rfl | exact True.intro | ((try dsimp only [imp, C0, cG, cInt, cPl, cSlot, cPg, rwCodec, cRaw] at *); (try refine inR64 ?_ ?_) <;> (try simp only [List.length_set, List.length_append, List.length_take, List.length_drop]) <;> omega))
  · rename_i hS bn hA h64
    refine Stands.one (0, false, 0, 0, [], 0) ⟨⟨Nat.zero_le _, ⟨rfl, rfl, Nat.le_refl _, Nat.le_refl _, fun _ => ⟨rfl, rfl⟩⟩, rfl, by intro r hr; cases hr⟩, ?_⟩
    ((conv => (arg 1; reduce)); with_reducible repeat' (first | exact Tr.yes_h | refine Tr.and_h ?_ ?_ | refine Tr.imp_h fun _ => ?_ | refine Tr.all_h fun _ => ?_ | refine Tr.lf_h ?_))
    all_goals (first | first | (show Region.lexB _ _ = true; kernel_rfl) | (show planned _ _ = true; kernel_rfl) | exact rfl | exact True.intro | ((try dsimp only [imp, C0, cG, cInt, cPl, cSlot, cPg, rwCodec, cRaw] at *); (try refine inR64 ?_ ?_) <;> (try simp only [List.length_set, List.length_append, List.length_take, List.length_drop]) <;> omega))
  · rename_i hS bn hA h64 v hv hk bw bi
    exact ⟨Nat.le_refl 3, by decide, Nat.le_refl 0, Nat.le_refl 0, by decide, fun _ => ⟨rfl, rfl⟩⟩
  · rename_i hS bn hA h64 v hv hk bw bi y hy
    obtain ⟨k, on, vb, vq, vl, vc⟩ := v
    obtain ⟨e1, e2, e3⟩ : k ≤ pcN (l.take n).length s.toNat ∧ Grw (vl.take k) vl on k vc ∧ Prs (l.take n) s.toNat num vl k := hv
    obtain ⟨s1, s2, k1, k2⟩ : 16 ≤ s ∧ s ≤ 1024 ∧ k < pcN n s.toNat ∧ k * (s.toNat - 12) ≤ n := piK hS hk
    have hm : (min (((k * (s.toNat - 12) : Nat) : Int) + s - 12) (n : Int)).toNat - ((k * (s.toNat - 12) : Nat) : Int).toNat = min (s.toNat - 12) (n - k * (s.toNat - 12)) := pi_m s1 k2
    exact inR64 (by show _ ≤ ((k * (s.toNat - 12) : Nat) : Int) + s; omega) (by show ((k * (s.toNat - 12) : Nat) : Int) + s ≤ _; omega)
  · rename_i hS bn hA h64 v hv hk bw bi y hy
    obtain ⟨k, on, vb, vq, vl, vc⟩ := v
    obtain ⟨e1, e2, e3⟩ : k ≤ pcN (l.take n).length s.toNat ∧ Grw (vl.take k) vl on k vc ∧ Prs (l.take n) s.toNat num vl k := hv
    obtain ⟨s1, s2, k1, k2⟩ : 16 ≤ s ∧ s ≤ 1024 ∧ k < pcN n s.toNat ∧ k * (s.toNat - 12) ≤ n := piK hS hk
    have hm : (min (((k * (s.toNat - 12) : Nat) : Int) + s - 12) (n : Int)).toNat - ((k * (s.toNat - 12) : Nat) : Int).toNat = min (s.toNat - 12) (n - k * (s.toNat - 12)) := pi_m s1 k2
    exact inR64 (by show _ ≤ ((k * (s.toNat - 12) : Nat) : Int) + s - 12; omega) (by show ((k * (s.toNat - 12) : Nat) : Int) + s - 12 ≤ _; omega)
  · exact h1.2.2
  · rename_i hS bn hA h64 v hv hk bw bi y hy
    obtain ⟨k, on, vb, vq, vl, vc⟩ := v
    obtain ⟨e1, e2, e3⟩ : k ≤ pcN (l.take n).length s.toNat ∧ Grw (vl.take k) vl on k vc ∧ Prs (l.take n) s.toNat num vl k := hv
    obtain ⟨s1, s2, k1, k2⟩ : 16 ≤ s ∧ s ≤ 1024 ∧ k < pcN n s.toNat ∧ k * (s.toNat - 12) ≤ n := piK hS hk
    have hm : (min (((k * (s.toNat - 12) : Nat) : Int) + s - 12) (n : Int)).toNat - ((k * (s.toNat - 12) : Nat) : Int).toNat = min (s.toNat - 12) (n - k * (s.toNat - 12)) := pi_m s1 k2
    show 0 ≤ min (((k * (s.toNat - 12) : Nat) : Int) + s - 12) (n : Int)
    omega
  · rename_i hS bn hA h64 v hv hk bw bi y hy
    obtain ⟨k, on, vb, vq, vl, vc⟩ := v
    obtain ⟨e1, e2, e3⟩ : k ≤ pcN (l.take n).length s.toNat ∧ Grw (vl.take k) vl on k vc ∧ Prs (l.take n) s.toNat num vl k := hv
    obtain ⟨s1, s2, k1, k2⟩ : 16 ≤ s ∧ s ≤ 1024 ∧ k < pcN n s.toNat ∧ k * (s.toNat - 12) ≤ n := piK hS hk
    have hm : (min (((k * (s.toNat - 12) : Nat) : Int) + s - 12) (n : Int)).toNat - ((k * (s.toNat - 12) : Nat) : Int).toNat = min (s.toNat - 12) (n - k * (s.toNat - 12)) := pi_m s1 k2
    have := h1.1
    show min (((k * (s.toNat - 12) : Nat) : Int) + s - 12) (n : Int) ≤ (c : Int)
    dsimp only at this; omega
  · rename_i hS bn hA h64 v hv hk bw bi y hy
    obtain ⟨k, on, vb, vq, vl, vc⟩ := v
    obtain ⟨e1, e2, e3⟩ : k ≤ pcN (l.take n).length s.toNat ∧ Grw (vl.take k) vl on k vc ∧ Prs (l.take n) s.toNat num vl k := hv
    obtain ⟨s1, s2, k1, k2⟩ : 16 ≤ s ∧ s ≤ 1024 ∧ k < pcN n s.toNat ∧ k * (s.toNat - 12) ≤ n := piK hS hk
    have hm : (min (((k * (s.toNat - 12) : Nat) : Int) + s - 12) (n : Int)).toNat - ((k * (s.toNat - 12) : Nat) : Int).toNat = min (s.toNat - 12) (n - k * (s.toNat - 12)) := pi_m s1 k2
    show ((k * (s.toNat - 12) : Nat) : Int) ≤ min (((k * (s.toNat - 12) : Nat) : Int) + s - 12) (n : Int)
    omega
  · rename_i hS bn hA h64 v hv hk bw bi y hy
    obtain ⟨k, on, vb, vq, vl, vc⟩ := v
    obtain ⟨e1, e2, e3⟩ : k ≤ pcN (l.take n).length s.toNat ∧ Grw (vl.take k) vl on k vc ∧ Prs (l.take n) s.toNat num vl k := hv
    obtain ⟨s1, s2, k1, k2⟩ : 16 ≤ s ∧ s ≤ 1024 ∧ k < pcN n s.toNat ∧ k * (s.toNat - 12) ≤ n := piK hS hk
    have hm : (min (((k * (s.toNat - 12) : Nat) : Int) + s - 12) (n : Int)).toNat - ((k * (s.toNat - 12) : Nat) : Int).toNat = min (s.toNat - 12) (n - k * (s.toNat - 12)) := pi_m s1 k2
    have hc : n ≤ c := h1.1
    obtain ⟨f1, f2, f3, f4⟩ := hy.1
    rw [by5]
    refine ⟨f3, by show 0 + y.2.2.2.2 ≤ y.2.2.2.1.length; omega, ?_, ?_⟩
    · show srow c (k * (s.toNat - 12)) 0 + ((min (((k * (s.toNat - 12) : Nat) : Int) + s - 12) (n : Int)).toNat - ((k * (s.toNat - 12) : Nat) : Int).toNat) ≤ l.length
      rw [hm]
      unfold srow
      split <;> omega
    · show (0 + 4 * 3 + ((min (((k * (s.toNat - 12) : Nat) : Int) + s - 12) (n : Int)).toNat - ((k * (s.toNat - 12) : Nat) : Int).toNat)) * 1 ≤ 140737488355328
      rw [hm]; omega
  · rename_i hS bn hA h64 v hv hk bw bi y hy
    exact hy.2
  · rename_i hS bn hA h64 v hv hk bw bi y hy
    obtain ⟨k, on, vb, vq, vl, vc⟩ := v
    obtain ⟨e1, e2, e3⟩ : k ≤ pcN (l.take n).length s.toNat ∧ Grw (vl.take k) vl on k vc ∧ Prs (l.take n) s.toNat num vl k := hv
    obtain ⟨s1, s2, k1, k2⟩ : 16 ≤ s ∧ s ≤ 1024 ∧ k < pcN n s.toNat ∧ k * (s.toNat - 12) ≤ n := piK hS hk
    have hm : (min (((k * (s.toNat - 12) : Nat) : Int) + s - 12) (n : Int)).toNat - ((k * (s.toNat - 12) : Nat) : Int).toNat = min (s.toNat - 12) (n - k * (s.toNat - 12)) := pi_m s1 k2
    intro ho
    have := h1.2.2 ho
    show (min (((k * (s.toNat - 12) : Nat) : Int) + s - 12) (n : Int)).toNat - ((k * (s.toNat - 12) : Nat) : Int).toNat = 0 ∧ (min (((k * (s.toNat - 12) : Nat) : Int) + s - 12) (n : Int)).toNat - ((k * (s.toNat - 12) : Nat) : Int).toNat = 0
    dsimp only at this
    rw [hm]; omega
  · rename_i hS bn hA h64 v hv hk bw bi y hy bA qA spA cA a1 a2
    obtain ⟨k, on, vb, vq, vl, vc⟩ := v
    obtain ⟨e1, e2, e3⟩ : k ≤ pcN (l.take n).length s.toNat ∧ Grw (vl.take k) vl on k vc ∧ Prs (l.take n) s.toNat num vl k := hv
    obtain ⟨s1, s2, k1, k2⟩ : 16 ≤ s ∧ s ≤ 1024 ∧ k < pcN n s.toNat ∧ k * (s.toNat - 12) ≤ n := piK hS hk
    have hm : (min (((k * (s.toNat - 12) : Nat) : Int) + s - 12) (n : Int)).toNat - ((k * (s.toNat - 12) : Nat) : Int).toNat = min (s.toNat - 12) (n - k * (s.toNat - 12)) := pi_m s1 k2
    show inR .i64 (s - ((0 + 4 * 3 + ((min (((k * (s.toNat - 12) : Nat) : Int) + s - 12) (n : Int)).toNat - ((k * (s.toNat - 12) : Nat) : Int).toNat) : Nat) : Int))
    rw [hm]
    exact inR64 (by omega) (by omega)
  · rename_i hS bn hA h64 v hv hk bw bi y hy bA qA spA cA a1 a2
    obtain ⟨k, on, vb, vq, vl, vc⟩ := v
    obtain ⟨e1, e2, e3⟩ : k ≤ pcN (l.take n).length s.toNat ∧ Grw (vl.take k) vl on k vc ∧ Prs (l.take n) s.toNat num vl k := hv
    obtain ⟨s1, s2, k1, k2⟩ : 16 ≤ s ∧ s ≤ 1024 ∧ k < pcN n s.toNat ∧ k * (s.toNat - 12) ≤ n := piK hS hk
    have hm : (min (((k * (s.toNat - 12) : Nat) : Int) + s - 12) (n : Int)).toNat - ((k * (s.toNat - 12) : Nat) : Int).toNat = min (s.toNat - 12) (n - k * (s.toNat - 12)) := pi_m s1 k2
    rw [by5]
    refine ⟨a1, ?_, ?_, ?_⟩
    · show 0 + cA ≤ (List.take (0 + 4 * 3) (List.drop 0 y.2.2.2.1) ++ List.take (piM n k s) (List.drop (srow c (k * (s.toNat - 12)) 0) l) ++ spA).length
      obtain ⟨f1, f2, f3, f4⟩ := hy.1
      have a2 : cA ≤ 0 + 4 * 3 + piM n k s + spA.length := a2
      have e5 := pi_srow (c := c) (l := l) hm hnl h1.1 k2
      rw [List.length_append, List.length_append, e5, List.drop_zero, List.length_take]
      omega
    · show 0 ≤ s - ((0 + 4 * 3 + ((min (((k * (s.toNat - 12) : Nat) : Int) + s - 12) (n : Int)).toNat - ((k * (s.toNat - 12) : Nat) : Int).toNat) : Nat) : Int)
      rw [hm]; omega
    · show (0 + 4 * 3 + ((min (((k * (s.toNat - 12) : Nat) : Int) + s - 12) (n : Int)).toNat - ((k * (s.toNat - 12) : Nat) : Int).toNat) + (s - ((0 + 4 * 3 + ((min (((k * (s.toNat - 12) : Nat) : Int) + s - 12) (n : Int)).toNat - ((k * (s.toNat - 12) : Nat) : Int).toNat) : Nat) : Int)).toNat) * 1 ≤ 140737488355328
      rw [hm]; omega
  · rename_i hS bn hA h64 v hv hk bw bi y hy bA qA spA cA a1 a2
    cases hb : y.2.2.1 with
    | true => exact Bool.or_true _
    | false => exact absurd (hy.2 hb).1 (by decide)
  · rename_i hS bn hA h64 v hv hk bw bi y hy bA qA spA cA a1 a2 bZ qZ spZ cZ z1 z2
    obtain ⟨k, on, vb, vq, vl, vc⟩ := v
    obtain ⟨e1, e2, e3⟩ : k ≤ pcN (l.take n).length s.toNat ∧ Grw (vl.take k) vl on k vc ∧ Prs (l.take n) s.toNat num vl k := hv
    obtain ⟨s1, s2, k1, k2⟩ : 16 ≤ s ∧ s ≤ 1024 ∧ k < pcN n s.toNat ∧ k * (s.toNat - 12) ≤ n := piK hS hk
    have hm : (min (((k * (s.toNat - 12) : Nat) : Int) + s - 12) (n : Int)).toNat - ((k * (s.toNat - 12) : Nat) : Int).toNat = min (s.toNat - 12) (n - k * (s.toNat - 12)) := pi_m s1 k2
    show 0 + (0 + 4 * 3 + piM n k s + piZ n k s) ≤ (piRow c n k s y.2.2.2.1 l spA spZ).length
    rw [pi_row_len hy.1 hm hnl h1.1 k2]; omega
  · rename_i hS bn hA h64 v hv hk bw bi y hy bA qA spA cA a1 a2 bZ qZ spZ cZ z1 z2 bB
    obtain ⟨k, on, vb, vq, vl, vc⟩ := v
    obtain ⟨e1, e2, e3⟩ : k ≤ pcN (l.take n).length s.toNat ∧ Grw (vl.take k) vl on k vc ∧ Prs (l.take n) s.toNat num vl k := hv
    obtain ⟨s1, s2, k1, k2⟩ : 16 ≤ s ∧ s ≤ 1024 ∧ k < pcN n s.toNat ∧ k * (s.toNat - 12) ≤ n := piK hS hk
    have hm : (min (((k * (s.toNat - 12) : Nat) : Int) + s - 12) (n : Int)).toNat - ((k * (s.toNat - 12) : Nat) : Int).toNat = min (s.toNat - 12) (n - k * (s.toNat - 12)) := pi_m s1 k2
    obtain ⟨g1, g2, g3, g4, g5⟩ := e2
    have k64 := pcN_le (len := n) (s := s.toNat) (by omega) (by have := of_decide_eq_false h64; omega)
    rw [by26]
    exact ⟨g3, by show 0 + vc ≤ vl.length; omega, Nat.le_refl 1, by show (k + 1) * 24 ≤ _; omega⟩
  · rename_i hS bn hA h64 v hv hk bw bi y hy bA qA spA cA a1 a2 bZ qZ spZ cZ z1 z2 bB
    obtain ⟨k, on, vb, vq, vl, vc⟩ := v
    obtain ⟨e1, e2, e3⟩ : k ≤ pcN (l.take n).length s.toNat ∧ Grw (vl.take k) vl on k vc ∧ Prs (l.take n) s.toNat num vl k := hv
    obtain ⟨s1, s2, k1, k2⟩ : 16 ≤ s ∧ s ≤ 1024 ∧ k < pcN n s.toNat ∧ k * (s.toNat - 12) ≤ n := piK hS hk
    have hm : (min (((k * (s.toNat - 12) : Nat) : Int) + s - 12) (n : Int)).toNat - ((k * (s.toNat - 12) : Nat) : Int).toNat = min (s.toNat - 12) (n - k * (s.toNat - 12)) := pi_m s1 k2
    exact e2.2.2.2.2
  · rename_i hS bn hA h64 v hv hk bw bi y hy bA qA spA cA a1 a2 bZ qZ spZ cZ z1 z2 bB b9 q9 sp9 c9 m1 m2
    obtain ⟨k, on, vb, vq, vl, vc⟩ := v
    obtain ⟨e1, e2, e3⟩ : k ≤ pcN (l.take n).length s.toNat ∧ Grw (vl.take k) vl on k vc ∧ Prs (l.take n) s.toNat num vl k := hv
    obtain ⟨s1, s2, k1, k2⟩ : 16 ≤ s ∧ s ≤ 1024 ∧ k < pcN n s.toNat ∧ k * (s.toNat - 12) ≤ n := piK hS hk
    have hm : (min (((k * (s.toNat - 12) : Nat) : Int) + s - 12) (n : Int)).toNat - ((k * (s.toNat - 12) : Nat) : Int).toNat = min (s.toNat - 12) (n - k * (s.toNat - 12)) := pi_m s1 k2
    exact inR64 (by omega) (by omega)
  · rename_i hS bn hA h64 v hv hk bw bi y hy bA qA spA cA a1 a2 bZ qZ spZ cZ z1 z2 bB b9 q9 sp9 c9 m1 m2
    obtain ⟨k, on, vb, vq, vl, vc⟩ := v
    obtain ⟨e1, e2, e3⟩ : k ≤ pcN (l.take n).length s.toNat ∧ Grw (vl.take k) vl on k vc ∧ Prs (l.take n) s.toNat num vl k := hv
    obtain ⟨s1, s2, k1, k2⟩ : 16 ≤ s ∧ s ≤ 1024 ∧ k < pcN n s.toNat ∧ k * (s.toNat - 12) ≤ n := piK hS hk
    have hm : (min (((k * (s.toNat - 12) : Nat) : Int) + s - 12) (n : Int)).toNat - ((k * (s.toNat - 12) : Nat) : Int).toNat = min (s.toNat - 12) (n - k * (s.toNat - 12)) := pi_m s1 k2
    exact inR64 (by show _ ≤ ((k * (s.toNat - 12) : Nat) : Int) + (s - 12); omega) (by show ((k * (s.toNat - 12) : Nat) : Int) + (s - 12) ≤ _; omega)
  · rename_i hS bn hA h64 v hv hk bw bi y hy bA qA spA cA a1 a2 bZ qZ spZ cZ z1 z2 bB b9 q9 sp9 c9 m1 m2
    obtain ⟨k, on, vb, vq, vl, vc⟩ := v
    obtain ⟨e1, e2, e3⟩ : k ≤ pcN (l.take n).length s.toNat ∧ Grw (vl.take k) vl on k vc ∧ Prs (l.take n) s.toNat num vl k := hv
    obtain ⟨s1, s2, k1, k2⟩ : 16 ≤ s ∧ s ≤ 1024 ∧ k < pcN n s.toNat ∧ k * (s.toNat - 12) ≤ n := piK hS hk
    have hm : (min (((k * (s.toNat - 12) : Nat) : Int) + s - 12) (n : Int)).toNat - ((k * (s.toNat - 12) : Nat) : Int).toNat = min (s.toNat - 12) (n - k * (s.toNat - 12)) := pi_m s1 k2
    have hnn : (l.take n).length = n := tk_len hnl
    have hrow := pi_row (num := num) hy.1 hm hnl h1.1 k2 (spA := spA) (spZ := spZ)
    have e5 := e2.app (x := (⟨true, bZ, qZ + 0 * 1, cZ, List.take (0 + 4 * 3 + piM n k s + piZ n k s) (List.drop 0 (piRow c n k s y.2.2.2.1 l spA spZ))⟩ : Rw Int)) (sp := sp9) m1 m2
    have e6 := e5.2.1
    refine Stands.one (k + 1, true, b9, q9, vl.take k ++ [⟨true, bZ, qZ + 0 * 1, cZ, List.take (0 + 4 * 3 + piM n k s + piZ n k s) (List.drop 0 (piRow c n k s y.2.2.2.1 l spA spZ))⟩] ++ sp9, c9) ⟨⟨by rw [hnn]; exact k1, ?_, ?_, ?_⟩, ?_, ?_⟩
    · show Grw (List.take (k + 1) _) _ _ _ _
      rw [e6]
      exact e5
    · show (List.take (k + 1) _).map _ = _
      rw [e6, List.range_succ, List.map_append, List.map_append, e3.1]
      show _ ++ [_] = _ ++ [_]
      rw [hrow]
    · show ∀ r ∈ List.take (k + 1) _, Rok r
      rw [e6]
      intro r hr
      rcases List.mem_append.1 hr with hr | hr
      · exact e3.2 r hr
      · rw [List.mem_singleton.1 hr, hrow]
        have hl := piece_len (B := l.take n) (s := s.toNat) (n := num) (k := k) (by omega)
        have z1 : 0 + 4 * 3 + piM n k s + piZ n k s ≤ cZ := z1
        have e7 : 0 + 4 * 3 + piM n k s + piZ n k s = s.toNat := by unfold piZ piM; rw [hm]; omega
        exact ⟨fun h => Bool.noConfusion h, by show _ ≤ cZ; rw [hl]; omega, by rw [hl]; omega⟩
    · show pcN (l.take n).length s.toNat - (k + 1) < pcN (l.take n).length s.toNat - k
      rw [hnn]; omega
    ((conv => (arg 1; reduce)); with_reducible repeat' (first | exact Tr.yes_h | refine Tr.and_h ?_ ?_ | refine Tr.imp_h fun _ => ?_ | refine Tr.all_h fun _ => ?_ | refine Tr.lf_h ?_))
    all_goals try (first | first | (show Region.lexB _ _ = true; kernel_rfl) | (show planned _ _ = true; kernel_rfl) | exact rfl | exact True.intro | ((try dsimp only [imp, C0, cG, cInt, cPl, cSlot, cPg, rwCodec, cRaw] at *); (try refine inR64 ?_ ?_) <;> (try simp only [List.length_set, List.length_append, List.length_take, List.length_drop]) <;> omega))
    show ((k * (s.toNat - 12) : Nat) : Int) + (s - 12) = (((k + 1) * (s.toNat - 12) : Nat) : Int)
    rw [Nat.add_mul, Nat.one_mul]; omega
  · rename_i hS bn hA h64 v hv hk
    obtain ⟨k, on, vb, vq, vl, vc⟩ := v
    obtain ⟨e1, e2, e3⟩ : k ≤ pcN (l.take n).length s.toNat ∧ Grw (vl.take k) vl on k vc ∧ Prs (l.take n) s.toNat num vl k := hv
    rw [tk_len hnl] at e1
    obtain rfl := piK2 hS hk e1
    have hp := pcN_pos n s.toNat
    obtain rfl : on = true := on_of e2.2.2.2.2 hp
    have h64 := of_decide_eq_false h64
    have hs0 := piS0 hS
    refine Ends.next (Ends.next (Ends.next (Ends.one (vb, vq, vl, vc) ⟨hs0, (alln1 num).symm.trans (by simpa using hA), by omega, e2, e3⟩ ?_)))
    ((conv => (arg 1; reduce)); with_reducible repeat' (first | exact Tr.yes_h | refine Tr.and_h ?_ ?_ | refine Tr.imp_h fun _ => ?_ | refine Tr.all_h fun _ => ?_ | refine Tr.lf_h ?_))
    all_goals (first | first | (show Region.lexB _ _ = true; kernel_rfl) | (show planned _ _ = true; kernel_rfl) | exact rfl | exact True.intro | ((try dsimp only [imp, C0, cG, cInt, cPl, cSlot, cPg, rwCodec, cRaw] at *); (try refine inR64 ?_ ?_) <;> (try simp only [List.length_set, List.length_append, List.length_take, List.length_drop]) <;> omega))
def fcPieces : Fc Tryd.prog C0 where
  tg := .fn 20
  X := Sq Int × Int × Int
  args := fun ((o, b, q, l, n, c), s, num) => [.sl 0 0 n c, .int .i64 s, .int .i64 num]
  mem := fun ((o, b, q, l, n, c), s, num) => [⟨b, q, 1, false, some o, .rows 5 l⟩]
  pre := fun ((o, b, q, l, n, c), s, num) => Sq.ok (o, b, q, l, n, c) ∧ n ≤ 1000000
  alts := fun ((o, b, q, l, n, c), s, num) => [⟨Unit, fun _ => s < 16 ∨ 1024 < s, fun _ => .tup [.nils, eV 2], fun _ => [⟨b, q, 1, false, some o, .rows 5 l⟩]⟩,
     ⟨Unit, fun _ => (16 ≤ s ∧ s ≤ 1024) ∧ cn num = false, fun _ => .tup [.nils, eV 0], fun _ => [⟨b, q, 1, false, some o, .rows 5 l⟩]⟩,
     ⟨Unit, fun _ => (16 ≤ s ∧ s ≤ 1024) ∧ cn num = true ∧ 64 * (s.toNat - 12) < n, fun _ => .tup [.nils, eV 1], fun _ => [⟨b, q, 1, false, some o, .rows 5 l⟩]⟩,
     ⟨Nat × Nat × List (Rw Int) × Nat, fun y => (16 ≤ s ∧ s ≤ 1024) ∧ cn num = true ∧ n ≤ 64 * (s.toNat - 12) ∧ Grw (y.2.2.1.take (pcN n s.toNat)) y.2.2.1 true (pcN n s.toNat) y.2.2.2 ∧ Prs (l.take n) s.toNat num y.2.2.1 (pcN n s.toNat), fun y => .tup [.sl 1 0 (pcN n s.toNat) y.2.2.2, .nili],
      fun y => [⟨b, q, 1, false, some o, .rows 5 l⟩, ⟨y.1, y.2.1, 1, true, none, .rows 26 y.2.2.1⟩]⟩]
  mat vs m := match vs with
    | [.sl a 0 n c, .int _ s, .int _ num] => match nth m a with
      | ⟨b, q, _, _, g, .rows 5 l⟩ => some (((onOf g, b, q, l, n, c), s, num), [a])
      | _ => none
    | [.nils, .int _ s, .int _ num] => some (((false, 0, 0, [], 0, 0), s, num), [m.length])
    | _ => none
  ok := fun ((o, b, q, l, n, c), s, num) h => pieces_ok o b q l n c s num h.1 h.2
end Go.Vx
set_option linter.unusedSectionVars false
set_option maxRecDepth 100000
set_option linter.unusedVariables false
set_option linter.unusedSimpArgs false
namespace Go.Vx
open Go Go.Proofs
variable [Gl]

theorem wrap_i64 (n : Nat) (h : n < 9223372036854775808) : IntKind.i64.wrap (n : Int) = n := by
  unfold IntKind.wrap
  simp [IntKind.bits, IntKind.signed]
  omega
theorem ofInt_i64 (n : Nat) (h : n < 9223372036854775808) : (BitVec.ofInt 64 (n : Int)).toNat = n := by
  simp [BitVec.toNat_ofInt]; omega
theorem or_i64 (a b : Nat) (ha : a < 9223372036854775808) (hb : b < 9223372036854775808) : ibit .or .i64 a b = ((a ||| b : Nat) : Int) := by
  show IntKind.i64.wrap (((BitVec.ofInt 64 (a : Int)) ||| (BitVec.ofInt 64 (b : Int))).toNat : Int) = _
  rw [BitVec.toNat_or, ofInt_i64 a ha, ofInt_i64 b hb]
  exact wrap_i64 _ (Nat.or_lt_two_pow (n := 63) ha hb)
theorem or_add (i a b : Nat) (h : b < 2 ^ i) : b ||| (a * 2 ^ i) = b + a * 2 ^ i := by
  rw [Nat.or_comm, Nat.mul_comm a, ← Nat.two_pow_add_eq_or_of_lt h, Nat.add_comm]
theorem ishl_nat (a k : Nat) (hk : k ≤ 24) (ha : a < 256) : ishl .i64 (a : Int) k = ((a * 2 ^ k : Nat) : Int) := by
  unfold ishl
  have e : min ((k : Int)).toNat IntKind.i64.bits = k := by simp [IntKind.bits]; omega
  rw [e, show ((a : Int) * 2 ^ k) = ((a * 2 ^ k : Nat) : Int) by simp]
  have h2 : 2 ^ k ≤ 2 ^ 24 := Nat.pow_le_pow_right (by decide) hk
  refine wrap_i64 _ ?_
  calc a * 2 ^ k ≤ 256 * 2 ^ 24 := Nat.mul_le_mul (by omega) h2
    _ < _ := by decide
theorem nm_nat (l : List Int) (i a b c d : Nat) (ha : a < 256) (hb : b < 256) (hc : c < 256) (hd : d < 256) (h0 : l.getD i 0 = a) (h1 : l.getD (i + 1) 0 = b) (h2 : l.getD (i + 2) 0 = c) (h3 : l.getD (i + 3) 0 = d) :
    nm l i = ((a + b * 256 + c * 65536 + d * 16777216 : Nat) : Int) := by
  unfold nm
  rw [h0, h1, h2, h3]
  have e1 := ishl_nat b 8 (by decide) hb
  have e2 := ishl_nat c 16 (by decide) hc
  have e3 := ishl_nat d 24 (by decide) hd
  simp only [Int.reducePow, Nat.reducePow] at e1 e2 e3
  rw [show ishl .i64 (b : Int) 8 = ((b * 256 : Nat) : Int) from e1, show ishl .i64 (c : Int) 16 = ((c * 65536 : Nat) : Int) from e2, show ishl .i64 (d : Int) 24 = ((d * 16777216 : Nat) : Int) from e3]
  rw [or_i64 _ _ (by omega) (by omega), show a ||| b * 256 = a + b * 256 from or_add 8 b a (by omega)]
  rw [or_i64 _ _ (by omega) (by omega), show (a + b * 256) ||| c * 65536 = a + b * 256 + c * 65536 from or_add 16 c _ (by omega)]
  rw [or_i64 _ _ (by omega) (by omega), show (a + b * 256 + c * 65536) ||| d * 16777216 = a + b * 256 + c * 65536 + d * 16777216 from or_add 24 d _ (by omega)]
theorem four_nat (n : Nat) (h : n < 4294967296) : four (n : Int) = [((n % 256 : Nat) : Int), ((n / 256 % 256 : Nat) : Int), ((n / 65536 % 256 : Nat) : Int), ((n / 16777216 % 256 : Nat) : Int)] := by
  unfold four
  have w : ∀ m : Int, IntKind.u8.wrap m = m % 256 := fun m => by simp [IntKind.wrap, IntKind.signed, IntKind.bits]
  have s8 : ishr .i64 (n : Int) 8 = ((n / 256 : Nat) : Int) := by
    show ((n : Int)).fdiv 256 = _
    rw [Int.fdiv_eq_ediv_of_nonneg _ (by decide)]; simp
  have s16 : ishr .i64 (n : Int) 16 = ((n / 65536 : Nat) : Int) := by
    show ((n : Int)).fdiv 65536 = _
    rw [Int.fdiv_eq_ediv_of_nonneg _ (by decide)]; simp
  have s24 : ishr .i64 (n : Int) 24 = ((n / 16777216 : Nat) : Int) := by
    show ((n : Int)).fdiv 16777216 = _
    rw [Int.fdiv_eq_ediv_of_nonneg _ (by decide)]; simp
  rw [s8, s16, s24, w, w, w, w]
  simp
/-- A number that four bytes hold. -/
def U32 (x : Int) : Prop := 0 ≤ x ∧ x < 4294967296
theorem byt_at {l : List Int} (h : Bys l) {i : Nat} (hi : i < l.length) : ∃ a : Nat, a < 256 ∧ l.getD i 0 = a ∧ l[i] = a := by
  obtain ⟨h1, h2⟩ := h l[i] (List.getElem_mem hi)
  obtain ⟨a, ha⟩ := Int.eq_ofNat_of_zero_le h1
  refine ⟨a, by omega, ?_, ha⟩
  rw [List.getD_eq_getElem?_getD, List.getElem?_eq_getElem hi, Option.getD_some]; exact ha
theorem four_nm {l : List Int} (h : Bys l) {j : Nat} (hj : j + 4 ≤ l.length) : four (nm l j) = (l.drop j).take 4 ∧ U32 (nm l j) := by
  obtain ⟨a, ha, ha2, ha3⟩ := byt_at h (i := j) (by omega)
  obtain ⟨b, hb, hb2, hb3⟩ := byt_at h (i := j + 1) (by omega)
  obtain ⟨c, hc, hc2, hc3⟩ := byt_at h (i := j + 2) (by omega)
  obtain ⟨d, hd, hd2, hd3⟩ := byt_at h (i := j + 3) (by omega)
  rw [nm_nat l j a b c d ha hb hc hd ha2 hb2 hc2 hd2]
  refine ⟨?_, by unfold U32; omega⟩
  rw [four_nat _ (by omega)]
  have e1 : (a + b * 256 + c * 65536 + d * 16777216) % 256 = a := by omega
  have e2 : (a + b * 256 + c * 65536 + d * 16777216) / 256 % 256 = b := by omega
  have e3 : (a + b * 256 + c * 65536 + d * 16777216) / 65536 % 256 = c := by omega
  have e4 : (a + b * 256 + c * 65536 + d * 16777216) / 16777216 % 256 = d := by omega
  rw [e1, e2, e3, e4, List.drop_eq_getElem_cons (show j < l.length by omega), List.drop_eq_getElem_cons (show j + 1 < l.length by omega),
    List.drop_eq_getElem_cons (show j + 1 + 1 < l.length by omega), List.drop_eq_getElem_cons (show j + 1 + 1 + 1 < l.length by omega)]
  simp only [List.take_succ_cons, List.take_zero, ha3, hb3]
  rw [show l[j + 1 + 1] = (c : Int) from hc3, show l[j + 1 + 1 + 1] = (d : Int) from hd3]
theorem nm_four {x : Int} (h : U32 x) (r : List Int) : nm (four x ++ r) 0 = x := by
  obtain ⟨n, rfl⟩ := Int.eq_ofNat_of_zero_le h.1
  have hn : n < 4294967296 := by have := h.2; omega
  rw [four_nat n hn]
  rw [nm_nat _ 0 (n % 256) (n / 256 % 256) (n / 65536 % 256) (n / 16777216 % 256) (by omega) (by omega) (by omega) (by omega) rfl rfl rfl rfl]
  congr 1
  omega
theorem nm_drop (l : List Int) (i j : Nat) : nm (l.drop i) j = nm l (i + j) := by
  unfold nm
  simp only [List.getD_eq_getElem?_getD, List.getElem?_drop, Nat.add_assoc]
theorem nm_take (l : List Int) {n j : Nat} (h : j + 4 ≤ n) : nm (l.take n) j = nm l j := by
  unfold nm
  simp only [List.getD_eq_getElem?_getD, List.getElem?_take, show j < n by omega, show j + 1 < n by omega, show j + 2 < n by omega, show j + 3 < n by omega, if_true]
theorem nm_fours {N : List Int} (h : ∀ x ∈ N, U32 x) (r : List Int) : ∀ {k : Nat}, k < N.length → nm (fours N ++ r) (4 * k) = N.getD k 0 := by
  induction N with
  | nil => intro k hk; simp at hk
  | cons x M ih =>
    intro k hk
    have e : fours (x :: M) ++ r = four x ++ (fours M ++ r) := by
      rw [show x :: M = [x] ++ M from rfl, fours_app, fours_one, List.append_assoc]
    rw [e]
    cases k with
    | zero => rw [Nat.mul_zero, nm_four (h x List.mem_cons_self)]; rfl
    | succ k =>
      have h2 := ih (fun y hy => h y (List.mem_cons_of_mem _ hy)) (k := k) (by simpa using hk)
      have h3 := nm_drop (four x ++ (fours M ++ r)) 4 (4 * k)
      rw [List.drop_append_of_le_length (by rw [four_len]; exact Nat.le_refl _), List.drop_of_length_le (by rw [four_len]; exact Nat.le_refl _), List.nil_append] at h3
      rw [show 4 * (k + 1) = 4 + 4 * k by omega, ← h3, h2]; rfl
/-- The numbers of bytes. -/
def rdN (b : List Int) (M : Nat) : List Int := (List.range M).map fun k => nm b (4 * k)
theorem rdN_len (b : List Int) (M : Nat) : (rdN b M).length = M := by unfold rdN; simp
theorem rdN_get (b : List Int) {M k : Nat} (h : k < M) : (rdN b M).getD k 0 = nm b (4 * k) := by
  unfold rdN
  rw [List.getD_eq_getElem?_getD, List.getElem?_map, List.getElem?_range h]; rfl
theorem fours_rdN {b : List Int} (h : Bys b) : ∀ (M : Nat), 4 * M ≤ b.length → fours (rdN b M) = b.take (4 * M)
  | 0, _ => by unfold rdN; simp [fours_nil]
  | M + 1, hM => by
    have ih := fours_rdN h M (by omega)
    unfold rdN at *
    rw [List.range_succ, List.map_append, fours_app, ih, List.map_singleton, fours_one, (four_nm h (by omega)).1, show 4 * (M + 1) = 4 * M + 4 by omega, List.take_add]
theorem rdN_u32 {b : List Int} (h : Bys b) {M : Nat} (hM : 4 * M ≤ b.length) : ∀ x ∈ rdN b M, U32 x := by
  unfold rdN
  intro x hx
  obtain ⟨k, hk, rfl⟩ := List.mem_map.1 hx
  exact (four_nm h (by have := List.mem_range.1 hk; omega)).2
theorem rdN_fours {N : List Int} (h : ∀ x ∈ N, U32 x) (r : List Int) : rdN (fours N ++ r) N.length = N := by
  refine List.ext_getElem (by rw [rdN_len]) fun k h1 h2 => ?_
  have e := nm_fours h r (k := k) h2
  rw [List.getD_eq_getElem?_getD, List.getElem?_eq_getElem h2, Option.getD_some] at e
  rw [← e, ← rdN_get _ h2, List.getD_eq_getElem?_getD, List.getElem?_eq_getElem h1, Option.getD_some]
theorem crc_u32 (l : List Int) : U32 (crc l) := ibit_u32 _ _ _
/-- A point's parts, out of its numbers. -/
theorem nums_len (h : Hd) (A : List Pl) (B : List Slot) : (nums h A B).length = 6 + 2 * A.length + 9 * B.length := by
  unfold nums
  have e1 : ∀ A : List Pl, (A.flatMap lst).length = 2 * A.length := by
    intro A
    induction A with
    | nil => rfl
    | cons x r ih => rw [List.flatMap_cons, List.length_append, ih]; simp [lst]; omega
  have e2 : ∀ B : List Slot, (B.flatMap slotN).length = 9 * B.length := by
    intro B
    induction B with
    | nil => rfl
    | cons x r ih => rw [List.flatMap_cons, List.length_append, ih]; simp [slotN]; omega
  simp only [List.length_append, List.length_cons, List.length_nil, e1, e2]
  omega
theorem flat_inj {α : Type} {f : α → List Int} {k : Nat} (hf : ∀ x, (f x).length = k) (hi : ∀ x y, f x = f y → x = y) : ∀ {A A' : List α}, A.length = A'.length → A.flatMap f = A'.flatMap f → A = A'
  | [], [], _, _ => rfl
  | [], _ :: _, h, _ => by simp at h
  | _ :: _, [], h, _ => by simp at h
  | x :: A, y :: A', hl, h => by
    rw [List.flatMap_cons, List.flatMap_cons] at h
    obtain ⟨h1, h2⟩ := List.append_inj h (by rw [hf, hf])
    rw [hi x y h1, flat_inj hf hi (by simpa using hl) h2]
theorem lst_inj (x y : Pl) (h : lst x = lst y) : x = y := by
  obtain ⟨a, b⟩ := x; obtain ⟨c, d⟩ := y
  simpa [lst] using h
theorem slotN_inj (x y : Slot) (h : slotN x = slotN y) : x = y := by
  obtain ⟨k, ⟨a, b⟩, ⟨m1, m2, m3, m4, m5, m6⟩⟩ := x
  obtain ⟨k', ⟨a', b'⟩, ⟨m1', m2', m3', m4', m5', m6'⟩⟩ := y
  simp [slotN] at h
  simp [h]
theorem nums_inj {h h' : Hd} {A A' : List Pl} {B B' : List Slot} (he : nums h A B = nums h' A' B') : h = h' ∧ A = A' ∧ B = B' := by
  unfold nums at he
  simp only [List.cons_append, List.nil_append, List.cons.injEq, List.append_assoc] at he
  obtain ⟨e1, e2, e3, e4, e5, e6⟩ := he
  have hl : A.length = A'.length := by omega
  have e1' : ∀ A : List Pl, (A.flatMap lst).length = 2 * A.length := by
    intro A
    induction A with
    | nil => rfl
    | cons x r ih => rw [List.flatMap_cons, List.length_append, ih]; simp [lst]; omega
  obtain ⟨g1, g2⟩ := List.append_inj e6 (by rw [e1', e1', hl])
  simp only [List.cons_append, List.nil_append, List.cons.injEq] at g2
  refine ⟨Prod.ext e1 (Prod.ext e2 (Prod.ext e3 e4)), flat_inj (f := lst) (k := 2) (fun _ => rfl) lst_inj hl g1, flat_inj (f := slotN) (k := 9) (fun _ => rfl) slotN_inj (by have := g2.1; omega) g2.2⟩
theorem okBs_at {A : List Pl} : ∀ {n : Nat}, okBs A n = true → ∀ i, i < n → cn (A.getD i (0, 0)).1 = true ∧ cn (A.getD i (0, 0)).2 = true ∧ (A.getD i (0, 0)).1 < 64
  | n + 1, h, i, hi => by
    rw [okBs] at h
    unfold okB at h
    simp only [Bool.and_eq_true, decide_eq_true_iff] at h
    rcases Nat.lt_succ_iff_lt_or_eq.1 hi with hi | rfl
    · exact okBs_at h.1.1.1 i hi
    · exact ⟨h.1.1.2.1, h.1.1.2.2, h.1.2⟩
theorem okSs_at {A : List Pl} {ok : Bool} {B : List Slot} : ∀ {n : Nat}, okSs A ok B n = true → ok = true ∧ ∀ i, i < n → anyF (fun x => decide (x.1 = (B.getD i slot0).pl.1)) A = true ∧ cn (B.getD i slot0).key = true ∧ cn (B.getD i slot0).pl.2 = true ∧ okMe (B.getD i slot0).me = true
  | 0, h => ⟨h, fun i hi => absurd hi (Nat.not_lt_zero _)⟩
  | n + 1, h => by
    rw [okSs] at h
    unfold okS at h
    simp only [Bool.and_eq_true, decide_eq_true_iff] at h
    obtain ⟨h1, h2⟩ := okSs_at h.1.1.1.1.1
    refine ⟨h1, fun i hi => ?_⟩
    rcases Nat.lt_succ_iff_lt_or_eq.1 hi with hi | rfl
    · exact h2 i hi
    · exact ⟨h.1.1.1.1.2, h.1.1.1.2.1, h.1.1.1.2.2, h.1.2⟩
theorem cn_u32 {x : Int} (h : cn x = true) : U32 x := by have := cn_iff.1 h; unfold U32; omega
theorem okMe_u32 {m : Me} (h : okMe m = true) : U32 m.kind ∧ U32 m.key ∧ U32 m.seq ∧ U32 m.stamp ∧ U32 m.batch ∧ U32 m.floor := by
  unfold okMe at h
  simp only [Bool.and_eq_true, decide_eq_true_iff] at h
  exact ⟨by unfold U32; omega, cn_u32 h.1.1.1.1.2, cn_u32 h.1.1.1.2, cn_u32 h.1.1.2, cn_u32 h.1.2, cn_u32 h.2⟩
theorem okP_u32 {h : Hd} {A : List Pl} {B : List Slot} (hok : okP h A B = true) (hA : A.length < 4294967296) (hB : B.length < 4294967296) : ∀ x ∈ nums h A B, U32 x := by
  unfold okP at hok
  obtain ⟨h1, h2⟩ := okSs_at hok
  simp only [Bool.and_eq_true] at h1
  have h3 := okBs_at h1.2
  have h4 := h1.1
  unfold okH at h4
  simp only [Bool.and_eq_true] at h4
  have hAm : ∀ b ∈ A, cn b.1 = true ∧ cn b.2 = true := by
    intro b hb
    obtain ⟨i, hi, rfl⟩ := List.mem_iff_getElem.1 hb
    have := h3 i hi
    rw [List.getD_eq_getElem?_getD, List.getElem?_eq_getElem hi, Option.getD_some] at this
    exact ⟨this.1, this.2.1⟩
  intro x hx
  unfold nums at hx
  simp only [List.mem_append, List.mem_cons, List.not_mem_nil, or_false, List.mem_flatMap] at hx
  rcases hx with ((hx | ⟨b, hb, hx⟩) | hx) | ⟨s, hs, hx⟩
  · rcases hx with rfl | rfl | rfl | rfl | rfl
    · exact cn_u32 h4.1.1.1
    · exact cn_u32 h4.1.1.2
    · exact cn_u32 h4.1.2
    · exact cn_u32 h4.2
    · unfold U32; omega
  · simp only [lst, List.mem_cons, List.not_mem_nil, or_false] at hx
    rcases hx with rfl | rfl
    · exact cn_u32 (hAm b hb).1
    · exact cn_u32 (hAm b hb).2
  · subst hx; unfold U32; omega
  · obtain ⟨i, hi, rfl⟩ := List.mem_iff_getElem.1 hs
    have g := h2 i hi
    rw [List.getD_eq_getElem?_getD, List.getElem?_eq_getElem hi, Option.getD_some] at g
    obtain ⟨g1, g2, g3, g4⟩ := g
    have g5 := okMe_u32 g4
    unfold anyF at g1
    obtain ⟨b, hb, hbe⟩ := List.any_eq_true.1 g1
    have hbe := of_decide_eq_true hbe
    simp only [slotN, List.mem_cons, List.not_mem_nil, or_false] at hx
    rcases hx with rfl | rfl | rfl | rfl | rfl | rfl | rfl | rfl | rfl
    · exact cn_u32 g2
    · rw [← hbe]; exact cn_u32 (hAm b hb).1
    · exact cn_u32 g3
    · exact g5.1
    · exact g5.2.1
    · exact g5.2.2.1
    · exact g5.2.2.2.1
    · exact g5.2.2.2.2.1
    · exact g5.2.2.2.2.2
theorem bytesP_byt (h : Hd) (A : List Pl) (B : List Slot) : Bys (bytesP h A B) := by
  unfold bytesP
  exact (fours_byt _).app (four_byt _)
theorem bytesP_len (h : Hd) (A : List Pl) (B : List Slot) : (bytesP h A B).length = 28 + 8 * A.length + 36 * B.length := by
  unfold bytesP
  rw [List.length_append, fours_len, four_len, nums_len]; omega
theorem bytesP_inj {h h' : Hd} {A A' : List Pl} {B B' : List Slot} (hok : okP h A B = true) (hok' : okP h' A' B' = true) (hA : A.length < 4294967296) (hB : B.length < 4294967296) (hA' : A'.length < 4294967296) (hB' : B'.length < 4294967296)
    (he : bytesP h A B = bytesP h' A' B') : h = h' ∧ A = A' ∧ B = B' := by
  have hu := okP_u32 hok hA hB
  have hu' := okP_u32 hok' hA' hB'
  have hl := congrArg List.length he
  rw [bytesP_len, bytesP_len] at hl
  unfold bytesP at he
  have hf : (fours (nums h A B)).length = (fours (nums h' A' B')).length := by rw [fours_len, fours_len, nums_len, nums_len]; omega
  have hf2 := (List.append_inj he hf).1
  have e1 := rdN_fours hu []
  have e2 := rdN_fours hu' []
  rw [fours_len, fours_len] at hf
  rw [hf2, show (nums h A B).length = (nums h' A' B').length by omega, e2] at e1
  exact nums_inj e1.symm
end Go.Vx
set_option linter.unusedSectionVars false
set_option maxRecDepth 100000
set_option linter.unusedVariables false
set_option linter.unusedSimpArgs false
namespace Go.Vx
open Go Go.Proofs
variable [Gl]

/-- Pieces whose sizes may not be. -/
def jbad (L : List (List Int)) : Prop := L.length = 0 ∨ (L.getD 0 []).length < 16 ∨ 1024 < (L.getD 0 []).length ∨ ∃ j, j < L.length ∧ (L.getD j []).length ≠ (L.getD 0 []).length
/-- Pieces that are one another's, numbered n, of s bytes. -/
def JOk (L : List (List Int)) (n s : Int) : Prop := ¬ jbad L ∧ (∀ j, j < L.length → nm (L.getD j []) 0 = n ∧ nm (L.getD j []) 4 = (j : Nat) ∧ nm (L.getD j []) 8 = s) ∧ cn n = true ∧ L.length ≤ 64 ∧
  s ≤ (L.length * ((L.getD 0 []).length - 12) : Nat) ∧ (L.length : Int) = max 1 ((s + ((L.getD 0 []).length - 12 : Nat) - 1) / ((L.getD 0 []).length - 12 : Nat))
def jout (L : List (List Int)) : List Int := L.flatMap (·.drop 12)
theorem jout_len {L : List (List Int)} {k : Nat} (h : ∀ j, j < L.length → (L.getD j []).length = k) : (jout L).length = L.length * (k - 12) := by
  unfold jout
  induction L with
  | nil => simp
  | cons x r ih =>
    have h0 := h 0 (by simp)
    have h1 := ih (fun j hj => h (j + 1) (by simp; omega))
    simp only [List.getD_cons_zero] at h0
    rw [List.flatMap_cons, List.length_append, h1, List.length_drop, h0, List.length_cons, Nat.add_mul, Nat.one_mul]; omega
def rowL (l : List (Rw Int)) (i n : Nat) : List (List Int) := ((l.drop i).take n).map (·.l)
theorem rowL_len {l : List (Rw Int)} {i n : Nat} (h : i + n ≤ l.length) : (rowL l i n).length = n := by unfold rowL; rw [List.length_map, rows_len h]
theorem rowL_at {l : List (Rw Int)} {i n v : Nat} (h : i + n ≤ l.length) (hv : v < n) : (rowL l i n).getD v [] = (l.getD (v + i) Rw.nil).l := by
  unfold rowL
  rw [List.getD_eq_getElem?_getD, List.getElem?_map, List.getElem?_eq_getElem (by rw [rows_len h]; exact hv), ← rows_at hv, List.getD_eq_getElem?_getD, List.getElem?_eq_getElem (by rw [rows_len h]; exact hv)]
  rfl
def Jo4 (L : List (List Int)) : Inv' C0 := ⟨4, Nat, fun k => [(36, .int .i64 (k : Int))], fun x m => m, fun k => k ≤ L.length ∧ ∀ j, j < k → (L.getD j []).length = (L.getD 0 []).length, fun k => L.length - k⟩
def Jo14 (L : List (List Int)) : Inv' C0 := ⟨14, Gx Int, fun x => [(67, .int .i64 (x.1 : Int)), (12, .sl 6 0 (x.1 * ((L.getD 0 []).length - 12)) x.2.2.2.2.2)], fun x m => match m with
  | [a, g1, g2, g3, g4, r] => [a, g1, g2, g3, g4, r, ⟨x.2.2.1, x.2.2.2.1, 1, true, some x.2.1, .rows 5 x.2.2.2.2.1⟩]
  | m => m, fun x => x.1 ≤ L.length ∧ Grw (jout (L.take x.1)) x.2.2.2.2.1 x.2.1 (x.1 * ((L.getD 0 []).length - 12)) x.2.2.2.2.2 ∧
    (∀ j, j < x.1 → nm (L.getD j []) 0 = nm (L.getD 0 []) 0 ∧ nm (L.getD j []) 4 = (j : Nat) ∧ nm (L.getD j []) 8 = nm (L.getD 0 []) 8), fun x => L.length - x.1⟩
theorem getR_ok (b0 q0 : Nat) (bad : Bool) (o : Bool) (b q : Nat) (l : List Int) (i n c : Nat) (h1 : n ≤ c) (h2 : i + n ≤ l.length) (h3 : n < 140737488355000) (ho : o = false → n = 0 ∧ c = 0) (hb : Bys ((l.drop i).take n)) :
    Does (C := C0) Tryd.prog (.fn 43) [⟨b0, q0, 2, true, none, .one [.sl 1 i n c, .bool (.tm bad)]⟩, ⟨b, q, 1, false, some o, .rows 5 l⟩] [.ptr 0 0 0]
    [⟨Rs × Int, fun y => y = (gs (i, n, c, bad), gv l (i, n, c, bad)), fun y => .int .i64 y.2, fun y => [⟨b0, q0, 2, true, none, .one [.sl 1 y.1.1 y.1.2.1 y.1.2.2.1, .bool (.tm y.1.2.2.2)]⟩, ⟨b, q, 1, false, some o, .rows 5 l⟩]⟩] := by
  refine loc_fn (P := Tryd.prog) (E := ⟨[], [], 56, [], [], []⟩) (L := []) mix Tryd.func43 rfl (by kernel_rfl) (by kernel_rfl) rfl rfl ?_
  ((conv => (arg 1; reduce)); with_reducible repeat' (first | exact Tr.yes_h | refine Tr.and_h ?_ ?_ | refine Tr.imp_h fun _ => ?_ | refine Tr.all_h fun _ => ?_ | refine Tr.lf_h ?_))
  all_goals try (first | first | (show Region.lexB _ _ = true; kernel_rfl) | (show planned _ _ = true; kernel_rfl) | exact rfl | exact True.intro | ((try dsimp only [imp, C0, cG, cInt, cPl, cSlot, cPg, rwCodec, cRaw] at *); (try refine inR64 ?_ ?_) <;> (try simp only [List.length_set, List.length_append, List.length_take, List.length_drop]) <;> omega))
  all_goals rename_i hn
  all_goals try (have hn := of_decide_eq_false hn)
  all_goals try exact on_of ho (by omega)
  all_goals try omega
  all_goals try (show _ + i < l.length; simp only [Int.toNat]; omega)
  · have hn := of_decide_eq_true hn
    refine Ends.one (gs (i, n, c, bad), gv l (i, n, c, bad)) rfl ?_
    have h : n < 4 := by omega
    simp only [gs, gv, h, if_true]
    ((conv => (arg 1; reduce)); with_reducible repeat' (first | exact Tr.yes_h | refine Tr.and_h ?_ ?_ | refine Tr.imp_h fun _ => ?_ | refine Tr.all_h fun _ => ?_ | refine Tr.lf_h ?_))
    all_goals (first | first | (show Region.lexB _ _ = true; kernel_rfl) | (show planned _ _ = true; kernel_rfl) | exact rfl | exact True.intro | ((try dsimp only [imp, C0, cG, cInt, cPl, cSlot, cPg, rwCodec, cRaw] at *); (try refine inR64 ?_ ?_) <;> (try simp only [List.length_set, List.length_append, List.length_take, List.length_drop]) <;> omega))
  · exact byt_get (j := 0) hb (by omega)
  · exact byt_get (j := 1) hb (by omega)
  · exact byt_get (j := 2) hb (by omega)
  · exact byt_get (j := 3) hb (by omega)
  · refine Ends.one (gs (i, n, c, bad), gv l (i, n, c, bad)) rfl ?_
    have h : ¬ n < 4 := by omega
    simp only [gs, gv, h, if_false]
    ((conv => (arg 1; reduce)); with_reducible repeat' (first | exact Tr.yes_h | refine Tr.and_h ?_ ?_ | refine Tr.imp_h fun _ => ?_ | refine Tr.all_h fun _ => ?_ | refine Tr.lf_h ?_))
    all_goals try (first | first | (show Region.lexB _ _ = true; kernel_rfl) | (show planned _ _ = true; kernel_rfl) | exact rfl | exact True.intro | ((try dsimp only [imp, C0, cG, cInt, cPl, cSlot, cPg, rwCodec, cRaw] at *); (try refine inR64 ?_ ?_) <;> (try simp only [List.length_set, List.length_append, List.length_take, List.length_drop]) <;> omega))
    exact nm_of (by simp) (by simp; omega) (by simp; omega) (by simp; omega)
def fcGetR : Fc Tryd.prog C0 where
  tg := .fn 43
  X := Nat × Nat × Bool × Bool × Nat × Nat × List Int × Nat × Nat × Nat
  args := fun (b0, q0, bad, o, b, q, l, i, n, c) => [.ptr 0 0 0]
  mem := fun (b0, q0, bad, o, b, q, l, i, n, c) => [⟨b0, q0, 2, true, none, .one [.sl 1 i n c, .bool (.tm bad)]⟩, ⟨b, q, 1, false, some o, .rows 5 l⟩]
  pre := fun (b0, q0, bad, o, b, q, l, i, n, c) => n ≤ c ∧ i + n ≤ l.length ∧ n < 140737488355000 ∧ (o = false → n = 0 ∧ c = 0) ∧ Bys ((l.drop i).take n)
  alts := fun (b0, q0, bad, o, b, q, l, i, n, c) => [⟨Rs × Int, fun y => y = (gs (i, n, c, bad), gv l (i, n, c, bad)), fun y => .int .i64 y.2, fun y => [⟨b0, q0, 2, true, none, .one [.sl 1 y.1.1 y.1.2.1 y.1.2.2.1, .bool (.tm y.1.2.2.2)]⟩, ⟨b, q, 1, false, some o, .rows 5 l⟩]⟩]
  mat vs m := match vs with
    | [.ptr a _ _] => match nth m a with
      | ⟨b0, q0, _, _, _, .one [.sl a2 i n c, .bool bad]⟩ => match nth m a2 with
        | ⟨b, q, _, _, g, .rows 5 l⟩ => some ((b0, q0, bad.val, onOf g, b, q, l, i, n, c), [a, a2])
        | _ => none
      | _ => none
    | _ => none
  ok := fun (b0, q0, bad, o, b, q, l, i, n, c) h => getR_ok b0 q0 bad o b q l i n c h.1 h.2.1 h.2.2.1 h.2.2.2.1 h.2.2.2.2
theorem jr {l : List (Rw Int)} {i n v : Nat} (h1 : i + n ≤ l.length) (hr : ∀ r ∈ (l.drop i).take n, Rok r ∧ Bys r.l) (hv : v < n) {r : Rw Int} (g : l.getD (v + i) Rw.nil = r) : r.l = (rowL l i n).getD v [] ∧ Rok r ∧ Bys r.l := by
  subst g
  refine ⟨(rowL_at h1 hv).symm, hr _ ?_⟩
  rw [← rows_at hv, List.getD_eq_getElem?_getD, List.getElem?_eq_getElem (by rw [rows_len h1]; exact hv)]
  exact List.getElem_mem _
/-- Pieces whose sizes may be. -/
def Jg (L : List (List Int)) : Prop := 0 < L.length ∧ 16 ≤ (L.getD 0 []).length ∧ (L.getD 0 []).length ≤ 1024 ∧ ∀ j, j < L.length → (L.getD j []).length = (L.getD 0 []).length
theorem jg_iff {L : List (List Int)} : Jg L ↔ ¬ jbad L := by
  unfold Jg jbad
  constructor
  · rintro ⟨h1, h2, h3, h4⟩ (h | h | h | ⟨j, hj, h⟩)
    · omega
    · omega
    · omega
    · exact h (h4 j hj)
  · intro h
    refine ⟨Nat.pos_of_ne_zero fun e => h (.inl e), Nat.le_of_not_lt fun e => h (.inr (.inl e)), Nat.le_of_not_lt fun e => h (.inr (.inr (.inl e))), fun j hj => ?_⟩
    rcases Nat.decEq (L.getD j []).length (L.getD 0 []).length with e | e
    · exact absurd (.inr (.inr (.inr ⟨j, hj, e⟩))) h
    · exact e
theorem jg_of {l : List (Rw Int)} {i n v : Nat} (h1 : i + n ≤ l.length) (hr : ∀ r ∈ (l.drop i).take n, Rok r ∧ Bys r.l) (n0 : 0 < n) {r0 r1 : Rw Int} (g0 : l.getD (0 + i) Rw.nil = r0) (d1 : decide ((r0.l.length : Int) < 16) = false)
    (g1 : l.getD (0 + i) Rw.nil = r1) (d2 : decide ((1024 : Int) < (r1.l.length : Int)) = false) (hv : (Jo4 (rowL l i n)).inv v) (d3 : decide ((v : Int) < (n : Int)) = false) : Jg (rowL l i n) := by
  have d1 := of_decide_eq_false d1
  have d2 := of_decide_eq_false d2
  have d3 := of_decide_eq_false d3
  obtain ⟨e1, e2⟩ : v ≤ (rowL l i n).length ∧ ∀ j, j < v → ((rowL l i n).getD j []).length = ((rowL l i n).getD 0 []).length := hv
  rw [rowL_len h1] at e1
  refine ⟨by rw [rowL_len h1]; exact n0, ?_, ?_, fun j hj => e2 j (by rw [rowL_len h1] at hj; omega)⟩
  · rw [← (jr (v := 0) h1 hr n0 g0).1]; omega
  · rw [← (jr (v := 0) h1 hr n0 g1).1]; omega
theorem getpre {r : Rw Int} (hr : Rok r) (hb : Bys r.l) (h : 16 ≤ r.l.length) {k : Nat} (hk : k ≤ r.l.length) :
    r.l.length - k ≤ r.m - k ∧ k + (r.l.length - k) ≤ r.l.length ∧ r.l.length - k < 140737488355000 ∧ (r.on = false → r.l.length - k = 0 ∧ r.m - k = 0) ∧ Bys ((r.l.drop k).take (r.l.length - k)) :=
  ⟨Nat.sub_le_sub_right hr.2.1 k, by omega, by have := hr.2.2; omega, fun h => by have := (hr.1 h).1; omega, (hb.drop k).take _⟩
theorem gs_at {l : List Int} {i n c : Nat} (h : 4 ≤ n) (h2 : n < c ∨ 4 < n ∧ n ≤ c) : (gs (i, n, c, false), gv l (i, n, c, false)) = ((4 + i, n - 4, c - 4, false), nm l i) := by
  have e : ¬ n < 4 := by omega
  simp only [gs, gv, e, if_false]
  unfold srow
  rw [if_neg (by omega)]
theorem gs1 {r : Rw Int} (hr : Rok r) (h : 16 ≤ r.l.length) : (gs (0, r.l.length, r.m, false), gv r.l (0, r.l.length, r.m, false)) = ((4, r.l.length - 4, r.m - 4, false), nm r.l 0) := gs_at (by omega) (.inr ⟨by omega, hr.2.1⟩)
theorem gs2 {r : Rw Int} (hr : Rok r) (h : 16 ≤ r.l.length) : (gs (4, r.l.length - 4, r.m - 4, false), gv r.l (4, r.l.length - 4, r.m - 4, false)) = ((8, r.l.length - 8, r.m - 8, false), nm r.l 4) := by
  have := hr.2.1
  rw [gs_at (by omega) (.inr ⟨by omega, by omega⟩)]
  simp only [Nat.sub_sub]
theorem gs3 {r : Rw Int} (hr : Rok r) (h : 16 ≤ r.l.length) : (gs (8, r.l.length - 8, r.m - 8, false), gv r.l (8, r.l.length - 8, r.m - 8, false)) = ((12, r.l.length - 12, r.m - 12, false), nm r.l 8) := by
  have := hr.2.1
  rw [gs_at (by omega) (.inr ⟨by omega, by omega⟩)]
  simp only [Nat.sub_sub]
theorem grw_app {L l sp M : List Int} {o : Bool} {i c c' : Nat} (hM : 0 < M.length) (h : Grw L l o i c) (h1 : i + M.length ≤ c') (h2 : c' ≤ i + M.length + sp.length) : Grw (L ++ M) (l.take i ++ M ++ sp) (Nat.blt 0 M.length || o) (i + M.length) c' := by
  obtain ⟨e1, e2, e3, e4, e5⟩ := h
  have hl : (l.take i).length = i := by rw [List.length_take]; omega
  refine ⟨by rw [List.length_append, ← e1], ?_, h1, by rw [List.length_append, List.length_append, hl]; exact h2, fun h => ?_⟩
  · rw [List.take_append_of_le_length (by rw [List.length_append, hl]; exact Nat.le_refl _), List.take_of_length_le (by rw [List.length_append, hl]; exact Nat.le_refl _), e2]
  · rw [show Nat.blt 0 M.length = true by rw [Nat.blt_eq]; exact hM] at h; cases h
theorem jok_d {L : List (List Int)} {n : Nat} (U : 0 ≤ nm (L.getD 0 []) 8) (hn : L.length = n) (hg : Jg L) (he : ∀ j, j < n → nm (L.getD j []) 0 = nm (L.getD 0 []) 0 ∧ nm (L.getD j []) 4 = (j : Nat) ∧ nm (L.getD j []) 8 = nm (L.getD 0 []) 8) :
    ((!cn (nm (L.getD 0 []) 0) || decide ((64 : Int) < (n : Int)) || decide (((n * ((L.getD 0 []).length - 12) : Nat) : Int) < nm (L.getD 0 []) 8) || decide ((n : Int) ≠ max 1 ((nm (L.getD 0 []) 8 + (((L.getD 0 []).length : Int) - 12) - 1).tdiv (((L.getD 0 []).length : Int) - 12)))) = false → JOk L (nm (L.getD 0 []) 0) (nm (L.getD 0 []) 8)) ∧
    ((!cn (nm (L.getD 0 []) 0) || decide ((64 : Int) < (n : Int)) || decide (((n * ((L.getD 0 []).length - 12) : Nat) : Int) < nm (L.getD 0 []) 8) || decide ((n : Int) ≠ max 1 ((nm (L.getD 0 []) 8 + (((L.getD 0 []).length : Int) - 12) - 1).tdiv (((L.getD 0 []).length : Int) - 12)))) = true → ∀ x s, ¬ JOk L x s) := by
  subst hn
  have h16 := hg.2.1
  have ep : (((L.getD 0 []).length : Int) - 12) = (((L.getD 0 []).length - 12 : Nat) : Int) := by omega
  rw [ep, Int.tdiv_eq_ediv_of_nonneg (by omega)]
  constructor
  · intro h
    simp only [Bool.or_eq_false_iff, decide_eq_false_iff_not, Bool.not_eq_false', Int.not_lt, Decidable.not_not] at h
    exact ⟨jg_iff.1 hg, he, h.1.1.1, by omega, h.1.2, h.2⟩
  · intro h x s hJ
    obtain ⟨_, k1, k2, k3, k4, k5⟩ := hJ
    obtain ⟨rfl, _, rfl⟩ := k1 0 hg.1
    simp only [Bool.or_eq_true, decide_eq_true_eq, Bool.not_eq_true'] at h
    rcases h with ((h | h) | h) | h
    · rw [k2] at h; cases h
    · omega
    · omega
    · exact h k5
set_option maxHeartbeats 8000000 in
theorem join_ok (o : Bool) (b q : Nat) (l : List (Rw Int)) (i n c : Nat) (h1 : i + n ≤ l.length) (ho : o = false → n = 0 ∧ c = 0) (hr : ∀ r ∈ (l.drop i).take n, Rok r ∧ Bys r.l) (hn : n ≤ 1000000) :
    Does (C := C0) Tryd.prog (.fn 24) [⟨b, q, 1, false, some o, .rows 26 l⟩] [.sl 0 i n c]
    [⟨Unit, fun _ => jbad (rowL l i n), fun _ => .tup [.int .i64 0, .nils, eV 2], fun _ => [⟨b, q, 1, false, some o, .rows 26 l⟩]⟩,
     ⟨Unit, fun _ => ¬ jbad (rowL l i n) ∧ ∀ x s, ¬ JOk (rowL l i n) x s, fun _ => .tup [.int .i64 0, .nils, eV 0], fun _ => [⟨b, q, 1, false, some o, .rows 26 l⟩]⟩,
     ⟨(Int × Nat) × Nat × Nat × List Int, fun y => JOk (rowL l i n) y.1.1 y.1.2 ∧ y.1.2 ≤ y.2.2.2.length ∧ y.2.2.2.take y.1.2 = (jout (rowL l i n)).take y.1.2, fun y => .tup [.int .i64 y.1.1, .sl 1 0 y.1.2 y.1.2, .nili],
      fun y => [⟨b, q, 1, false, some o, .rows 26 l⟩, ⟨y.2.1, y.2.2.1, 1, true, none, .rows 5 y.2.2.2⟩]⟩] := by
  refine loc_fn (P := Tryd.prog) (E := ⟨[fcGetR], [pcNumb], 132, [(2, [], [.p 0, .p 1, .p 2, .p 3]), (7, [], [.p 0, .p 1, .p 2, .p 3]), (18, [], [.p 0, .p 1, .p 2, .p 3]), (22, [], [.p 0, .p 1, .p 2, .p 3]), (23, [], [.p 0, .p 1, .p 2, .p 3, .p 4, .p 5, .p 6, .p 7])], [fB], []⟩) (L := [Jo4 (rowL l i n), Jo14 (rowL l i n)]) mix Tryd.func24 rfl (by kernel_rfl) (by kernel_rfl) rfl rfl ?_
  ((conv => (arg 1; reduce)); with_reducible repeat' (first | exact Tr.yes_h | refine Tr.and_h ?_ ?_ | refine Tr.imp_h fun _ => ?_ | refine Tr.all_h fun _ => ?_ | refine Tr.lf_h ?_))
  all_goals try (first | first | (show Region.lexB _ _ = true; kernel_rfl) | (show planned _ _ = true; kernel_rfl) | exact rfl | exact True.intro | ((try dsimp only [imp, C0, cG, cInt, cPl, cSlot, cPg, rwCodec, cRaw] at *); (try refine inR64 ?_ ?_) <;> (try simp only [List.length_set, List.length_append, List.length_take, List.length_drop]) <;> omega))
  all_goals try (first | (first | first | (show Region.lexB _ _ = true; kernel_rfl) | (show planned _ _ = true; kernel_rfl) | exact rfl | exact True.intro | ((try dsimp only [imp, C0, cG, cInt, cPl, cSlot, cPg, rwCodec, cRaw] at *); (try refine inR64 ?_ ?_) <;> (try simp only [List.length_set, List.length_append, List.length_take, List.length_drop]) <;> omega)) | ((try dsimp only [imp, C0, cG, cInt, cPl, cSlot, cPg, rwCodec, cRaw, Jo4, Jo14] at *); (try simp only [decide_eq_true_eq, decide_eq_false_iff_not, Bool.and_eq_true, Bool.or_eq_true, Bool.or_eq_false_iff, Bool.and_eq_false_iff, Bool.not_eq_true', Bool.not_eq_false', SB.val, List.length_append, List.length_cons, List.length_nil, List.length_take, List.length_drop] at *); (first | omega | exact inR64 (by omega) (by omega) | (refine inR64 ?_ ?_ <;> omega))) | (refine on_of ho ?_; ((try dsimp only [imp, C0, cG, cInt, cPl, cSlot, cPg, rwCodec, cRaw, Jo4, Jo14] at *); (try simp only [decide_eq_true_eq, decide_eq_false_iff_not, Bool.and_eq_true, Bool.or_eq_true, Bool.or_eq_false_iff, Bool.and_eq_false_iff, Bool.not_eq_true', Bool.not_eq_false', SB.val, List.length_append, List.length_cons, List.length_nil, List.length_take, List.length_drop] at *); (first | omega | exact inR64 (by omega) (by omega) | (refine inR64 ?_ ?_ <;> omega)))))
  · rename_i d0
    try dsimp only [fB, C0, cG, cInt, cPl, cSlot, cPg, rwCodec, Jo4, Jo14] at d0
    refine Ends.one () (.inl (by rw [rowL_len h1]; have := of_decide_eq_true d0; omega)) ?_
    ((conv => (arg 1; reduce)); with_reducible repeat' (first | exact Tr.yes_h | refine Tr.and_h ?_ ?_ | refine Tr.imp_h fun _ => ?_ | refine Tr.all_h fun _ => ?_ | refine Tr.lf_h ?_))
    all_goals (first | first | (show Region.lexB _ _ = true; kernel_rfl) | (show planned _ _ = true; kernel_rfl) | exact rfl | exact True.intro | ((try dsimp only [imp, C0, cG, cInt, cPl, cSlot, cPg, rwCodec, cRaw] at *); (try refine inR64 ?_ ?_) <;> (try simp only [List.length_set, List.length_append, List.length_take, List.length_drop]) <;> omega))
  · rename_i d0
    try dsimp only [fB, C0, cG, cInt, cPl, cSlot, cPg, rwCodec, Jo4, Jo14] at d0
    have n0 : 0 < n := by have := of_decide_eq_false d0; omega
    show (0 : Int).toNat + i < l.length
    omega
  · rename_i d0 r0 g0 d1
    try dsimp only [fB, C0, cG, cInt, cPl, cSlot, cPg, rwCodec, Jo4, Jo14] at d0 r0 g0 d1
    have n0 : 0 < n := by have := of_decide_eq_false d0; omega
    obtain ⟨a1, a2, a3⟩ := jr (v := 0) h1 hr n0 g0
    refine Ends.one () (.inr (.inl (by rw [← a1]; have := of_decide_eq_true d1; omega))) ?_
    ((conv => (arg 1; reduce)); with_reducible repeat' (first | exact Tr.yes_h | refine Tr.and_h ?_ ?_ | refine Tr.imp_h fun _ => ?_ | refine Tr.all_h fun _ => ?_ | refine Tr.lf_h ?_))
    all_goals (first | first | (show Region.lexB _ _ = true; kernel_rfl) | (show planned _ _ = true; kernel_rfl) | exact rfl | exact True.intro | ((try dsimp only [imp, C0, cG, cInt, cPl, cSlot, cPg, rwCodec, cRaw] at *); (try refine inR64 ?_ ?_) <;> (try simp only [List.length_set, List.length_append, List.length_take, List.length_drop]) <;> omega))
  · rename_i d0 r0 g0 d1
    try dsimp only [fB, C0, cG, cInt, cPl, cSlot, cPg, rwCodec, Jo4, Jo14] at d0 r0 g0 d1
    have n0 : 0 < n := by have := of_decide_eq_false d0; omega
    show (0 : Int).toNat + i < l.length
    omega
  · rename_i d0 r0 g0 d1 r1 g1 d2
    try dsimp only [fB, C0, cG, cInt, cPl, cSlot, cPg, rwCodec, Jo4, Jo14] at d0 r0 g0 d1 r1 g1 d2
    have n0 : 0 < n := by have := of_decide_eq_false d0; omega
    obtain ⟨a1, a2, a3⟩ := jr (v := 0) h1 hr n0 g0
    obtain ⟨b1, b2, b3⟩ := jr (v := 0) h1 hr n0 g1
    refine Ends.one () (.inr (.inr (.inl (by rw [← b1]; have := of_decide_eq_true d2; omega)))) ?_
    ((conv => (arg 1; reduce)); with_reducible repeat' (first | exact Tr.yes_h | refine Tr.and_h ?_ ?_ | refine Tr.imp_h fun _ => ?_ | refine Tr.all_h fun _ => ?_ | refine Tr.lf_h ?_))
    all_goals (first | first | (show Region.lexB _ _ = true; kernel_rfl) | (show planned _ _ = true; kernel_rfl) | exact rfl | exact True.intro | ((try dsimp only [imp, C0, cG, cInt, cPl, cSlot, cPg, rwCodec, cRaw] at *); (try refine inR64 ?_ ?_) <;> (try simp only [List.length_set, List.length_append, List.length_take, List.length_drop]) <;> omega))
  · rename_i d0 r0 g0 d1 r1 g1 d2
    try dsimp only [fB, C0, cG, cInt, cPl, cSlot, cPg, rwCodec, Jo4, Jo14] at d0 r0 g0 d1 r1 g1 d2
    refine Stands.one (0 : Nat) ⟨⟨Nat.zero_le _, fun j hj => absurd hj (Nat.not_lt_zero j)⟩, ?_⟩
    ((conv => (arg 1; reduce)); with_reducible repeat' (first | exact Tr.yes_h | refine Tr.and_h ?_ ?_ | refine Tr.imp_h fun _ => ?_ | refine Tr.all_h fun _ => ?_ | refine Tr.lf_h ?_))
    all_goals (first | first | (show Region.lexB _ _ = true; kernel_rfl) | (show planned _ _ = true; kernel_rfl) | exact rfl | exact True.intro | ((try dsimp only [imp, C0, cG, cInt, cPl, cSlot, cPg, rwCodec, cRaw] at *); (try refine inR64 ?_ ?_) <;> (try simp only [List.length_set, List.length_append, List.length_take, List.length_drop]) <;> omega))
  · rename_i d0 r0 g0 d1 r1 g1 d2 v hv d3
    try dsimp only [fB, C0, cG, cInt, cPl, cSlot, cPg, rwCodec, Jo4, Jo14] at d0 r0 g0 d1 r1 g1 d2 v hv d3
    have d3 : v < n := Int.ofNat_lt.1 (of_decide_eq_true d3)
    show (v : Int).toNat + i < l.length
    omega
  · rename_i d0 r0 g0 d1 r1 g1 d2 v hv d3 r2 g2
    try dsimp only [fB, C0, cG, cInt, cPl, cSlot, cPg, rwCodec, Jo4, Jo14] at d0 r0 g0 d1 r1 g1 d2 v hv d3 r2 g2
    have n0 : 0 < n := by have := of_decide_eq_false d0; omega
    show (0 : Int).toNat + i < l.length
    omega
  · rename_i d0 r0 g0 d1 r1 g1 d2 v hv d3 r2 g2 r3 g3 d4
    try dsimp only [fB, C0, cG, cInt, cPl, cSlot, cPg, rwCodec, Jo4, Jo14] at d0 r0 g0 d1 r1 g1 d2 v hv d3 r2 g2 r3 g3 d4
    have n0 : 0 < n := by have := of_decide_eq_false d0; omega
    have d3 : v < n := Int.ofNat_lt.1 (of_decide_eq_true d3)
    obtain ⟨a1, a2, a3⟩ := jr h1 hr d3 g2
    obtain ⟨b1, b2, b3⟩ := jr (v := 0) h1 hr n0 g3
    have d4 := of_decide_eq_true d4
    refine Ends.one () (.inr (.inr (.inr ⟨v, by rw [rowL_len h1]; exact d3, by rw [← a1, ← b1]; omega⟩))) ?_
    ((conv => (arg 1; reduce)); with_reducible repeat' (first | exact Tr.yes_h | refine Tr.and_h ?_ ?_ | refine Tr.imp_h fun _ => ?_ | refine Tr.all_h fun _ => ?_ | refine Tr.lf_h ?_))
    all_goals (first | first | (show Region.lexB _ _ = true; kernel_rfl) | (show planned _ _ = true; kernel_rfl) | exact rfl | exact True.intro | ((try dsimp only [imp, C0, cG, cInt, cPl, cSlot, cPg, rwCodec, cRaw] at *); (try refine inR64 ?_ ?_) <;> (try simp only [List.length_set, List.length_append, List.length_take, List.length_drop]) <;> omega))
  · rename_i d0 r0 g0 d1 r1 g1 d2 v hv d3 r2 g2 r3 g3 d4
    try dsimp only [fB, C0, cG, cInt, cPl, cSlot, cPg, rwCodec, Jo4, Jo14] at d0 r0 g0 d1 r1 g1 d2 v hv d3 r2 g2 r3 g3 d4
    have n0 : 0 < n := by have := of_decide_eq_false d0; omega
    have d3 : v < n := Int.ofNat_lt.1 (of_decide_eq_true d3)
    obtain ⟨a1, a2, a3⟩ := jr h1 hr d3 g2
    obtain ⟨b1, b2, b3⟩ := jr (v := 0) h1 hr n0 g3
    have d4 := of_decide_eq_false d4
    have hv2 : ∀ j, j < v → ((rowL l i n).getD j []).length = ((rowL l i n).getD 0 []).length := hv.2
    refine Stands.one (v + 1) ⟨⟨by rw [rowL_len h1]; exact d3, fun j hj => ?_⟩, ?_, ?_⟩
    · rcases Nat.lt_or_ge j v with hj2 | hj2
      · exact hv2 j hj2
      · obtain rfl : j = v := by omega
        rw [← a1, ← b1]; omega
    · show (rowL l i n).length - (v + 1) < (rowL l i n).length - v
      rw [rowL_len h1]; omega
    ((conv => (arg 1; reduce)); with_reducible repeat' (first | exact Tr.yes_h | refine Tr.and_h ?_ ?_ | refine Tr.imp_h fun _ => ?_ | refine Tr.all_h fun _ => ?_ | refine Tr.lf_h ?_))
    all_goals (first | first | (show Region.lexB _ _ = true; kernel_rfl) | (show planned _ _ = true; kernel_rfl) | exact rfl | exact True.intro | ((try dsimp only [imp, C0, cG, cInt, cPl, cSlot, cPg, rwCodec, cRaw] at *); (try refine inR64 ?_ ?_) <;> (try simp only [List.length_set, List.length_append, List.length_take, List.length_drop]) <;> omega))
  · rename_i d0 r0 g0 d1 r1 g1 d2 v hv d3
    try dsimp only [fB, C0, cG, cInt, cPl, cSlot, cPg, rwCodec, Jo4, Jo14] at d0 r0 g0 d1 r1 g1 d2 v hv d3
    have n0 : 0 < n := by have := of_decide_eq_false d0; omega
    show (0 : Int).toNat + i < l.length
    omega
  · rename_i d0 r0 g0 d1 r1 g1 d2 v hv d3 r2 g2
    try dsimp only [fB, C0, cG, cInt, cPl, cSlot, cPg, rwCodec, Jo4, Jo14] at d0 r0 g0 d1 r1 g1 d2 v hv d3 r2 g2
    have n0 : 0 < n := by have := of_decide_eq_false d0; omega
    have JG := jg_of h1 hr n0 g0 d1 g1 d2 hv d3
    obtain ⟨a1, a2, a3⟩ := jr (v := 0) h1 hr n0 g2
    have := a2.2.2
    show inR .i64 ((r2.l.length : Int) - 12)
    exact inR64 (by omega) (by omega)
  · rename_i d0 r0 g0 d1 r1 g1 d2 v hv d3 r2 g2
    try dsimp only [fB, C0, cG, cInt, cPl, cSlot, cPg, rwCodec, Jo4, Jo14] at d0 r0 g0 d1 r1 g1 d2 v hv d3 r2 g2
    have n0 : 0 < n := by have := of_decide_eq_false d0; omega
    show (0 : Int).toNat + i < l.length
    omega
  · rename_i d0 r0 g0 d1 r1 g1 d2 v hv d3 r2 g2 r3 g3 bx
    try dsimp only [fB, C0, cG, cInt, cPl, cSlot, cPg, rwCodec, Jo4, Jo14] at d0 r0 g0 d1 r1 g1 d2 v hv d3 r2 g2 r3 g3 bx
    have n0 : 0 < n := by have := of_decide_eq_false d0; omega
    have JG := jg_of h1 hr n0 g0 d1 g1 d2 hv d3
    obtain ⟨a1, a2, a3⟩ := jr (v := 0) h1 hr n0 g3
    have e16 : 16 ≤ r3.l.length := by rw [a1]; exact JG.2.1
    exact getpre a2 a3 e16 (Nat.zero_le _)
  · rename_i d0 r0 g0 d1 r1 g1 d2 v hv d3 r2 g2 r3 g3 bx y1 y1h
    try dsimp only [fB, C0, cG, cInt, cPl, cSlot, cPg, rwCodec, Jo4, Jo14] at d0 r0 g0 d1 r1 g1 d2 v hv d3 r2 g2 r3 g3 bx y1 y1h
    have n0 : 0 < n := by have := of_decide_eq_false d0; omega
    have JG := jg_of h1 hr n0 g0 d1 g1 d2 hv d3
    obtain ⟨a1, a2, a3⟩ := jr (v := 0) h1 hr n0 g3
    have e16 : 16 ≤ r3.l.length := by rw [a1]; exact JG.2.1
    obtain rfl := y1h.trans (gs1 a2 e16)
    exact getpre (k := 4) a2 a3 e16 (by omega)
  · rename_i d0 r0 g0 d1 r1 g1 d2 v hv d3 r2 g2 r3 g3 bx y1 y1h y2 y2h
    try dsimp only [fB, C0, cG, cInt, cPl, cSlot, cPg, rwCodec, Jo4, Jo14] at d0 r0 g0 d1 r1 g1 d2 v hv d3 r2 g2 r3 g3 bx y1 y1h y2 y2h
    have n0 : 0 < n := by have := of_decide_eq_false d0; omega
    have JG := jg_of h1 hr n0 g0 d1 g1 d2 hv d3
    obtain ⟨a1, a2, a3⟩ := jr (v := 0) h1 hr n0 g3
    have e16 : 16 ≤ r3.l.length := by rw [a1]; exact JG.2.1
    obtain rfl := y1h.trans (gs1 a2 e16)
    obtain rfl := y2h.trans (gs2 a2 e16)
    exact getpre (k := 8) a2 a3 e16 (by omega)
  · rename_i d0 r0 g0 d1 r1 g1 d2 v hv d3 r2 g2 r3 g3 bx y1 y1h y2 y2h y3 y3h
    try dsimp only [fB, C0, cG, cInt, cPl, cSlot, cPg, rwCodec, Jo4, Jo14] at d0 r0 g0 d1 r1 g1 d2 v hv d3 r2 g2 r3 g3 bx y1 y1h y2 y2h y3 y3h
    refine Stands.one (0, false, 0, 0, [], 0) ⟨⟨Nat.zero_le _, ⟨Nat.zero_mul _, by rw [Nat.zero_mul]; rfl, Nat.le_of_eq (Nat.zero_mul _), Nat.le_refl _, fun _ => ⟨Nat.zero_mul _, rfl⟩⟩, fun j hj => absurd hj (Nat.not_lt_zero j)⟩, ?_⟩
    ((conv => (arg 1; reduce)); with_reducible repeat' (first | exact Tr.yes_h | refine Tr.and_h ?_ ?_ | refine Tr.imp_h fun _ => ?_ | refine Tr.all_h fun _ => ?_ | refine Tr.lf_h ?_))
    all_goals try (first | first | (show Region.lexB _ _ = true; kernel_rfl) | (show planned _ _ = true; kernel_rfl) | exact rfl | exact True.intro | ((try dsimp only [imp, C0, cG, cInt, cPl, cSlot, cPg, rwCodec, cRaw] at *); (try refine inR64 ?_ ?_) <;> (try simp only [List.length_set, List.length_append, List.length_take, List.length_drop]) <;> omega))
    all_goals exact (Nat.zero_mul _).symm
  · rename_i d0 r0 g0 d1 r1 g1 d2 v hv d3 r2 g2 r3 g3 bx y1 y1h y2 y2h y3 y3h w hw d5
    try dsimp only [fB, C0, cG, cInt, cPl, cSlot, cPg, rwCodec, Jo4, Jo14] at d0 r0 g0 d1 r1 g1 d2 v hv d3 r2 g2 r3 g3 bx y1 y1h y2 y2h y3 y3h w hw d5
    obtain ⟨k, on, vb, vq, vl, vc⟩ := w
    have d5 : k < n := Int.ofNat_lt.1 (of_decide_eq_true d5)
    show (k : Int).toNat + i < l.length
    omega
  · rename_i d0 r0 g0 d1 r1 g1 d2 v hv d3 r2 g2 r3 g3 bx y1 y1h y2 y2h y3 y3h w hw d5 x gx bz
    try dsimp only [fB, C0, cG, cInt, cPl, cSlot, cPg, rwCodec, Jo4, Jo14] at d0 r0 g0 d1 r1 g1 d2 v hv d3 r2 g2 r3 g3 bx y1 y1h y2 y2h y3 y3h w hw d5 x gx bz
    have n0 : 0 < n := by have := of_decide_eq_false d0; omega
    have JG := jg_of h1 hr n0 g0 d1 g1 d2 hv d3
    obtain ⟨a1, a2, a3⟩ := jr (v := 0) h1 hr n0 g3
    have e16 : 16 ≤ r3.l.length := by rw [a1]; exact JG.2.1
    obtain rfl := y1h.trans (gs1 a2 e16)
    obtain rfl := y2h.trans (gs2 a2 e16)
    obtain rfl := y3h.trans (gs3 a2 e16)
    obtain ⟨k, on, vb, vq, vl, vc⟩ := w
    have d5 : k < n := Int.ofNat_lt.1 (of_decide_eq_true d5)
    obtain ⟨x1, x2, x3⟩ := jr h1 hr d5 gx
    have x4 : x.l.length = r3.l.length := by rw [x1, a1]; exact JG.2.2.2 k (by rw [rowL_len h1]; exact d5)
    have x5 : 16 ≤ x.l.length := by omega
    exact getpre x2 x3 x5 (Nat.zero_le _)
  · rename_i d0 r0 g0 d1 r1 g1 d2 v hv d3 r2 g2 r3 g3 bx y1 y1h y2 y2h y3 y3h w hw d5 x gx bz z1 z1h d6
    try dsimp only [fB, C0, cG, cInt, cPl, cSlot, cPg, rwCodec, Jo4, Jo14] at d0 r0 g0 d1 r1 g1 d2 v hv d3 r2 g2 r3 g3 bx y1 y1h y2 y2h y3 y3h w hw d5 x gx bz z1 z1h d6
    have n0 : 0 < n := by have := of_decide_eq_false d0; omega
    have JG := jg_of h1 hr n0 g0 d1 g1 d2 hv d3
    obtain ⟨a1, a2, a3⟩ := jr (v := 0) h1 hr n0 g3
    have e16 : 16 ≤ r3.l.length := by rw [a1]; exact JG.2.1
    obtain rfl := y1h.trans (gs1 a2 e16)
    obtain rfl := y2h.trans (gs2 a2 e16)
    obtain rfl := y3h.trans (gs3 a2 e16)
    obtain ⟨k, on, vb, vq, vl, vc⟩ := w
    have d5 : k < n := Int.ofNat_lt.1 (of_decide_eq_true d5)
    obtain ⟨x1, x2, x3⟩ := jr h1 hr d5 gx
    have x4 : x.l.length = r3.l.length := by rw [x1, a1]; exact JG.2.2.2 k (by rw [rowL_len h1]; exact d5)
    have x5 : 16 ≤ x.l.length := by omega
    obtain rfl := z1h.trans (gs1 x2 x5)
    refine Ends.next (Ends.one () ⟨jg_iff.1 JG, fun a s h => ?_⟩ ?_)
    · obtain ⟨u1, u2, u3⟩ := h.2.1 k (by rw [rowL_len h1]; exact d5)
      obtain ⟨v1, v2, v3⟩ := h.2.1 0 (by rw [rowL_len h1]; exact n0)
      rw [← x1] at u1 u2 u3
      rw [← a1] at v1 v2 v3
      have d9 := of_decide_eq_true d6
      dsimp only at d9
      omega
    ((conv => (arg 1; reduce)); with_reducible repeat' (first | exact Tr.yes_h | refine Tr.and_h ?_ ?_ | refine Tr.imp_h fun _ => ?_ | refine Tr.all_h fun _ => ?_ | refine Tr.lf_h ?_))
    all_goals (first | first | (show Region.lexB _ _ = true; kernel_rfl) | (show planned _ _ = true; kernel_rfl) | exact rfl | exact True.intro | ((try dsimp only [imp, C0, cG, cInt, cPl, cSlot, cPg, rwCodec, cRaw] at *); (try refine inR64 ?_ ?_) <;> (try simp only [List.length_set, List.length_append, List.length_take, List.length_drop]) <;> omega))
  · rename_i d0 r0 g0 d1 r1 g1 d2 v hv d3 r2 g2 r3 g3 bx y1 y1h y2 y2h y3 y3h w hw d5 x gx bz z1 z1h d6
    try dsimp only [fB, C0, cG, cInt, cPl, cSlot, cPg, rwCodec, Jo4, Jo14] at d0 r0 g0 d1 r1 g1 d2 v hv d3 r2 g2 r3 g3 bx y1 y1h y2 y2h y3 y3h w hw d5 x gx bz z1 z1h d6
    have n0 : 0 < n := by have := of_decide_eq_false d0; omega
    have JG := jg_of h1 hr n0 g0 d1 g1 d2 hv d3
    obtain ⟨a1, a2, a3⟩ := jr (v := 0) h1 hr n0 g3
    have e16 : 16 ≤ r3.l.length := by rw [a1]; exact JG.2.1
    obtain rfl := y1h.trans (gs1 a2 e16)
    obtain rfl := y2h.trans (gs2 a2 e16)
    obtain rfl := y3h.trans (gs3 a2 e16)
    obtain ⟨k, on, vb, vq, vl, vc⟩ := w
    have d5 : k < n := Int.ofNat_lt.1 (of_decide_eq_true d5)
    obtain ⟨x1, x2, x3⟩ := jr h1 hr d5 gx
    have x4 : x.l.length = r3.l.length := by rw [x1, a1]; exact JG.2.2.2 k (by rw [rowL_len h1]; exact d5)
    have x5 : 16 ≤ x.l.length := by omega
    obtain rfl := z1h.trans (gs1 x2 x5)
    exact getpre (k := 4) x2 x3 x5 (by omega)
  · rename_i d0 r0 g0 d1 r1 g1 d2 v hv d3 r2 g2 r3 g3 bx y1 y1h y2 y2h y3 y3h w hw d5 x gx bz z1 z1h d6 z2 z2h d7
    try dsimp only [fB, C0, cG, cInt, cPl, cSlot, cPg, rwCodec, Jo4, Jo14] at d0 r0 g0 d1 r1 g1 d2 v hv d3 r2 g2 r3 g3 bx y1 y1h y2 y2h y3 y3h w hw d5 x gx bz z1 z1h d6 z2 z2h d7
    have n0 : 0 < n := by have := of_decide_eq_false d0; omega
    have JG := jg_of h1 hr n0 g0 d1 g1 d2 hv d3
    obtain ⟨a1, a2, a3⟩ := jr (v := 0) h1 hr n0 g3
    have e16 : 16 ≤ r3.l.length := by rw [a1]; exact JG.2.1
    obtain rfl := y1h.trans (gs1 a2 e16)
    obtain rfl := y2h.trans (gs2 a2 e16)
    obtain rfl := y3h.trans (gs3 a2 e16)
    obtain ⟨k, on, vb, vq, vl, vc⟩ := w
    have d5 : k < n := Int.ofNat_lt.1 (of_decide_eq_true d5)
    obtain ⟨x1, x2, x3⟩ := jr h1 hr d5 gx
    have x4 : x.l.length = r3.l.length := by rw [x1, a1]; exact JG.2.2.2 k (by rw [rowL_len h1]; exact d5)
    have x5 : 16 ≤ x.l.length := by omega
    obtain rfl := z1h.trans (gs1 x2 x5)
    obtain rfl := z2h.trans (gs2 x2 x5)
    refine Ends.next (Ends.one () ⟨jg_iff.1 JG, fun a s h => ?_⟩ ?_)
    · obtain ⟨u1, u2, u3⟩ := h.2.1 k (by rw [rowL_len h1]; exact d5)
      obtain ⟨v1, v2, v3⟩ := h.2.1 0 (by rw [rowL_len h1]; exact n0)
      rw [← x1] at u1 u2 u3
      rw [← a1] at v1 v2 v3
      have d9 := of_decide_eq_true d7
      dsimp only at d9
      omega
    ((conv => (arg 1; reduce)); with_reducible repeat' (first | exact Tr.yes_h | refine Tr.and_h ?_ ?_ | refine Tr.imp_h fun _ => ?_ | refine Tr.all_h fun _ => ?_ | refine Tr.lf_h ?_))
    all_goals (first | first | (show Region.lexB _ _ = true; kernel_rfl) | (show planned _ _ = true; kernel_rfl) | exact rfl | exact True.intro | ((try dsimp only [imp, C0, cG, cInt, cPl, cSlot, cPg, rwCodec, cRaw] at *); (try refine inR64 ?_ ?_) <;> (try simp only [List.length_set, List.length_append, List.length_take, List.length_drop]) <;> omega))
  · rename_i d0 r0 g0 d1 r1 g1 d2 v hv d3 r2 g2 r3 g3 bx y1 y1h y2 y2h y3 y3h w hw d5 x gx bz z1 z1h d6 z2 z2h d7
    try dsimp only [fB, C0, cG, cInt, cPl, cSlot, cPg, rwCodec, Jo4, Jo14] at d0 r0 g0 d1 r1 g1 d2 v hv d3 r2 g2 r3 g3 bx y1 y1h y2 y2h y3 y3h w hw d5 x gx bz z1 z1h d6 z2 z2h d7
    have n0 : 0 < n := by have := of_decide_eq_false d0; omega
    have JG := jg_of h1 hr n0 g0 d1 g1 d2 hv d3
    obtain ⟨a1, a2, a3⟩ := jr (v := 0) h1 hr n0 g3
    have e16 : 16 ≤ r3.l.length := by rw [a1]; exact JG.2.1
    obtain rfl := y1h.trans (gs1 a2 e16)
    obtain rfl := y2h.trans (gs2 a2 e16)
    obtain rfl := y3h.trans (gs3 a2 e16)
    obtain ⟨k, on, vb, vq, vl, vc⟩ := w
    have d5 : k < n := Int.ofNat_lt.1 (of_decide_eq_true d5)
    obtain ⟨x1, x2, x3⟩ := jr h1 hr d5 gx
    have x4 : x.l.length = r3.l.length := by rw [x1, a1]; exact JG.2.2.2 k (by rw [rowL_len h1]; exact d5)
    have x5 : 16 ≤ x.l.length := by omega
    obtain rfl := z1h.trans (gs1 x2 x5)
    obtain rfl := z2h.trans (gs2 x2 x5)
    exact getpre (k := 8) x2 x3 x5 (by omega)
  · rename_i d0 r0 g0 d1 r1 g1 d2 v hv d3 r2 g2 r3 g3 bx y1 y1h y2 y2h y3 y3h w hw d5 x gx bz z1 z1h d6 z2 z2h d7 z3 z3h d8
    try dsimp only [fB, C0, cG, cInt, cPl, cSlot, cPg, rwCodec, Jo4, Jo14] at d0 r0 g0 d1 r1 g1 d2 v hv d3 r2 g2 r3 g3 bx y1 y1h y2 y2h y3 y3h w hw d5 x gx bz z1 z1h d6 z2 z2h d7 z3 z3h d8
    have n0 : 0 < n := by have := of_decide_eq_false d0; omega
    have JG := jg_of h1 hr n0 g0 d1 g1 d2 hv d3
    obtain ⟨a1, a2, a3⟩ := jr (v := 0) h1 hr n0 g3
    have e16 : 16 ≤ r3.l.length := by rw [a1]; exact JG.2.1
    obtain rfl := y1h.trans (gs1 a2 e16)
    obtain rfl := y2h.trans (gs2 a2 e16)
    obtain rfl := y3h.trans (gs3 a2 e16)
    obtain ⟨k, on, vb, vq, vl, vc⟩ := w
    have d5 : k < n := Int.ofNat_lt.1 (of_decide_eq_true d5)
    obtain ⟨x1, x2, x3⟩ := jr h1 hr d5 gx
    have x4 : x.l.length = r3.l.length := by rw [x1, a1]; exact JG.2.2.2 k (by rw [rowL_len h1]; exact d5)
    have x5 : 16 ≤ x.l.length := by omega
    obtain rfl := z1h.trans (gs1 x2 x5)
    obtain rfl := z2h.trans (gs2 x2 x5)
    obtain rfl := z3h.trans (gs3 x2 x5)
    refine Ends.next (Ends.one () ⟨jg_iff.1 JG, fun a s h => ?_⟩ ?_)
    · obtain ⟨u1, u2, u3⟩ := h.2.1 k (by rw [rowL_len h1]; exact d5)
      obtain ⟨v1, v2, v3⟩ := h.2.1 0 (by rw [rowL_len h1]; exact n0)
      rw [← x1] at u1 u2 u3
      rw [← a1] at v1 v2 v3
      have d9 := of_decide_eq_true d8
      dsimp only at d9
      omega
    ((conv => (arg 1; reduce)); with_reducible repeat' (first | exact Tr.yes_h | refine Tr.and_h ?_ ?_ | refine Tr.imp_h fun _ => ?_ | refine Tr.all_h fun _ => ?_ | refine Tr.lf_h ?_))
    all_goals (first | first | (show Region.lexB _ _ = true; kernel_rfl) | (show planned _ _ = true; kernel_rfl) | exact rfl | exact True.intro | ((try dsimp only [imp, C0, cG, cInt, cPl, cSlot, cPg, rwCodec, cRaw] at *); (try refine inR64 ?_ ?_) <;> (try simp only [List.length_set, List.length_append, List.length_take, List.length_drop]) <;> omega))
  · rename_i d0 r0 g0 d1 r1 g1 d2 v hv d3 r2 g2 r3 g3 bx y1 y1h y2 y2h y3 y3h w hw d5 x gx bz z1 z1h d6 z2 z2h d7 z3 z3h d8
    try dsimp only [fB, C0, cG, cInt, cPl, cSlot, cPg, rwCodec, Jo4, Jo14] at d0 r0 g0 d1 r1 g1 d2 v hv d3 r2 g2 r3 g3 bx y1 y1h y2 y2h y3 y3h w hw d5 x gx bz z1 z1h d6 z2 z2h d7 z3 z3h d8
    have n0 : 0 < n := by have := of_decide_eq_false d0; omega
    have JG := jg_of h1 hr n0 g0 d1 g1 d2 hv d3
    obtain ⟨a1, a2, a3⟩ := jr (v := 0) h1 hr n0 g3
    have e16 : 16 ≤ r3.l.length := by rw [a1]; exact JG.2.1
    obtain rfl := y1h.trans (gs1 a2 e16)
    obtain rfl := y2h.trans (gs2 a2 e16)
    obtain rfl := y3h.trans (gs3 a2 e16)
    obtain ⟨k, on, vb, vq, vl, vc⟩ := w
    have d5 : k < n := Int.ofNat_lt.1 (of_decide_eq_true d5)
    obtain ⟨x1, x2, x3⟩ := jr h1 hr d5 gx
    have x4 : x.l.length = r3.l.length := by rw [x1, a1]; exact JG.2.2.2 k (by rw [rowL_len h1]; exact d5)
    have x5 : 16 ≤ x.l.length := by omega
    obtain rfl := z1h.trans (gs1 x2 x5)
    obtain rfl := z2h.trans (gs2 x2 x5)
    obtain rfl := z3h.trans (gs3 x2 x5)
    have e1 : Grw (jout ((rowL l i n).take k)) vl on (k * (((rowL l i n).getD 0 []).length - 12)) vc := hw.2.1
    have e2 : ∀ j, j < k → nm ((rowL l i n).getD j []) 0 = nm ((rowL l i n).getD 0 []) 0 ∧ nm ((rowL l i n).getD j []) 4 = (j : Nat) ∧ nm ((rowL l i n).getD j []) 8 = nm ((rowL l i n).getD 0 []) 8 := hw.2.2
    have hkp : k * (((rowL l i n).getD 0 []).length - 12) ≤ 1000000 * 1012 := Nat.mul_le_mul (by omega) (by have := JG.2.2.1; omega)
    rw [by5]
    refine ⟨e1.2.2.1, by show 0 + vc ≤ vl.length; have := e1.2.2.2.1; omega, by show 12 + (x.l.length - 12) ≤ x.l.length; omega, ?_⟩
    show (k * (((rowL l i n).getD 0 []).length - 12) + (x.l.length - 12)) * 1 ≤ 140737488355328
    have x6 : x.l.length ≤ 1024 := by have := JG.2.2.1; rw [← a1] at this; omega
    omega
  · rename_i d0 r0 g0 d1 r1 g1 d2 v hv d3 r2 g2 r3 g3 bx y1 y1h y2 y2h y3 y3h w hw d5 x gx bz z1 z1h d6 z2 z2h d7 z3 z3h d8
    try dsimp only [fB, C0, cG, cInt, cPl, cSlot, cPg, rwCodec, Jo4, Jo14] at d0 r0 g0 d1 r1 g1 d2 v hv d3 r2 g2 r3 g3 bx y1 y1h y2 y2h y3 y3h w hw d5 x gx bz z1 z1h d6 z2 z2h d7 z3 z3h d8
    have n0 : 0 < n := by have := of_decide_eq_false d0; omega
    have JG := jg_of h1 hr n0 g0 d1 g1 d2 hv d3
    obtain ⟨a1, a2, a3⟩ := jr (v := 0) h1 hr n0 g3
    have e16 : 16 ≤ r3.l.length := by rw [a1]; exact JG.2.1
    obtain rfl := y1h.trans (gs1 a2 e16)
    obtain rfl := y2h.trans (gs2 a2 e16)
    obtain rfl := y3h.trans (gs3 a2 e16)
    obtain ⟨k, on, vb, vq, vl, vc⟩ := w
    have d5 : k < n := Int.ofNat_lt.1 (of_decide_eq_true d5)
    obtain ⟨x1, x2, x3⟩ := jr h1 hr d5 gx
    have x4 : x.l.length = r3.l.length := by rw [x1, a1]; exact JG.2.2.2 k (by rw [rowL_len h1]; exact d5)
    have x5 : 16 ≤ x.l.length := by omega
    have e1 : Grw (jout ((rowL l i n).take k)) vl on (k * (((rowL l i n).getD 0 []).length - 12)) vc := hw.2.1
    have e2 : ∀ j, j < k → nm ((rowL l i n).getD j []) 0 = nm ((rowL l i n).getD 0 []) 0 ∧ nm ((rowL l i n).getD j []) 4 = (j : Nat) ∧ nm ((rowL l i n).getD j []) 8 = nm ((rowL l i n).getD 0 []) 8 := hw.2.2
    exact e1.2.2.2.2
  · rename_i d0 r0 g0 d1 r1 g1 d2 v hv d3 r2 g2 r3 g3 bx y1 y1h y2 y2h y3 y3h w hw d5 x gx bz z1 z1h d6 z2 z2h d7 z3 z3h d8
    try dsimp only [fB, C0, cG, cInt, cPl, cSlot, cPg, rwCodec, Jo4, Jo14] at d0 r0 g0 d1 r1 g1 d2 v hv d3 r2 g2 r3 g3 bx y1 y1h y2 y2h y3 y3h w hw d5 x gx bz z1 z1h d6 z2 z2h d7 z3 z3h d8
    have n0 : 0 < n := by have := of_decide_eq_false d0; omega
    have JG := jg_of h1 hr n0 g0 d1 g1 d2 hv d3
    obtain ⟨a1, a2, a3⟩ := jr (v := 0) h1 hr n0 g3
    have e16 : 16 ≤ r3.l.length := by rw [a1]; exact JG.2.1
    obtain rfl := y1h.trans (gs1 a2 e16)
    obtain rfl := y2h.trans (gs2 a2 e16)
    obtain rfl := y3h.trans (gs3 a2 e16)
    obtain ⟨k, on, vb, vq, vl, vc⟩ := w
    have d5 : k < n := Int.ofNat_lt.1 (of_decide_eq_true d5)
    obtain ⟨x1, x2, x3⟩ := jr h1 hr d5 gx
    have x4 : x.l.length = r3.l.length := by rw [x1, a1]; exact JG.2.2.2 k (by rw [rowL_len h1]; exact d5)
    have x5 : 16 ≤ x.l.length := by omega
    intro ho
    have := (x2.1 ho).1
    omega
  · rename_i d0 r0 g0 d1 r1 g1 d2 v hv d3 r2 g2 r3 g3 bx y1 y1h y2 y2h y3 y3h w hw d5 x gx bz z1 z1h d6 z2 z2h d7 z3 z3h d8 b9 q9 sp c9 m1 m2
    try dsimp only [fB, C0, cG, cInt, cPl, cSlot, cPg, rwCodec, Jo4, Jo14] at d0 r0 g0 d1 r1 g1 d2 v hv d3 r2 g2 r3 g3 bx y1 y1h y2 y2h y3 y3h w hw d5 x gx bz z1 z1h d6 z2 z2h d7 z3 z3h d8 b9 q9 sp c9 m1 m2
    have n0 : 0 < n := by have := of_decide_eq_false d0; omega
    have JG := jg_of h1 hr n0 g0 d1 g1 d2 hv d3
    obtain ⟨a1, a2, a3⟩ := jr (v := 0) h1 hr n0 g3
    have e16 : 16 ≤ r3.l.length := by rw [a1]; exact JG.2.1
    obtain rfl := y1h.trans (gs1 a2 e16)
    obtain rfl := y2h.trans (gs2 a2 e16)
    obtain rfl := y3h.trans (gs3 a2 e16)
    obtain ⟨k, on, vb, vq, vl, vc⟩ := w
    have d5 : k < n := Int.ofNat_lt.1 (of_decide_eq_true d5)
    obtain ⟨x1, x2, x3⟩ := jr h1 hr d5 gx
    have x4 : x.l.length = r3.l.length := by rw [x1, a1]; exact JG.2.2.2 k (by rw [rowL_len h1]; exact d5)
    have x5 : 16 ≤ x.l.length := by omega
    obtain rfl := z1h.trans (gs1 x2 x5)
    obtain rfl := z2h.trans (gs2 x2 x5)
    obtain rfl := z3h.trans (gs3 x2 x5)
    have e1 : Grw (jout ((rowL l i n).take k)) vl on (k * (((rowL l i n).getD 0 []).length - 12)) vc := hw.2.1
    have e2 : ∀ j, j < k → nm ((rowL l i n).getD j []) 0 = nm ((rowL l i n).getD 0 []) 0 ∧ nm ((rowL l i n).getD j []) 4 = (j : Nat) ∧ nm ((rowL l i n).getD j []) 8 = nm ((rowL l i n).getD 0 []) 8 := hw.2.2
    have d6 := of_decide_eq_false d6
    have d7 := of_decide_eq_false d7
    have d8 := of_decide_eq_false d8
    have hp : x.l.length - 12 = ((rowL l i n).getD 0 []).length - 12 := by rw [← a1]; omega
    have e5 := grw_app (M := x.l.drop 12) (sp := sp) (c' := c9) (by rw [List.length_drop]; omega) e1 (by rw [List.length_drop]; exact m1) (by rw [List.length_drop]; exact m2)
    rw [List.length_drop] at e5
    have e6 : jout ((rowL l i n).take (k + 1)) = jout ((rowL l i n).take k) ++ x.l.drop 12 := by
      unfold jout
      rw [take_snoc (d := []) (by rw [rowL_len h1]; exact d5), List.flatMap_append, ← x1]
      simp
    have e7 : (x.l.drop 12).take (x.l.length - 12) = x.l.drop 12 := List.take_of_length_le (by rw [List.length_drop]; exact Nat.le_refl _)
    refine Stands.one (k + 1, (Nat.blt 0 (x.l.length - 12) || on), b9, q9, vl.take (k * (((rowL l i n).getD 0 []).length - 12)) ++ (x.l.drop 12).take (x.l.length - 12) ++ sp, c9) ⟨⟨by rw [rowL_len h1]; exact d5, ?_, fun j hj => ?_⟩, ?_, ?_⟩
    · show Grw (jout ((rowL l i n).take (k + 1))) _ _ ((k + 1) * (((rowL l i n).getD 0 []).length - 12)) c9
      rw [e6, e7, Nat.add_mul, Nat.one_mul, ← hp]
      rw [← hp] at e5
      exact e5
    · rcases Nat.lt_or_ge j k with hj2 | hj2
      · exact e2 j hj2
      · obtain rfl : j = k := by have hj : j < k + 1 := hj; omega
        rw [← x1, ← a1]
        dsimp only at d6 d7 d8
        exact ⟨by omega, by omega, by omega⟩
    · show (rowL l i n).length - (k + 1) < (rowL l i n).length - k
      rw [rowL_len h1]; omega
    ((conv => (arg 1; reduce)); with_reducible repeat' (first | exact Tr.yes_h | refine Tr.and_h ?_ ?_ | refine Tr.imp_h fun _ => ?_ | refine Tr.all_h fun _ => ?_ | refine Tr.lf_h ?_))
    all_goals try (first | first | (show Region.lexB _ _ = true; kernel_rfl) | (show planned _ _ = true; kernel_rfl) | exact rfl | exact True.intro | ((try dsimp only [imp, C0, cG, cInt, cPl, cSlot, cPg, rwCodec, cRaw] at *); (try refine inR64 ?_ ?_) <;> (try simp only [List.length_set, List.length_append, List.length_take, List.length_drop]) <;> omega))
    show k * (((rowL l i n).getD 0 []).length - 12) + (x.l.length - 12) = (k + 1) * (((rowL l i n).getD 0 []).length - 12)
    rw [Nat.add_mul, Nat.one_mul, hp]
  · rename_i d0 r0 g0 d1 r1 g1 d2 v hv d3 r2 g2 r3 g3 bx y1 y1h y2 y2h y3 y3h w hw d5 bq
    try dsimp only [fB, C0, cG, cInt, cPl, cSlot, cPg, rwCodec, Jo4, Jo14] at d0 r0 g0 d1 r1 g1 d2 v hv d3 r2 g2 r3 g3 bx y1 y1h y2 y2h y3 y3h w hw d5 bq
    exact ⟨Nat.le_refl 1, by decide, fun h => Bool.noConfusion h⟩
  · rename_i d0 r0 g0 d1 r1 g1 d2 v hv d3 r2 g2 r3 g3 bx y1 y1h y2 y2h y3 y3h w hw d5 bq d9
    try dsimp only [fB, C0, cG, cInt, cPl, cSlot, cPg, rwCodec, Jo4, Jo14] at d0 r0 g0 d1 r1 g1 d2 v hv d3 r2 g2 r3 g3 bx y1 y1h y2 y2h y3 y3h w hw d5 bq d9
    have n0 : 0 < n := by have := of_decide_eq_false d0; omega
    have JG := jg_of h1 hr n0 g0 d1 g1 d2 hv d3
    obtain ⟨a1, a2, a3⟩ := jr (v := 0) h1 hr n0 g3
    have e16 : 16 ≤ r3.l.length := by rw [a1]; exact JG.2.1
    obtain rfl := y1h.trans (gs1 a2 e16)
    obtain rfl := y2h.trans (gs2 a2 e16)
    obtain rfl := y3h.trans (gs3 a2 e16)
    have U := (four_nm a3 (j := 8) (by omega)).2
    unfold U32 at U
    have u1 := a2.2.2
    obtain ⟨c1, c2, c3⟩ := jr (v := 0) h1 hr n0 g2
    have c4 : r2.l.length = r3.l.length := by rw [c1, a1]
    show inR .i64 (nm r3.l 8 + ((r2.l.length : Int) - 12))
    exact inR64 (by omega) (by omega)
  · rename_i d0 r0 g0 d1 r1 g1 d2 v hv d3 r2 g2 r3 g3 bx y1 y1h y2 y2h y3 y3h w hw d5 bq d9
    try dsimp only [fB, C0, cG, cInt, cPl, cSlot, cPg, rwCodec, Jo4, Jo14] at d0 r0 g0 d1 r1 g1 d2 v hv d3 r2 g2 r3 g3 bx y1 y1h y2 y2h y3 y3h w hw d5 bq d9
    have n0 : 0 < n := by have := of_decide_eq_false d0; omega
    have JG := jg_of h1 hr n0 g0 d1 g1 d2 hv d3
    obtain ⟨a1, a2, a3⟩ := jr (v := 0) h1 hr n0 g3
    have e16 : 16 ≤ r3.l.length := by rw [a1]; exact JG.2.1
    obtain rfl := y1h.trans (gs1 a2 e16)
    obtain rfl := y2h.trans (gs2 a2 e16)
    obtain rfl := y3h.trans (gs3 a2 e16)
    have U := (four_nm a3 (j := 8) (by omega)).2
    unfold U32 at U
    have u1 := a2.2.2
    obtain ⟨c1, c2, c3⟩ := jr (v := 0) h1 hr n0 g2
    have c4 : r2.l.length = r3.l.length := by rw [c1, a1]
    show inR .i64 (nm r3.l 8 + ((r2.l.length : Int) - 12) - 1)
    exact inR64 (by omega) (by omega)
  · rename_i d0 r0 g0 d1 r1 g1 d2 v hv d3 r2 g2 r3 g3 bx y1 y1h y2 y2h y3 y3h w hw d5 bq d9
    try dsimp only [fB, C0, cG, cInt, cPl, cSlot, cPg, rwCodec, Jo4, Jo14] at d0 r0 g0 d1 r1 g1 d2 v hv d3 r2 g2 r3 g3 bx y1 y1h y2 y2h y3 y3h w hw d5 bq d9
    have n0 : 0 < n := by have := of_decide_eq_false d0; omega
    have JG := jg_of h1 hr n0 g0 d1 g1 d2 hv d3
    obtain ⟨a1, a2, a3⟩ := jr (v := 0) h1 hr n0 g2
    have e16 : 16 ≤ r2.l.length := by rw [a1]; exact JG.2.1
    show ((r2.l.length : Int) - 12) ≠ 0
    omega
  · rename_i d0 r0 g0 d1 r1 g1 d2 v hv d3 r2 g2 r3 g3 bx y1 y1h y2 y2h y3 y3h w hw d5 bq d9
    try dsimp only [fB, C0, cG, cInt, cPl, cSlot, cPg, rwCodec, Jo4, Jo14] at d0 r0 g0 d1 r1 g1 d2 v hv d3 r2 g2 r3 g3 bx y1 y1h y2 y2h y3 y3h w hw d5 bq d9
    have n0 : 0 < n := by have := of_decide_eq_false d0; omega
    have JG := jg_of h1 hr n0 g0 d1 g1 d2 hv d3
    obtain ⟨a1, a2, a3⟩ := jr (v := 0) h1 hr n0 g3
    have e16 : 16 ≤ r3.l.length := by rw [a1]; exact JG.2.1
    obtain rfl := y1h.trans (gs1 a2 e16)
    obtain rfl := y2h.trans (gs2 a2 e16)
    obtain rfl := y3h.trans (gs3 a2 e16)
    have U := (four_nm a3 (j := 8) (by omega)).2
    unfold U32 at U
    have u1 := a2.2.2
    obtain ⟨c1, c2, c3⟩ := jr (v := 0) h1 hr n0 g2
    have c4 : r2.l.length = r3.l.length := by rw [c1, a1]
    show inR .i64 ((nm r3.l 8 + ((r2.l.length : Int) - 12) - 1).tdiv ((r2.l.length : Int) - 12))
    rw [Int.tdiv_eq_ediv_of_nonneg (by omega)]
    have q1 : 0 ≤ (nm r3.l 8 + ((r2.l.length : Int) - 12) - 1) / ((r2.l.length : Int) - 12) := Int.ediv_nonneg (by omega) (by omega)
    have q2 : (nm r3.l 8 + ((r2.l.length : Int) - 12) - 1) / ((r2.l.length : Int) - 12) ≤ nm r3.l 8 + ((r2.l.length : Int) - 12) - 1 := Int.ediv_le_self _ (by omega)
    exact inR64 (by omega) (by omega)
  · rename_i d0 r0 g0 d1 r1 g1 d2 v hv d3 r2 g2 r3 g3 bx y1 y1h y2 y2h y3 y3h w hw d5 bq d9
    try dsimp only [fB, C0, cG, cInt, cPl, cSlot, cPg, rwCodec, Jo4, Jo14] at d0 r0 g0 d1 r1 g1 d2 v hv d3 r2 g2 r3 g3 bx y1 y1h y2 y2h y3 y3h w hw d5 bq d9
    have n0 : 0 < n := by have := of_decide_eq_false d0; omega
    have JG := jg_of h1 hr n0 g0 d1 g1 d2 hv d3
    obtain ⟨a1, a2, a3⟩ := jr (v := 0) h1 hr n0 g3
    have e16 : 16 ≤ r3.l.length := by rw [a1]; exact JG.2.1
    obtain rfl := y1h.trans (gs1 a2 e16)
    obtain rfl := y2h.trans (gs2 a2 e16)
    obtain rfl := y3h.trans (gs3 a2 e16)
    obtain ⟨k, on, vb, vq, vl, vc⟩ := w
    have d5 : ¬ k < n := fun h => of_decide_eq_false d5 (Int.ofNat_lt.2 h)
    obtain rfl : k = n := by have : k ≤ (rowL l i n).length := hw.1; rw [rowL_len h1] at this; omega
    have e1 : Grw (jout ((rowL l i k).take k)) vl on (k * (((rowL l i k).getD 0 []).length - 12)) vc := hw.2.1
    have e2 : ∀ j, j < k → nm ((rowL l i k).getD j []) 0 = nm ((rowL l i k).getD 0 []) 0 ∧ nm ((rowL l i k).getD j []) 4 = (j : Nat) ∧ nm ((rowL l i k).getD j []) 8 = nm ((rowL l i k).getD 0 []) 8 := hw.2.2
    have U := (four_nm a3 (j := 8) (by omega)).2
    unfold U32 at U
    have u1 := a2.2.2
    obtain ⟨c1, c2, c3⟩ := jr (v := 0) h1 hr n0 g2
    have c4 : r2.l.length = r3.l.length := by rw [c1, a1]
    have d9 : (!alln [nm r3.l 0] || decide ((64 : Int) < (k : Int)) || decide (((k * (((rowL l i k).getD 0 []).length - 12) : Nat) : Int) < nm r3.l 8) || decide ((k : Int) ≠ max 1 ((nm r3.l 8 + ((r2.l.length : Int) - 12) - 1).tdiv ((r2.l.length : Int) - 12)))) = true := d9
    rw [c4, alln1, a1] at d9
    have := (jok_d (U := by rw [← a1]; exact U.1) (rowL_len h1) JG e2).2 d9
    refine Ends.next (Ends.one () ⟨jg_iff.1 JG, this⟩ ?_)
    ((conv => (arg 1; reduce)); with_reducible repeat' (first | exact Tr.yes_h | refine Tr.and_h ?_ ?_ | refine Tr.imp_h fun _ => ?_ | refine Tr.all_h fun _ => ?_ | refine Tr.lf_h ?_))
    all_goals (first | first | (show Region.lexB _ _ = true; kernel_rfl) | (show planned _ _ = true; kernel_rfl) | exact rfl | exact True.intro | ((try dsimp only [imp, C0, cG, cInt, cPl, cSlot, cPg, rwCodec, cRaw] at *); (try refine inR64 ?_ ?_) <;> (try simp only [List.length_set, List.length_append, List.length_take, List.length_drop]) <;> omega))
  · rename_i d0 r0 g0 d1 r1 g1 d2 v hv d3 r2 g2 r3 g3 bx y1 y1h y2 y2h y3 y3h w hw d5 bq d9
    try dsimp only [fB, C0, cG, cInt, cPl, cSlot, cPg, rwCodec, Jo4, Jo14] at d0 r0 g0 d1 r1 g1 d2 v hv d3 r2 g2 r3 g3 bx y1 y1h y2 y2h y3 y3h w hw d5 bq d9
    have n0 : 0 < n := by have := of_decide_eq_false d0; omega
    have JG := jg_of h1 hr n0 g0 d1 g1 d2 hv d3
    obtain ⟨a1, a2, a3⟩ := jr (v := 0) h1 hr n0 g3
    have e16 : 16 ≤ r3.l.length := by rw [a1]; exact JG.2.1
    obtain rfl := y1h.trans (gs1 a2 e16)
    obtain rfl := y2h.trans (gs2 a2 e16)
    obtain rfl := y3h.trans (gs3 a2 e16)
    obtain ⟨k, on, vb, vq, vl, vc⟩ := w
    have d5 : ¬ k < n := fun h => of_decide_eq_false d5 (Int.ofNat_lt.2 h)
    obtain rfl : k = n := by have : k ≤ (rowL l i n).length := hw.1; rw [rowL_len h1] at this; omega
    have e1 : Grw (jout ((rowL l i k).take k)) vl on (k * (((rowL l i k).getD 0 []).length - 12)) vc := hw.2.1
    have e2 : ∀ j, j < k → nm ((rowL l i k).getD j []) 0 = nm ((rowL l i k).getD 0 []) 0 ∧ nm ((rowL l i k).getD j []) 4 = (j : Nat) ∧ nm ((rowL l i k).getD j []) 8 = nm ((rowL l i k).getD 0 []) 8 := hw.2.2
    exact e1.2.2.2.2
  · rename_i d0 r0 g0 d1 r1 g1 d2 v hv d3 r2 g2 r3 g3 bx y1 y1h y2 y2h y3 y3h w hw d5 bq d9
    try dsimp only [fB, C0, cG, cInt, cPl, cSlot, cPg, rwCodec, Jo4, Jo14] at d0 r0 g0 d1 r1 g1 d2 v hv d3 r2 g2 r3 g3 bx y1 y1h y2 y2h y3 y3h w hw d5 bq d9
    have n0 : 0 < n := by have := of_decide_eq_false d0; omega
    have JG := jg_of h1 hr n0 g0 d1 g1 d2 hv d3
    obtain ⟨a1, a2, a3⟩ := jr (v := 0) h1 hr n0 g3
    have e16 : 16 ≤ r3.l.length := by rw [a1]; exact JG.2.1
    obtain rfl := y1h.trans (gs1 a2 e16)
    obtain rfl := y2h.trans (gs2 a2 e16)
    obtain rfl := y3h.trans (gs3 a2 e16)
    have U := (four_nm a3 (j := 8) (by omega)).2
    unfold U32 at U
    have u1 := a2.2.2
    exact U.1
  · rename_i d0 r0 g0 d1 r1 g1 d2 v hv d3 r2 g2 r3 g3 bx y1 y1h y2 y2h y3 y3h w hw d5 bq d9
    try dsimp only [fB, C0, cG, cInt, cPl, cSlot, cPg, rwCodec, Jo4, Jo14] at d0 r0 g0 d1 r1 g1 d2 v hv d3 r2 g2 r3 g3 bx y1 y1h y2 y2h y3 y3h w hw d5 bq d9
    have n0 : 0 < n := by have := of_decide_eq_false d0; omega
    have JG := jg_of h1 hr n0 g0 d1 g1 d2 hv d3
    obtain ⟨a1, a2, a3⟩ := jr (v := 0) h1 hr n0 g3
    have e16 : 16 ≤ r3.l.length := by rw [a1]; exact JG.2.1
    obtain rfl := y1h.trans (gs1 a2 e16)
    obtain rfl := y2h.trans (gs2 a2 e16)
    obtain rfl := y3h.trans (gs3 a2 e16)
    obtain ⟨k, on, vb, vq, vl, vc⟩ := w
    have d5 : ¬ k < n := fun h => of_decide_eq_false d5 (Int.ofNat_lt.2 h)
    obtain rfl : k = n := by have : k ≤ (rowL l i n).length := hw.1; rw [rowL_len h1] at this; omega
    have e1 : Grw (jout ((rowL l i k).take k)) vl on (k * (((rowL l i k).getD 0 []).length - 12)) vc := hw.2.1
    have e2 : ∀ j, j < k → nm ((rowL l i k).getD j []) 0 = nm ((rowL l i k).getD 0 []) 0 ∧ nm ((rowL l i k).getD j []) 4 = (j : Nat) ∧ nm ((rowL l i k).getD j []) 8 = nm ((rowL l i k).getD 0 []) 8 := hw.2.2
    have U := (four_nm a3 (j := 8) (by omega)).2
    unfold U32 at U
    have u1 := a2.2.2
    obtain ⟨c1, c2, c3⟩ := jr (v := 0) h1 hr n0 g2
    have c4 : r2.l.length = r3.l.length := by rw [c1, a1]
    have d9 : (!alln [nm r3.l 0] || decide ((64 : Int) < (k : Int)) || decide (((k * (((rowL l i k).getD 0 []).length - 12) : Nat) : Int) < nm r3.l 8) || decide ((k : Int) ≠ max 1 ((nm r3.l 8 + ((r2.l.length : Int) - 12) - 1).tdiv ((r2.l.length : Int) - 12)))) = false := d9
    simp only [Bool.or_eq_false_iff, decide_eq_false_iff_not] at d9
    have := d9.1.2
    have := e1.2.2.1
    show nm r3.l 8 ≤ (vc : Int)
    omega
  · rename_i d0 r0 g0 d1 r1 g1 d2 v hv d3 r2 g2 r3 g3 bx y1 y1h y2 y2h y3 y3h w hw d5 bq d9
    try dsimp only [fB, C0, cG, cInt, cPl, cSlot, cPg, rwCodec, Jo4, Jo14] at d0 r0 g0 d1 r1 g1 d2 v hv d3 r2 g2 r3 g3 bx y1 y1h y2 y2h y3 y3h w hw d5 bq d9
    have n0 : 0 < n := by have := of_decide_eq_false d0; omega
    have JG := jg_of h1 hr n0 g0 d1 g1 d2 hv d3
    obtain ⟨a1, a2, a3⟩ := jr (v := 0) h1 hr n0 g3
    have e16 : 16 ≤ r3.l.length := by rw [a1]; exact JG.2.1
    obtain rfl := y1h.trans (gs1 a2 e16)
    obtain rfl := y2h.trans (gs2 a2 e16)
    obtain rfl := y3h.trans (gs3 a2 e16)
    have U := (four_nm a3 (j := 8) (by omega)).2
    unfold U32 at U
    have u1 := a2.2.2
    exact U.1
  · rename_i d0 r0 g0 d1 r1 g1 d2 v hv d3 r2 g2 r3 g3 bx y1 y1h y2 y2h y3 y3h w hw d5 bq d9
    try dsimp only [fB, C0, cG, cInt, cPl, cSlot, cPg, rwCodec, Jo4, Jo14] at d0 r0 g0 d1 r1 g1 d2 v hv d3 r2 g2 r3 g3 bx y1 y1h y2 y2h y3 y3h w hw d5 bq d9
    have n0 : 0 < n := by have := of_decide_eq_false d0; omega
    have JG := jg_of h1 hr n0 g0 d1 g1 d2 hv d3
    obtain ⟨a1, a2, a3⟩ := jr (v := 0) h1 hr n0 g3
    have e16 : 16 ≤ r3.l.length := by rw [a1]; exact JG.2.1
    obtain rfl := y1h.trans (gs1 a2 e16)
    obtain rfl := y2h.trans (gs2 a2 e16)
    obtain rfl := y3h.trans (gs3 a2 e16)
    obtain ⟨k, on, vb, vq, vl, vc⟩ := w
    have d5 : ¬ k < n := fun h => of_decide_eq_false d5 (Int.ofNat_lt.2 h)
    obtain rfl : k = n := by have : k ≤ (rowL l i n).length := hw.1; rw [rowL_len h1] at this; omega
    have e1 : Grw (jout ((rowL l i k).take k)) vl on (k * (((rowL l i k).getD 0 []).length - 12)) vc := hw.2.1
    have e2 : ∀ j, j < k → nm ((rowL l i k).getD j []) 0 = nm ((rowL l i k).getD 0 []) 0 ∧ nm ((rowL l i k).getD j []) 4 = (j : Nat) ∧ nm ((rowL l i k).getD j []) 8 = nm ((rowL l i k).getD 0 []) 8 := hw.2.2
    have U := (four_nm a3 (j := 8) (by omega)).2
    unfold U32 at U
    have u1 := a2.2.2
    obtain ⟨c1, c2, c3⟩ := jr (v := 0) h1 hr n0 g2
    have c4 : r2.l.length = r3.l.length := by rw [c1, a1]
    have d9 : (!alln [nm r3.l 0] || decide ((64 : Int) < (k : Int)) || decide (((k * (((rowL l i k).getD 0 []).length - 12) : Nat) : Int) < nm r3.l 8) || decide ((k : Int) ≠ max 1 ((nm r3.l 8 + ((r2.l.length : Int) - 12) - 1).tdiv ((r2.l.length : Int) - 12)))) = false := d9
    rw [c4, alln1, a1] at d9
    have J := (jok_d (U := by rw [← a1]; exact U.1) (rowL_len h1) JG e2).1 d9
    rw [← a1] at J
    have hkp : 0 < k * (((rowL l i k).getD 0 []).length - 12) := Nat.mul_pos n0 (by have := JG.2.1; omega)
    obtain rfl : on = true := on_of e1.2.2.2.2 hkp
    have s1 : (nm r3.l 8).toNat ≤ k * (((rowL l i k).getD 0 []).length - 12) := by
      have := J.2.2.2.2.1
      rw [rowL_len h1] at this
      omega
    have s2 := e1.2.2.1
    have s3 := e1.2.2.2.1
    have s4 : jout (rowL l i k) = vl.take (k * (((rowL l i k).getD 0 []).length - 12)) := by
      rw [e1.2.1, List.take_of_length_le (l := rowL l i k) (by rw [rowL_len h1]; exact Nat.le_refl _)]
    have s5 : ((nm r3.l 8).toNat : Int) = nm r3.l 8 := by omega
    refine Ends.next (Ends.next (Ends.one ((nm r3.l 0, (nm r3.l 8).toNat), vb, vq, vl) ⟨by rw [s5]; exact J, by show (nm r3.l 8).toNat ≤ vl.length; omega, ?_⟩ ?_))
    · show vl.take _ = (jout (rowL l i k)).take _
      rw [s4, List.take_take, Nat.min_eq_left s1]
    ((conv => (arg 1; reduce)); with_reducible repeat' (first | exact Tr.yes_h | refine Tr.and_h ?_ ?_ | refine Tr.imp_h fun _ => ?_ | refine Tr.all_h fun _ => ?_ | refine Tr.lf_h ?_))
    all_goals (first | first | (show Region.lexB _ _ = true; kernel_rfl) | (show planned _ _ = true; kernel_rfl) | exact rfl | exact True.intro | ((try dsimp only [imp, C0, cG, cInt, cPl, cSlot, cPg, rwCodec, cRaw] at *); (try refine inR64 ?_ ?_) <;> (try simp only [List.length_set, List.length_append, List.length_take, List.length_drop]) <;> omega))
def fcJoin : Fc Tryd.prog C0 where
  tg := .fn 24
  X := Bool × Nat × Nat × List (Rw Int) × Nat × Nat × Nat
  args := fun (o, b, q, l, i, n, c) => [.sl 0 i n c]
  mem := fun (o, b, q, l, i, n, c) => [⟨b, q, 1, false, some o, .rows 26 l⟩]
  pre := fun (o, b, q, l, i, n, c) => i + n ≤ l.length ∧ (o = false → n = 0 ∧ c = 0) ∧ (∀ r ∈ (l.drop i).take n, Rok r ∧ Bys r.l) ∧ n ≤ 1000000
  alts := fun (o, b, q, l, i, n, c) => [⟨Unit, fun _ => jbad (rowL l i n), fun _ => .tup [.int .i64 0, .nils, eV 2], fun _ => [⟨b, q, 1, false, some o, .rows 26 l⟩]⟩,
     ⟨Unit, fun _ => ¬ jbad (rowL l i n) ∧ ∀ x s, ¬ JOk (rowL l i n) x s, fun _ => .tup [.int .i64 0, .nils, eV 0], fun _ => [⟨b, q, 1, false, some o, .rows 26 l⟩]⟩,
     ⟨(Int × Nat) × Nat × Nat × List Int, fun y => JOk (rowL l i n) y.1.1 y.1.2 ∧ y.1.2 ≤ y.2.2.2.length ∧ y.2.2.2.take y.1.2 = (jout (rowL l i n)).take y.1.2, fun y => .tup [.int .i64 y.1.1, .sl 1 0 y.1.2 y.1.2, .nili],
      fun y => [⟨b, q, 1, false, some o, .rows 26 l⟩, ⟨y.2.1, y.2.2.1, 1, true, none, .rows 5 y.2.2.2⟩]⟩]
  mat vs m := match vs with
    | [.sl a i n c] => match nth m a with
      | ⟨b, q, _, _, g, .rows 26 l⟩ => some ((onOf g, b, q, l, i, n, c), [a])
      | _ => none
    | [.nils] => some ((false, 0, 0, [], 0, 0, 0), [m.length])
    | _ => none
  ok := fun (o, b, q, l, i, n, c) h => join_ok o b q l i n c h.1 h.2.1 h.2.2.1 h.2.2.2
end Go.Vx
set_option linter.unusedSectionVars false
set_option maxRecDepth 100000
set_option linter.unusedVariables false
set_option linter.unusedSimpArgs false
namespace Go.Vx
open Go Go.Proofs
variable [Gl]

def pcs (B : List Int) (s : Nat) (n : Int) (k : Nat) : List (List Int) := (List.range k).map (piece B s n)
theorem pcs_len (B : List Int) (s : Nat) (n : Int) (k : Nat) : (pcs B s n k).length = k := by unfold pcs; simp
theorem pcs_at {B : List Int} {s : Nat} {n : Int} {k j : Nat} (h : j < k) : (pcs B s n k).getD j [] = piece B s n j := by
  unfold pcs
  rw [List.getD_eq_getElem?_getD, List.getElem?_map, List.getElem?_range h]; rfl
theorem piece_nm {B : List Int} {s : Nat} {n : Int} {k : Nat} (hn : U32 n) (hk : k < 4294967296) (hB : B.length < 4294967296) :
    nm (piece B s n k) 0 = n ∧ nm (piece B s n k) 4 = (k : Nat) ∧ nm (piece B s n k) 8 = (B.length : Nat) := by
  have hu : ∀ x ∈ [n, (k : Int), (B.length : Int)], U32 x := by
    intro x hx
    simp only [List.mem_cons, List.not_mem_nil, or_false] at hx
    rcases hx with rfl | rfl | rfl
    · exact hn
    · unfold U32; omega
    · unfold U32; omega
  unfold piece
  exact ⟨nm_fours hu _ (k := 0) (by simp), nm_fours hu _ (k := 1) (by simp), nm_fours hu _ (k := 2) (by simp)⟩
theorem piece_drop (B : List Int) (s : Nat) (n : Int) (k : Nat) : (piece B s n k).drop 12 = (B.drop (k * (s - 12))).take (s - 12) ++ List.replicate (s - 12 - ((B.drop (k * (s - 12))).take (s - 12)).length) 0 := by
  unfold piece
  rw [List.drop_append_of_le_length (by rw [fours_len]; simp), List.drop_of_length_le (by rw [fours_len]; simp)]
  rfl
theorem piece_byt {B : List Int} (h : Bys B) (s : Nat) (n : Int) (k : Nat) : Bys (piece B s n k) := by
  unfold piece
  refine (fours_byt _).app (((h.drop _).take _).app ?_)
  intro x hx
  rw [(List.mem_replicate.1 hx).2]; decide
theorem jout_snoc (B : List Int) (s : Nat) (n : Int) (k : Nat) : jout (pcs B s n (k + 1)) = jout (pcs B s n k) ++ (piece B s n k).drop 12 := by
  unfold jout pcs
  rw [List.range_succ, List.map_append, List.flatMap_append]; simp
theorem jout_full {B : List Int} {s : Nat} {n : Int} : ∀ {k : Nat}, k * (s - 12) ≤ B.length → jout (pcs B s n k) = B.take (k * (s - 12))
  | 0, _ => by simp [jout, pcs]
  | k + 1, h => by
    rw [Nat.add_mul, Nat.one_mul] at h
    rw [jout_snoc, jout_full (by omega), piece_drop, Nat.add_mul, Nat.one_mul, List.length_take, List.length_drop, show s - 12 - min (s - 12) (B.length - k * (s - 12)) = 0 by omega, List.replicate_zero, List.append_nil, List.take_add]
theorem jout_last {B : List Int} {s : Nat} {n : Int} {k : Nat} (h : k * (s - 12) ≤ B.length) (h2 : B.length ≤ k * (s - 12) + (s - 12)) : (jout (pcs B s n (k + 1))).take B.length = B := by
  rw [jout_snoc, jout_full h, piece_drop, ← List.append_assoc, ← List.take_add, List.take_of_length_le (l := B) h2, List.take_append_of_le_length (Nat.le_refl _), List.take_of_length_le (Nat.le_refl _)]
theorem pcs_jok {B : List Int} {s : Nat} {n : Int} (h16 : 16 ≤ s) (h1024 : s ≤ 1024) (hn : cn n = true) (hB : B.length ≤ 64 * (s - 12)) :
    JOk (pcs B s n (pcN B.length s)) n (B.length : Nat) ∧ (jout (pcs B s n (pcN B.length s))).take B.length = B := by
  have hp := pcN_pos B.length s
  have h64 := pcN_le (by omega) hB
  have hlen : ∀ j, j < pcN B.length s → ((pcs B s n (pcN B.length s)).getD j []).length = s := by
    intro j hj
    rw [pcs_at hj, piece_len (by omega)]
  have h0 := hlen 0 hp
  have hU := cn_u32 hn
  obtain ⟨M, hM⟩ : ∃ M, pcN B.length s = M + 1 := ⟨pcN B.length s - 1, by omega⟩
  have hM1 : M * (s - 12) ≤ B.length := by
    rcases (pcN_lt (len := B.length) (s := s) (k := M) (by omega)).1 (by omega) with h | h
    · subst h; simp
    · omega
  have hM2 : B.length ≤ (M + 1) * (s - 12) := by
    have : ¬ (M + 1 = 0 ∨ (M + 1) * (s - 12) < B.length) := fun h => absurd ((pcN_lt (len := B.length) (s := s) (k := M + 1) (by omega)).2 h) (by omega)
    omega
  refine ⟨⟨jg_iff.1 ⟨by rw [pcs_len]; exact hp, by rw [h0]; exact h16, by rw [h0]; exact h1024, fun j hj => by rw [pcs_len] at hj; rw [hlen j hj, h0]⟩, fun j hj => ?_, hn, by rw [pcs_len]; exact h64, ?_, ?_⟩, ?_⟩
  · rw [pcs_len] at hj
    rw [pcs_at hj]
    exact piece_nm hU (by omega) (by omega)
  · rw [pcs_len, h0, hM]; omega
  · rw [pcs_len, h0]
    have : ((B.length : Nat) : Int) + (s - 12 : Nat) - 1 = ((B.length + (s - 12) - 1 : Nat) : Int) := by omega
    rw [this]
    unfold pcN
    omega
  · rw [hM]
    exact jout_last hM1 (by rw [Nat.add_mul, Nat.one_mul] at hM2; exact hM2)
/-- What they are joined to is told by the pieces alone. -/
theorem jok_uniq {L : List (List Int)} {n s n' s' : Int} (h : JOk L n s) (h' : JOk L n' s') : n = n' ∧ s = s' := by
  have h0 := (jg_iff.2 h.1).1
  have a := h.2.1 0 h0
  have b := h'.2.1 0 h0
  exact ⟨a.1.symm.trans b.1, a.2.2.symm.trans b.2.2⟩
theorem prs_rowL {B : List Int} {s : Nat} {n : Int} {vl : List (Rw Int)} {k : Nat} (h : Prs B s n vl k) : rowL vl 0 k = pcs B s n k := by
  unfold rowL pcs
  rw [List.drop_zero]; exact h.1
theorem prs_rows {B : List Int} (hB : Bys B) {s : Nat} {n : Int} {vl : List (Rw Int)} {k : Nat} (h : Prs B s n vl k) : ∀ r ∈ vl.take k, Rok r ∧ Bys r.l := by
  intro r hr
  refine ⟨h.2 r hr, ?_⟩
  have : r.l ∈ (vl.take k).map (·.l) := List.mem_map.2 ⟨r, hr, rfl⟩
  rw [h.1] at this
  obtain ⟨j, _, hj⟩ := List.mem_map.1 this
  rw [← hj]
  exact piece_byt hB _ _ _
theorem jb1 {B : List Int} {s : Nat} {n : Int} {vl : List (Rw Int)} (h16 : 16 ≤ s) (h1024 : s ≤ 1024) (hn : cn n = true) (hB : B.length ≤ 64 * (s - 12)) (h : Prs B s n vl (pcN B.length s)) :
    JOk (rowL vl 0 (pcN B.length s)) n (B.length : Nat) ∧ (jout (rowL vl 0 (pcN B.length s))).take B.length = B := by
  rw [prs_rowL h]
  exact pcs_jok h16 h1024 hn hB
end Go.Vx
