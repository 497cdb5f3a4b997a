/-
  Round 23: bytes in pieces.
  Round 23: plain facts: numbers and their four bytes; a point's numbers.
  Round 23: bytes of pieces.
  Round 23: pieces joined are what they were pieces of.
  Round 23: a reader of numbers; what bytes are a point.
  Round 23: the point of bytes.
  Round 23: the chapter's examples.
  Conditions: none.
-/
import Derived.Test.YtmdnpfocihfkdaaDoorM5
set_option linter.unusedSectionVars false
set_option maxRecDepth 100000
set_option linter.unusedVariables false
set_option linter.unusedSimpArgs false
namespace Go.Vx
open Go Go.Proofs
variable [Gl]

theorem by26 : Tryd.prog.types[26].bytes = 24 := by kernel_rfl
/-- The k-th piece of bytes B, of s bytes each, numbered n. -/
@[irreducible] def piece (B : List Int) (s : Nat) (n : Int) (k : Nat) : List Int :=
  fours [n, (k : Int), (B.length : Int)] ++ ((B.drop (k * (s - 12))).take (s - 12) ++ List.replicate (s - 12 - ((B.drop (k * (s - 12))).take (s - 12)).length) 0)
theorem piece_len {B : List Int} {s : Nat} {n : Int} {k : Nat} (h : 12 ≤ s) : (piece B s n k).length = s := by
  unfold piece
  rw [List.length_append, fours_len, List.length_append, List.length_replicate, List.length_take, List.length_drop]
  simp only [List.length_cons, List.length_nil]
  omega
/-- How many there are. -/
def pcN (len s : Nat) : Nat := max 1 ((len + (s - 12) - 1) / (s - 12))
theorem pcN_lt {len s k : Nat} (hs : 12 < s) : k < pcN len s ↔ k = 0 ∨ k * (s - 12) < len := by
  unfold pcN
  have hm : ∀ a : Nat, k < max 1 a ↔ k = 0 ∨ k < a := by intro a; omega
  rw [hm]
  have : k < (len + (s - 12) - 1) / (s - 12) ↔ k * (s - 12) < len := by
    rw [show (k < (len + (s - 12) - 1) / (s - 12)) ↔ (k + 1 ≤ (len + (s - 12) - 1) / (s - 12)) from Iff.rfl, Nat.le_div_iff_mul_le (by omega), Nat.add_mul, Nat.one_mul]
    omega
  rw [this]
theorem pcN_le {len s : Nat} (hs : 12 < s) (h : len ≤ 64 * (s - 12)) : pcN len s ≤ 64 := by
  rcases Nat.lt_or_ge 64 (pcN len s) with h1 | h1
  · rcases (pcN_lt (len := len) hs).1 h1 with h | h <;> omega
  · exact h1
theorem pcN_pos (len s : Nat) : 1 ≤ pcN len s := by unfold pcN; exact Nat.le_max_left ..
/-- Rows that are these pieces. -/
def Prs (B : List Int) (s : Nat) (n : Int) (vl : List (Rw Int)) (k : Nat) : Prop := (vl.take k).map (·.l) = (List.range k).map (piece B s n) ∧ ∀ r ∈ vl.take k, Rok r
def Pi9 (B : List Int) (s : Nat) (n : Int) : Inv' C0 := ⟨9, Gx (Rw Int), fun x => [(9, .int .i64 ((x.1 * (s - 12) : Nat) : Int)), (8, .sl 2 0 x.1 x.2.2.2.2.2)], fun x m => match m with
  | [a, rs] => [a, rs, ⟨x.2.2.1, x.2.2.2.1, 1, true, some x.2.1, .rows 26 x.2.2.2.2.1⟩]
  | m => m, fun x => x.1 ≤ pcN B.length s ∧ Grw (x.2.2.2.2.1.take x.1) x.2.2.2.2.1 x.2.1 x.1 x.2.2.2.2.2 ∧ Prs B s n x.2.2.2.2.1 x.1, fun x => pcN B.length s - x.1⟩
theorem alln1 (n : Int) : alln [n] = cn n := by unfold alln; simp
theorem piS0 {s : Int} (h : (decide (s < 16) || decide (1024 < s)) = false) : 16 ≤ s ∧ s ≤ 1024 := by
  simp only [Bool.or_eq_false_iff, decide_eq_false_iff_not] at h; omega
theorem piS1 {s : Int} (h : (decide (s < 16) || decide (1024 < s)) = true) : s < 16 ∨ 1024 < s := by
  simpa only [Bool.or_eq_true, decide_eq_true_eq] using h
theorem piK {n k : Nat} {s : Int} (hS : (decide (s < 16) || decide (1024 < s)) = false) (h : (decide (((k * (s.toNat - 12) : Nat) : Int) = 0) || decide (((k * (s.toNat - 12) : Nat) : Int) < (n : Int))) = true) :
    16 ≤ s ∧ s ≤ 1024 ∧ k < pcN n s.toNat ∧ k * (s.toNat - 12) ≤ n := by
  obtain ⟨s1, s2⟩ := piS0 hS
  simp only [Bool.or_eq_true, decide_eq_true_eq] at h
  refine ⟨s1, s2, (pcN_lt (by omega)).2 ?_, by omega⟩
  rcases h with h | h
  · have h : k * (s.toNat - 12) = 0 := by omega
    rcases Nat.mul_eq_zero.1 h with h | h <;> omega
  · omega
theorem piK2 {n k : Nat} {s : Int} (hS : (decide (s < 16) || decide (1024 < s)) = false) (h : (decide (((k * (s.toNat - 12) : Nat) : Int) = 0) || decide (((k * (s.toNat - 12) : Nat) : Int) < (n : Int))) = false)
    (hk : k ≤ pcN n s.toNat) : k = pcN n s.toNat := by
  obtain ⟨s1, s2⟩ := piS0 hS
  simp only [Bool.or_eq_false_iff, decide_eq_false_iff_not] at h
  have : ¬ k < pcN n s.toNat := by
    rw [pcN_lt (by omega)]
    rintro (rfl | h3)
    · exact h.1 (by simp)
    · omega
  omega
theorem pi_m {n K : Nat} {s : Int} (hs : 16 ≤ s) (hK : K ≤ n) : (min ((K : Int) + s - 12) (n : Int)).toNat - (K : Int).toNat = min (s.toNat - 12) (n - K) := by omega
abbrev piM (n k : Nat) (s : Int) : Nat := (min (((k * (s.toNat - 12) : Nat) : Int) + s - 12) (n : Int)).toNat - ((k * (s.toNat - 12) : Nat) : Int).toNat
abbrev piZ (n k : Nat) (s : Int) : Nat := (s - ((0 + 4 * 3 + piM n k s : Nat) : Int)).toNat
abbrev piRow (c n k : Nat) (s : Int) (g l spA spZ : List Int) : List Int :=
  List.take (0 + 4 * 3 + piM n k s) (List.drop 0 (List.take (0 + 4 * 3) (List.drop 0 g) ++ List.take (piM n k s) (List.drop (srow c (k * (s.toNat - 12)) 0) l) ++ spA)) ++ List.replicate (piZ n k s) 0 ++ spZ
theorem pi_srow {c n k : Nat} {s : Int} {l : List Int} (hm : piM n k s = min (s.toNat - 12) (n - k * (s.toNat - 12))) (hn : n ≤ l.length) (hc : n ≤ c) (hK : k * (s.toNat - 12) ≤ n) :
    (List.take (piM n k s) (List.drop (srow c (k * (s.toNat - 12)) 0) l)).length = piM n k s := by
  rw [List.length_take, List.length_drop, hm]
  unfold srow
  split <;> omega
theorem pi_row0 {L g l spA : List Int} {c n k cg : Nat} {s : Int} (hg : Gr L g (0 + 4 * 3) cg) (hm : piM n k s = min (s.toNat - 12) (n - k * (s.toNat - 12))) (hn : n ≤ l.length) (hc : n ≤ c) (hK : k * (s.toNat - 12) ≤ n) :
    List.take (0 + 4 * 3 + piM n k s) (List.drop 0 (List.take (0 + 4 * 3) (List.drop 0 g) ++ List.take (piM n k s) (List.drop (srow c (k * (s.toNat - 12)) 0) l) ++ spA)) = L ++ List.take (piM n k s) (List.drop (srow c (k * (s.toNat - 12)) 0) l) := by
  have e := pi_srow hm hn hc hK
  rw [List.drop_zero, List.drop_zero, hg.2.1, List.take_append_of_le_length (by rw [List.length_append, e, ← hg.1]; exact Nat.le_refl _), List.take_of_length_le (by rw [List.length_append, e, ← hg.1]; exact Nat.le_refl _)]
theorem pi_row_len {L g l spA spZ : List Int} {c n k cg : Nat} {s : Int} (hg : Gr L g (0 + 4 * 3) cg) (hm : piM n k s = min (s.toNat - 12) (n - k * (s.toNat - 12))) (hn : n ≤ l.length) (hc : n ≤ c) (hK : k * (s.toNat - 12) ≤ n) :
    (piRow c n k s g l spA spZ).length = 0 + 4 * 3 + piM n k s + piZ n k s + spZ.length := by
  unfold piRow
  rw [pi_row0 (spA := spA) hg hm hn hc hK, List.length_append, List.length_append, List.length_append, pi_srow hm hn hc hK, List.length_replicate, ← hg.1]
theorem pi_row {num : Int} {g l spA spZ : List Int} {c n k cg : Nat} {s : Int} (hg : Gr (fours [num, (k : Int), (n : Int)]) g (0 + 4 * 3) cg) (hm : piM n k s = min (s.toNat - 12) (n - k * (s.toNat - 12))) (hn : n ≤ l.length) (hc : n ≤ c)
    (hK : k * (s.toNat - 12) ≤ n) : List.take (0 + 4 * 3 + piM n k s + piZ n k s) (List.drop 0 (piRow c n k s g l spA spZ)) = piece (l.take n) s.toNat num k := by
  have e := pi_srow hm hn hc hK
  have h12 := hg.1
  unfold piRow
  rw [pi_row0 (spA := spA) hg hm hn hc hK, List.drop_zero, List.take_append_of_le_length (by rw [List.length_append, List.length_append, e, List.length_replicate, ← h12]; exact Nat.le_refl _),
    List.take_of_length_le (by rw [List.length_append, List.length_append, e, List.length_replicate, ← h12]; exact Nat.le_refl _), List.append_assoc]
  unfold piece
  rw [tk_len hn]
  have e2 : List.take (s.toNat - 12) (List.drop (k * (s.toNat - 12)) (List.take n l)) = List.take (piM n k s) (List.drop (srow c (k * (s.toNat - 12)) 0) l) := by
    rw [List.drop_take, List.take_take, hm]
    unfold srow
    split
    · rename_i h
      have : min (s.toNat - 12) (n - k * (s.toNat - 12)) = 0 := by omega
      rw [this, List.take_zero, List.take_zero]
    · rw [Nat.add_zero]
  rw [e2, e]
  congr 3
  show (s - ((0 + 4 * 3 + piM n k s : Nat) : Int)).toNat = s.toNat - 12 - piM n k s
  omega
set_option maxHeartbeats 8000000 in
theorem pieces_ok (o : Bool) (b q : Nat) (l : List Int) (n c : Nat) (s num : Int) (h1 : Sq.ok (o, b, q, l, n, c)) (hn : n ≤ 1000000) :
    Does (C := C0) Tryd.prog (.fn 20) [⟨b, q, 1, false, some o, .rows 5 l⟩] [.sl 0 0 n c, .int .i64 s, .int .i64 num]
    [⟨Unit, fun _ => s < 16 ∨ 1024 < s, fun _ => .tup [.nils, eV 2], fun _ => [⟨b, q, 1, false, some o, .rows 5 l⟩]⟩,
     ⟨Unit, fun _ => (16 ≤ s ∧ s ≤ 1024) ∧ cn num = false, fun _ => .tup [.nils, eV 0], fun _ => [⟨b, q, 1, false, some o, .rows 5 l⟩]⟩,
     ⟨Unit, fun _ => (16 ≤ s ∧ s ≤ 1024) ∧ cn num = true ∧ 64 * (s.toNat - 12) < n, fun _ => .tup [.nils, eV 1], fun _ => [⟨b, q, 1, false, some o, .rows 5 l⟩]⟩,
     ⟨Nat × Nat × List (Rw Int) × Nat, fun y => (16 ≤ s ∧ s ≤ 1024) ∧ cn num = true ∧ n ≤ 64 * (s.toNat - 12) ∧ Grw (y.2.2.1.take (pcN n s.toNat)) y.2.2.1 true (pcN n s.toNat) y.2.2.2 ∧ Prs (l.take n) s.toNat num y.2.2.1 (pcN n s.toNat), fun y => .tup [.sl 1 0 (pcN n s.toNat) y.2.2.2, .nili],
      fun y => [⟨b, q, 1, false, some o, .rows 5 l⟩, ⟨y.1, y.2.1, 1, true, none, .rows 26 y.2.2.1⟩]⟩] := by
  have hnl : n ≤ l.length := h1.2.1
  refine loc_fn (P := Tryd.prog) (E := ⟨[fcLay], [pcNumb], 90, [(2, [], [.p 0, .p 1, .p 2]), (4, [], [.p 0, .p 1, .p 2]), (6, [], [.p 0, .p 1, .p 2]),
    (13, [3], [.p 0, .p 1, .p 2, .p 3, .p 4, .p 5, .p 6, .p 7, .p 8, .p 9, .p 10, .p 11, .p 12, .p 13, .p 14, .e 15, .p 16, .p 17, .f 18]),
    (14, [3], [.p 0, .p 1, .p 2, .p 3, .p 4, .p 5, .p 6, .p 7, .p 8, .p 9, .p 10, .p 11, .e 12, .e 13, .e 14, .p 15])], [], [wB]⟩) (L := [Pi9 (l.take n) s.toNat num]) mix Tryd.func20 rfl (by kernel_rfl) (by kernel_rfl) rfl rfl ?_
  ((conv => (arg 1; reduce)); with_reducible repeat' (first | exact Tr.yes_h | refine Tr.and_h ?_ ?_ | refine Tr.imp_h fun _ => ?_ | refine Tr.all_h fun _ => ?_ | refine Tr.lf_h ?_))
  all_goals try (first | first | (show Region.lexB _ _ = true; kernel_rfl) | (show planned _ _ = true; kernel_rfl) | exact rfl | exact True.intro | ((try dsimp only [imp, C0, cG, cInt, cPl, cSlot, cPg, rwCodec, cRaw] at *); (try refine inR64 ?_ ?_) <;> (try simp only [List.length_set, List.length_append, List.length_take, List.length_drop]) <;> omega))
  · rename_i hS
    refine Ends.one () (piS1 hS) ?_
    ((conv => (arg 1; reduce)); with_reducible repeat' (first | exact Tr.yes_h | refine Tr.and_h ?_ ?_ | refine Tr.imp_h fun _ => ?_ | refine Tr.all_h fun _ => ?_ | refine Tr.lf_h ?_))
    all_goals (first | first | (show Region.lexB _ _ = true; kernel_rfl) | (show planned _ _ = true; kernel_rfl) | exact rfl | exact True.intro | ((try dsimp only [imp, C0, cG, cInt, cPl, cSlot, cPg, rwCodec, cRaw] at *); (try refine inR64 ?_ ?_) <;> (try simp only [List.length_set, List.length_append, List.length_take, List.length_drop]) <;> omega))
  · exact ⟨Nat.le_refl 1, by decide, fun h => Bool.noConfusion h⟩
  · rename_i hS bn hA
    refine Ends.next (Ends.one () ⟨piS0 hS, (alln1 num).symm.trans (by simpa using hA)⟩ ?_)
    ((conv => (arg 1; reduce)); with_reducible repeat' (first | exact Tr.yes_h | refine Tr.and_h ?_ ?_ | refine Tr.imp_h fun _ => ?_ | refine Tr.all_h fun _ => ?_ | refine Tr.lf_h ?_))
    all_goals (first | first | (show Region.lexB _ _ = true; kernel_rfl) | (show planned _ _ = true; kernel_rfl) | exact rfl | exact True.intro | ((try dsimp only [imp, C0, cG, cInt, cPl, cSlot, cPg, rwCodec, cRaw] at *); (try refine inR64 ?_ ?_) <;> (try simp only [List.length_set, List.length_append, List.length_take, List.length_drop]) <;> omega))
  · rename_i hS bn hA
    have := piS0 hS
    exact inR64 (by omega) (by omega)
  · rename_i hS bn hA
    have := piS0 hS
    exact inR64 (by omega) (by omega)
  · rename_i hS bn hA h64
    have h := of_decide_eq_true h64
    have := piS0 hS
    refine Ends.next (Ends.next (Ends.one () ⟨piS0 hS, (alln1 num).symm.trans (by simpa using hA), by omega⟩ ?_))
    ((conv => (arg 1; reduce)); with_reducible repeat' (first | exact Tr.yes_h | refine Tr.and_h ?_ ?_ | refine Tr.imp_h fun _ => ?_ | refine Tr.all_h fun _ => ?_ | refine Tr.lf_h ?_))
    all_goals (first | first | (show Region.lexB _ _ = true; kernel_rfl) | (show planned _ _ = true; kernel_rfl) | exact rfl | exact True.intro | ((try dsimp only [imp, C0, cG, cInt, cPl, cSlot, cPg, rwCodec, cRaw] at *); (try refine inR64 ?_ ?_) <;> (try simp only [List.length_set, List.length_append, List.length_take, List.length_drop]) <;> omega))
  · rename_i hS bn hA h64
    refine Stands.one (0, false, 0, 0, [], 0) ⟨⟨Nat.zero_le _, ⟨rfl, rfl, Nat.le_refl _, Nat.le_refl _, fun _ => ⟨rfl, rfl⟩⟩, rfl, by intro r hr; cases hr⟩, ?_⟩
    ((conv => (arg 1; reduce)); with_reducible repeat' (first | exact Tr.yes_h | refine Tr.and_h ?_ ?_ | refine Tr.imp_h fun _ => ?_ | refine Tr.all_h fun _ => ?_ | refine Tr.lf_h ?_))
    all_goals (first | first | (show Region.lexB _ _ = true; kernel_rfl) | (show planned _ _ = true; kernel_rfl) | exact rfl | exact True.intro | ((try dsimp only [imp, C0, cG, cInt, cPl, cSlot, cPg, rwCodec, cRaw] at *); (try refine inR64 ?_ ?_) <;> (try simp only [List.length_set, List.length_append, List.length_take, List.length_drop]) <;> omega))
  · rename_i hS bn hA h64 v hv hk bw bi
    exact ⟨Nat.le_refl 3, by decide, Nat.le_refl 0, Nat.le_refl 0, by decide, fun _ => ⟨rfl, rfl⟩⟩
  · rename_i hS bn hA h64 v hv hk bw bi y hy
    obtain ⟨k, on, vb, vq, vl, vc⟩ := v
    obtain ⟨e1, e2, e3⟩ : k ≤ pcN (l.take n).length s.toNat ∧ Grw (vl.take k) vl on k vc ∧ Prs (l.take n) s.toNat num vl k := hv
    obtain ⟨s1, s2, k1, k2⟩ : 16 ≤ s ∧ s ≤ 1024 ∧ k < pcN n s.toNat ∧ k * (s.toNat - 12) ≤ n := piK hS hk
    have hm : (min (((k * (s.toNat - 12) : Nat) : Int) + s - 12) (n : Int)).toNat - ((k * (s.toNat - 12) : Nat) : Int).toNat = min (s.toNat - 12) (n - k * (s.toNat - 12)) := pi_m s1 k2
    exact inR64 (by show _ ≤ ((k * (s.toNat - 12) : Nat) : Int) + s; omega) (by show ((k * (s.toNat - 12) : Nat) : Int) + s ≤ _; omega)
  · rename_i hS bn hA h64 v hv hk bw bi y hy
    obtain ⟨k, on, vb, vq, vl, vc⟩ := v
    obtain ⟨e1, e2, e3⟩ : k ≤ pcN (l.take n).length s.toNat ∧ Grw (vl.take k) vl on k vc ∧ Prs (l.take n) s.toNat num vl k := hv
    obtain ⟨s1, s2, k1, k2⟩ : 16 ≤ s ∧ s ≤ 1024 ∧ k < pcN n s.toNat ∧ k * (s.toNat - 12) ≤ n := piK hS hk
    have hm : (min (((k * (s.toNat - 12) : Nat) : Int) + s - 12) (n : Int)).toNat - ((k * (s.toNat - 12) : Nat) : Int).toNat = min (s.toNat - 12) (n - k * (s.toNat - 12)) := pi_m s1 k2
    exact inR64 (by show _ ≤ ((k * (s.toNat - 12) : Nat) : Int) + s - 12; omega) (by show ((k * (s.toNat - 12) : Nat) : Int) + s - 12 ≤ _; omega)
  · exact h1.2.2
  · rename_i hS bn hA h64 v hv hk bw bi y hy
    obtain ⟨k, on, vb, vq, vl, vc⟩ := v
    obtain ⟨e1, e2, e3⟩ : k ≤ pcN (l.take n).length s.toNat ∧ Grw (vl.take k) vl on k vc ∧ Prs (l.take n) s.toNat num vl k := hv
    obtain ⟨s1, s2, k1, k2⟩ : 16 ≤ s ∧ s ≤ 1024 ∧ k < pcN n s.toNat ∧ k * (s.toNat - 12) ≤ n := piK hS hk
    have hm : (min (((k * (s.toNat - 12) : Nat) : Int) + s - 12) (n : Int)).toNat - ((k * (s.toNat - 12) : Nat) : Int).toNat = min (s.toNat - 12) (n - k * (s.toNat - 12)) := pi_m s1 k2
    show 0 ≤ min (((k * (s.toNat - 12) : Nat) : Int) + s - 12) (n : Int)
    omega
  · rename_i hS bn hA h64 v hv hk bw bi y hy
    obtain ⟨k, on, vb, vq, vl, vc⟩ := v
    obtain ⟨e1, e2, e3⟩ : k ≤ pcN (l.take n).length s.toNat ∧ Grw (vl.take k) vl on k vc ∧ Prs (l.take n) s.toNat num vl k := hv
    obtain ⟨s1, s2, k1, k2⟩ : 16 ≤ s ∧ s ≤ 1024 ∧ k < pcN n s.toNat ∧ k * (s.toNat - 12) ≤ n := piK hS hk
    have hm : (min (((k * (s.toNat - 12) : Nat) : Int) + s - 12) (n : Int)).toNat - ((k * (s.toNat - 12) : Nat) : Int).toNat = min (s.toNat - 12) (n - k * (s.toNat - 12)) := pi_m s1 k2
    have := h1.1
    show min (((k * (s.toNat - 12) : Nat) : Int) + s - 12) (n : Int) ≤ (c : Int)
    dsimp only at this; omega
  · rename_i hS bn hA h64 v hv hk bw bi y hy
    obtain ⟨k, on, vb, vq, vl, vc⟩ := v
    obtain ⟨e1, e2, e3⟩ : k ≤ pcN (l.take n).length s.toNat ∧ Grw (vl.take k) vl on k vc ∧ Prs (l.take n) s.toNat num vl k := hv
    obtain ⟨s1, s2, k1, k2⟩ : 16 ≤ s ∧ s ≤ 1024 ∧ k < pcN n s.toNat ∧ k * (s.toNat - 12) ≤ n := piK hS hk
    have hm : (min (((k * (s.toNat - 12) : Nat) : Int) + s - 12) (n : Int)).toNat - ((k * (s.toNat - 12) : Nat) : Int).toNat = min (s.toNat - 12) (n - k * (s.toNat - 12)) := pi_m s1 k2
    show ((k * (s.toNat - 12) : Nat) : Int) ≤ min (((k * (s.toNat - 12) : Nat) : Int) + s - 12) (n : Int)
    omega
  · rename_i hS bn hA h64 v hv hk bw bi y hy
    obtain ⟨k, on, vb, vq, vl, vc⟩ := v
    obtain ⟨e1, e2, e3⟩ : k ≤ pcN (l.take n).length s.toNat ∧ Grw (vl.take k) vl on k vc ∧ Prs (l.take n) s.toNat num vl k := hv
    obtain ⟨s1, s2, k1, k2⟩ : 16 ≤ s ∧ s ≤ 1024 ∧ k < pcN n s.toNat ∧ k * (s.toNat - 12) ≤ n := piK hS hk
    have hm : (min (((k * (s.toNat - 12) : Nat) : Int) + s - 12) (n : Int)).toNat - ((k * (s.toNat - 12) : Nat) : Int).toNat = min (s.toNat - 12) (n - k * (s.toNat - 12)) := pi_m s1 k2
    have hc : n ≤ c := h1.1
    obtain ⟨f1, f2, f3, f4⟩ := hy.1
    rw [by5]
    refine ⟨f3, by show 0 + y.2.2.2.2 ≤ y.2.2.2.1.length; omega, ?_, ?_⟩
    · show srow c (k * (s.toNat - 12)) 0 + ((min (((k * (s.toNat - 12) : Nat) : Int) + s - 12) (n : Int)).toNat - ((k * (s.toNat - 12) : Nat) : Int).toNat) ≤ l.length
      rw [hm]
      unfold srow
      split <;> omega
    · show (0 + 4 * 3 + ((min (((k * (s.toNat - 12) : Nat) : Int) + s - 12) (n : Int)).toNat - ((k * (s.toNat - 12) : Nat) : Int).toNat)) * 1 ≤ 140737488355328
      rw [hm]; omega
  · rename_i hS bn hA h64 v hv hk bw bi y hy
    exact hy.2
  · rename_i hS bn hA h64 v hv hk bw bi y hy
    obtain ⟨k, on, vb, vq, vl, vc⟩ := v
    obtain ⟨e1, e2, e3⟩ : k ≤ pcN (l.take n).length s.toNat ∧ Grw (vl.take k) vl on k vc ∧ Prs (l.take n) s.toNat num vl k := hv
    obtain ⟨s1, s2, k1, k2⟩ : 16 ≤ s ∧ s ≤ 1024 ∧ k < pcN n s.toNat ∧ k * (s.toNat - 12) ≤ n := piK hS hk
    have hm : (min (((k * (s.toNat - 12) : Nat) : Int) + s - 12) (n : Int)).toNat - ((k * (s.toNat - 12) : Nat) : Int).toNat = min (s.toNat - 12) (n - k * (s.toNat - 12)) := pi_m s1 k2
    intro ho
    have := h1.2.2 ho
    show (min (((k * (s.toNat - 12) : Nat) : Int) + s - 12) (n : Int)).toNat - ((k * (s.toNat - 12) : Nat) : Int).toNat = 0 ∧ (min (((k * (s.toNat - 12) : Nat) : Int) + s - 12) (n : Int)).toNat - ((k * (s.toNat - 12) : Nat) : Int).toNat = 0
    dsimp only at this
    rw [hm]; omega
  · rename_i hS bn hA h64 v hv hk bw bi y hy bA qA spA cA a1 a2
    obtain ⟨k, on, vb, vq, vl, vc⟩ := v
    obtain ⟨e1, e2, e3⟩ : k ≤ pcN (l.take n).length s.toNat ∧ Grw (vl.take k) vl on k vc ∧ Prs (l.take n) s.toNat num vl k := hv
    obtain ⟨s1, s2, k1, k2⟩ : 16 ≤ s ∧ s ≤ 1024 ∧ k < pcN n s.toNat ∧ k * (s.toNat - 12) ≤ n := piK hS hk
    have hm : (min (((k * (s.toNat - 12) : Nat) : Int) + s - 12) (n : Int)).toNat - ((k * (s.toNat - 12) : Nat) : Int).toNat = min (s.toNat - 12) (n - k * (s.toNat - 12)) := pi_m s1 k2
    show inR .i64 (s - ((0 + 4 * 3 + ((min (((k * (s.toNat - 12) : Nat) : Int) + s - 12) (n : Int)).toNat - ((k * (s.toNat - 12) : Nat) : Int).toNat) : Nat) : Int))
    rw [hm]
    exact inR64 (by omega) (by omega)
  · rename_i hS bn hA h64 v hv hk bw bi y hy bA qA spA cA a1 a2
    obtain ⟨k, on, vb, vq, vl, vc⟩ := v
    obtain ⟨e1, e2, e3⟩ : k ≤ pcN (l.take n).length s.toNat ∧ Grw (vl.take k) vl on k vc ∧ Prs (l.take n) s.toNat num vl k := hv
    obtain ⟨s1, s2, k1, k2⟩ : 16 ≤ s ∧ s ≤ 1024 ∧ k < pcN n s.toNat ∧ k * (s.toNat - 12) ≤ n := piK hS hk
    have hm : (min (((k * (s.toNat - 12) : Nat) : Int) + s - 12) (n : Int)).toNat - ((k * (s.toNat - 12) : Nat) : Int).toNat = min (s.toNat - 12) (n - k * (s.toNat - 12)) := pi_m s1 k2
    rw [by5]
    refine ⟨a1, ?_, ?_, ?_⟩
    · show 0 + cA ≤ (List.take (0 + 4 * 3) (List.drop 0 y.2.2.2.1) ++ List.take (piM n k s) (List.drop (srow c (k * (s.toNat - 12)) 0) l) ++ spA).length
      obtain ⟨f1, f2, f3, f4⟩ := hy.1
      have a2 : cA ≤ 0 + 4 * 3 + piM n k s + spA.length := a2
      have e5 := pi_srow (c := c) (l := l) hm hnl h1.1 k2
      rw [List.length_append, List.length_append, e5, List.drop_zero, List.length_take]
      omega
    · show 0 ≤ s - ((0 + 4 * 3 + ((min (((k * (s.toNat - 12) : Nat) : Int) + s - 12) (n : Int)).toNat - ((k * (s.toNat - 12) : Nat) : Int).toNat) : Nat) : Int)
      rw [hm]; omega
    · show (0 + 4 * 3 + ((min (((k * (s.toNat - 12) : Nat) : Int) + s - 12) (n : Int)).toNat - ((k * (s.toNat - 12) : Nat) : Int).toNat) + (s - ((0 + 4 * 3 + ((min (((k * (s.toNat - 12) : Nat) : Int) + s - 12) (n : Int)).toNat - ((k * (s.toNat - 12) : Nat) : Int).toNat) : Nat) : Int)).toNat) * 1 ≤ 140737488355328
      rw [hm]; omega
  · rename_i hS bn hA h64 v hv hk bw bi y hy bA qA spA cA a1 a2
    cases hb : y.2.2.1 with
    | true => exact Bool.or_true _
    | false => exact absurd (hy.2 hb).1 (by decide)
  · rename_i hS bn hA h64 v hv hk bw bi y hy bA qA spA cA a1 a2 bZ qZ spZ cZ z1 z2
    obtain ⟨k, on, vb, vq, vl, vc⟩ := v
    obtain ⟨e1, e2, e3⟩ : k ≤ pcN (l.take n).length s.toNat ∧ Grw (vl.take k) vl on k vc ∧ Prs (l.take n) s.toNat num vl k := hv
    obtain ⟨s1, s2, k1, k2⟩ : 16 ≤ s ∧ s ≤ 1024 ∧ k < pcN n s.toNat ∧ k * (s.toNat - 12) ≤ n := piK hS hk
    have hm : (min (((k * (s.toNat - 12) : Nat) : Int) + s - 12) (n : Int)).toNat - ((k * (s.toNat - 12) : Nat) : Int).toNat = min (s.toNat - 12) (n - k * (s.toNat - 12)) := pi_m s1 k2
    show 0 + (0 + 4 * 3 + piM n k s + piZ n k s) ≤ (piRow c n k s y.2.2.2.1 l spA spZ).length
    rw [pi_row_len hy.1 hm hnl h1.1 k2]; omega
  · rename_i hS bn hA h64 v hv hk bw bi y hy bA qA spA cA a1 a2 bZ qZ spZ cZ z1 z2 bB
    obtain ⟨k, on, vb, vq, vl, vc⟩ := v
    obtain ⟨e1, e2, e3⟩ : k ≤ pcN (l.take n).length s.toNat ∧ Grw (vl.take k) vl on k vc ∧ Prs (l.take n) s.toNat num vl k := hv
    obtain ⟨s1, s2, k1, k2⟩ : 16 ≤ s ∧ s ≤ 1024 ∧ k < pcN n s.toNat ∧ k * (s.toNat - 12) ≤ n := piK hS hk
    have hm : (min (((k * (s.toNat - 12) : Nat) : Int) + s - 12) (n : Int)).toNat - ((k * (s.toNat - 12) : Nat) : Int).toNat = min (s.toNat - 12) (n - k * (s.toNat - 12)) := pi_m s1 k2
    obtain ⟨g1, g2, g3, g4, g5⟩ := e2
    have k64 := pcN_le (len := n) (s := s.toNat) (by omega) (by have := of_decide_eq_false h64; omega)
    rw [by26]
    exact ⟨g3, by show 0 + vc ≤ vl.length; omega, Nat.le_refl 1, by show (k + 1) * 24 ≤ _; omega⟩
  · rename_i hS bn hA h64 v hv hk bw bi y hy bA qA spA cA a1 a2 bZ qZ spZ cZ z1 z2 bB
    obtain ⟨k, on, vb, vq, vl, vc⟩ := v
    obtain ⟨e1, e2, e3⟩ : k ≤ pcN (l.take n).length s.toNat ∧ Grw (vl.take k) vl on k vc ∧ Prs (l.take n) s.toNat num vl k := hv
    obtain ⟨s1, s2, k1, k2⟩ : 16 ≤ s ∧ s ≤ 1024 ∧ k < pcN n s.toNat ∧ k * (s.toNat - 12) ≤ n := piK hS hk
    have hm : (min (((k * (s.toNat - 12) : Nat) : Int) + s - 12) (n : Int)).toNat - ((k * (s.toNat - 12) : Nat) : Int).toNat = min (s.toNat - 12) (n - k * (s.toNat - 12)) := pi_m s1 k2
    exact e2.2.2.2.2
  · rename_i hS bn hA h64 v hv hk bw bi y hy bA qA spA cA a1 a2 bZ qZ spZ cZ z1 z2 bB b9 q9 sp9 c9 m1 m2
    obtain ⟨k, on, vb, vq, vl, vc⟩ := v
    obtain ⟨e1, e2, e3⟩ : k ≤ pcN (l.take n).length s.toNat ∧ Grw (vl.take k) vl on k vc ∧ Prs (l.take n) s.toNat num vl k := hv
    obtain ⟨s1, s2, k1, k2⟩ : 16 ≤ s ∧ s ≤ 1024 ∧ k < pcN n s.toNat ∧ k * (s.toNat - 12) ≤ n := piK hS hk
    have hm : (min (((k * (s.toNat - 12) : Nat) : Int) + s - 12) (n : Int)).toNat - ((k * (s.toNat - 12) : Nat) : Int).toNat = min (s.toNat - 12) (n - k * (s.toNat - 12)) := pi_m s1 k2
    exact inR64 (by omega) (by omega)
  · rename_i hS bn hA h64 v hv hk bw bi y hy bA qA spA cA a1 a2 bZ qZ spZ cZ z1 z2 bB b9 q9 sp9 c9 m1 m2
    obtain ⟨k, on, vb, vq, vl, vc⟩ := v
    obtain ⟨e1, e2, e3⟩ : k ≤ pcN (l.take n).length s.toNat ∧ Grw (vl.take k) vl on k vc ∧ Prs (l.take n) s.toNat num vl k := hv
    obtain ⟨s1, s2, k1, k2⟩ : 16 ≤ s ∧ s ≤ 1024 ∧ k < pcN n s.toNat ∧ k * (s.toNat - 12) ≤ n := piK hS hk
    have hm : (min (((k * (s.toNat - 12) : Nat) : Int) + s - 12) (n : Int)).toNat - ((k * (s.toNat - 12) : Nat) : Int).toNat = min (s.toNat - 12) (n - k * (s.toNat - 12)) := pi_m s1 k2
    exact inR64 (by show _ ≤ ((k * (s.toNat - 12) : Nat) : Int) + (s - 12); omega) (by show ((k * (s.toNat - 12) : Nat) : Int) + (s - 12) ≤ _; omega)
  · rename_i hS bn hA h64 v hv hk bw bi y hy bA qA spA cA a1 a2 bZ qZ spZ cZ z1 z2 bB b9 q9 sp9 c9 m1 m2
    obtain ⟨k, on, vb, vq, vl, vc⟩ := v
    obtain ⟨e1, e2, e3⟩ : k ≤ pcN (l.take n).length s.toNat ∧ Grw (vl.take k) vl on k vc ∧ Prs (l.take n) s.toNat num vl k := hv
    obtain ⟨s1, s2, k1, k2⟩ : 16 ≤ s ∧ s ≤ 1024 ∧ k < pcN n s.toNat ∧ k * (s.toNat - 12) ≤ n := piK hS hk
    have hm : (min (((k * (s.toNat - 12) : Nat) : Int) + s - 12) (n : Int)).toNat - ((k * (s.toNat - 12) : Nat) : Int).toNat = min (s.toNat - 12) (n - k * (s.toNat - 12)) := pi_m s1 k2
    have hnn : (l.take n).length = n := tk_len hnl
    have hrow := pi_row (num := num) hy.1 hm hnl h1.1 k2 (spA := spA) (spZ := spZ)
    have e5 := e2.app (x := (⟨true, bZ, qZ + 0 * 1, cZ, List.take (0 + 4 * 3 + piM n k s + piZ n k s) (List.drop 0 (piRow c n k s y.2.2.2.1 l spA spZ))⟩ : Rw Int)) (sp := sp9) m1 m2
    have e6 := e5.2.1
    refine Stands.one (k + 1, true, b9, q9, vl.take k ++ [⟨true, bZ, qZ + 0 * 1, cZ, List.take (0 + 4 * 3 + piM n k s + piZ n k s) (List.drop 0 (piRow c n k s y.2.2.2.1 l spA spZ))⟩] ++ sp9, c9) ⟨⟨by rw [hnn]; exact k1, ?_, ?_, ?_⟩, ?_, ?_⟩
    · show Grw (List.take (k + 1) _) _ _ _ _
      rw [e6]
      exact e5
    · show (List.take (k + 1) _).map _ = _
      rw [e6, List.range_succ, List.map_append, List.map_append, e3.1]
      show _ ++ [_] = _ ++ [_]
      rw [hrow]
    · show ∀ r ∈ List.take (k + 1) _, Rok r
      rw [e6]
      intro r hr
      rcases List.mem_append.1 hr with hr | hr
      · exact e3.2 r hr
      · rw [List.mem_singleton.1 hr, hrow]
        have hl := piece_len (B := l.take n) (s := s.toNat) (n := num) (k := k) (by omega)
        have z1 : 0 + 4 * 3 + piM n k s + piZ n k s ≤ cZ := z1
        have e7 : 0 + 4 * 3 + piM n k s + piZ n k s = s.toNat := by unfold piZ piM; rw [hm]; omega
        exact ⟨fun h => Bool.noConfusion h, by show _ ≤ cZ; rw [hl]; omega, by rw [hl]; omega⟩
    · show pcN (l.take n).length s.toNat - (k + 1) < pcN (l.take n).length s.toNat - k
      rw [hnn]; omega
    ((conv => (arg 1; reduce)); with_reducible repeat' (first | exact Tr.yes_h | refine Tr.and_h ?_ ?_ | refine Tr.imp_h fun _ => ?_ | refine Tr.all_h fun _ => ?_ | refine Tr.lf_h ?_))
    all_goals try (first | first | (show Region.lexB _ _ = true; kernel_rfl) | (show planned _ _ = true; kernel_rfl) | exact rfl | exact True.intro | ((try dsimp only [imp, C0, cG, cInt, cPl, cSlot, cPg, rwCodec, cRaw] at *); (try refine inR64 ?_ ?_) <;> (try simp only [List.length_set, List.length_append, List.length_take, List.length_drop]) <;> omega))
    show ((k * (s.toNat - 12) : Nat) : Int) + (s - 12) = (((k + 1) * (s.toNat - 12) : Nat) : Int)
    rw [Nat.add_mul, Nat.one_mul]; omega
  · rename_i hS bn hA h64 v hv hk
    obtain ⟨k, on, vb, vq, vl, vc⟩ := v
    obtain ⟨e1, e2, e3⟩ : k ≤ pcN (l.take n).length s.toNat ∧ Grw (vl.take k) vl on k vc ∧ Prs (l.take n) s.toNat num vl k := hv
    rw [tk_len hnl] at e1
    obtain rfl := piK2 hS hk e1
    have hp := pcN_pos n s.toNat
    obtain rfl : on = true := on_of e2.2.2.2.2 hp
    have h64 := of_decide_eq_false h64
    have hs0 := piS0 hS
    refine Ends.next (Ends.next (Ends.next (Ends.one (vb, vq, vl, vc) ⟨hs0, (alln1 num).symm.trans (by simpa using hA), by omega, e2, e3⟩ ?_)))
    ((conv => (arg 1; reduce)); with_reducible repeat' (first | exact Tr.yes_h | refine Tr.and_h ?_ ?_ | refine Tr.imp_h fun _ => ?_ | refine Tr.all_h fun _ => ?_ | refine Tr.lf_h ?_))
    all_goals (first | first | (show Region.lexB _ _ = true; kernel_rfl) | (show planned _ _ = true; kernel_rfl) | exact rfl | exact True.intro | ((try dsimp only [imp, C0, cG, cInt, cPl, cSlot, cPg, rwCodec, cRaw] at *); (try refine inR64 ?_ ?_) <;> (try simp only [List.length_set, List.length_append, List.length_take, List.length_drop]) <;> omega))
def fcPieces : Fc Tryd.prog C0 where
  tg := .fn 20
  X := Sq Int × Int × Int
  args := fun ((o, b, q, l, n, c), s, num) => [.sl 0 0 n c, .int .i64 s, .int .i64 num]
  mem := fun ((o, b, q, l, n, c), s, num) => [⟨b, q, 1, false, some o, .rows 5 l⟩]
  pre := fun ((o, b, q, l, n, c), s, num) => Sq.ok (o, b, q, l, n, c) ∧ n ≤ 1000000
  alts := fun ((o, b, q, l, n, c), s, num) => [⟨Unit, fun _ => s < 16 ∨ 1024 < s, fun _ => .tup [.nils, eV 2], fun _ => [⟨b, q, 1, false, some o, .rows 5 l⟩]⟩,
     ⟨Unit, fun _ => (16 ≤ s ∧ s ≤ 1024) ∧ cn num = false, fun _ => .tup [.nils, eV 0], fun _ => [⟨b, q, 1, false, some o, .rows 5 l⟩]⟩,
     ⟨Unit, fun _ => (16 ≤ s ∧ s ≤ 1024) ∧ cn num = true ∧ 64 * (s.toNat - 12) < n, fun _ => .tup [.nils, eV 1], fun _ => [⟨b, q, 1, false, some o, .rows 5 l⟩]⟩,
     ⟨Nat × Nat × List (Rw Int) × Nat, fun y => (16 ≤ s ∧ s ≤ 1024) ∧ cn num = true ∧ n ≤ 64 * (s.toNat - 12) ∧ Grw (y.2.2.1.take (pcN n s.toNat)) y.2.2.1 true (pcN n s.toNat) y.2.2.2 ∧ Prs (l.take n) s.toNat num y.2.2.1 (pcN n s.toNat), fun y => .tup [.sl 1 0 (pcN n s.toNat) y.2.2.2, .nili],
      fun y => [⟨b, q, 1, false, some o, .rows 5 l⟩, ⟨y.1, y.2.1, 1, true, none, .rows 26 y.2.2.1⟩]⟩]
  mat vs m := match vs with
    | [.sl a 0 n c, .int _ s, .int _ num] => match nth m a with
      | ⟨b, q, _, _, g, .rows 5 l⟩ => some (((onOf g, b, q, l, n, c), s, num), [a])
      | _ => none
    | [.nils, .int _ s, .int _ num] => some (((false, 0, 0, [], 0, 0), s, num), [m.length])
    | _ => none
  ok := fun ((o, b, q, l, n, c), s, num) h => pieces_ok o b q l n c s num h.1 h.2
end Go.Vx
set_option linter.unusedSectionVars false
set_option maxRecDepth 100000
set_option linter.unusedVariables false
set_option linter.unusedSimpArgs false
namespace Go.Vx
open Go Go.Proofs
variable [Gl]

theorem wrap_i64 (n : Nat) (h : n < 9223372036854775808) : IntKind.i64.wrap (n : Int) = n := by
  unfold IntKind.wrap
  simp [IntKind.bits, IntKind.signed]
  omega
theorem ofInt_i64 (n : Nat) (h : n < 9223372036854775808) : (BitVec.ofInt 64 (n : Int)).toNat = n := by
  simp [BitVec.toNat_ofInt]; omega
theorem or_i64 (a b : Nat) (ha : a < 9223372036854775808) (hb : b < 9223372036854775808) : ibit .or .i64 a b = ((a ||| b : Nat) : Int) := by
  show IntKind.i64.wrap (((BitVec.ofInt 64 (a : Int)) ||| (BitVec.ofInt 64 (b : Int))).toNat : Int) = _
  rw [BitVec.toNat_or, ofInt_i64 a ha, ofInt_i64 b hb]
  exact wrap_i64 _ (Nat.or_lt_two_pow (n := 63) ha hb)
theorem or_add (i a b : Nat) (h : b < 2 ^ i) : b ||| (a * 2 ^ i) = b + a * 2 ^ i := by
  rw [Nat.or_comm, Nat.mul_comm a, ← Nat.two_pow_add_eq_or_of_lt h, Nat.add_comm]
theorem ishl_nat (a k : Nat) (hk : k ≤ 24) (ha : a < 256) : ishl .i64 (a : Int) k = ((a * 2 ^ k : Nat) : Int) := by
  unfold ishl
  have e : min ((k : Int)).toNat IntKind.i64.bits = k := by simp [IntKind.bits]; omega
  rw [e, show ((a : Int) * 2 ^ k) = ((a * 2 ^ k : Nat) : Int) by simp]
  have h2 : 2 ^ k ≤ 2 ^ 24 := Nat.pow_le_pow_right (by decide) hk
  refine wrap_i64 _ ?_
  calc a * 2 ^ k ≤ 256 * 2 ^ 24 := Nat.mul_le_mul (by omega) h2
    _ < _ := by decide
theorem nm_nat (l : List Int) (i a b c d : Nat) (ha : a < 256) (hb : b < 256) (hc : c < 256) (hd : d < 256) (h0 : l.getD i 0 = a) (h1 : l.getD (i + 1) 0 = b) (h2 : l.getD (i + 2) 0 = c) (h3 : l.getD (i + 3) 0 = d) :
    nm l i = ((a + b * 256 + c * 65536 + d * 16777216 : Nat) : Int) := by
  unfold nm
  rw [h0, h1, h2, h3]
  have e1 := ishl_nat b 8 (by decide) hb
  have e2 := ishl_nat c 16 (by decide) hc
  have e3 := ishl_nat d 24 (by decide) hd
  simp only [Int.reducePow, Nat.reducePow] at e1 e2 e3
  rw [show ishl .i64 (b : Int) 8 = ((b * 256 : Nat) : Int) from e1, show ishl .i64 (c : Int) 16 = ((c * 65536 : Nat) : Int) from e2, show ishl .i64 (d : Int) 24 = ((d * 16777216 : Nat) : Int) from e3]
  rw [or_i64 _ _ (by omega) (by omega), show a ||| b * 256 = a + b * 256 from or_add 8 b a (by omega)]
  rw [or_i64 _ _ (by omega) (by omega), show (a + b * 256) ||| c * 65536 = a + b * 256 + c * 65536 from or_add 16 c _ (by omega)]
  rw [or_i64 _ _ (by omega) (by omega), show (a + b * 256 + c * 65536) ||| d * 16777216 = a + b * 256 + c * 65536 + d * 16777216 from or_add 24 d _ (by omega)]
theorem four_nat (n : Nat) (h : n < 4294967296) : four (n : Int) = [((n % 256 : Nat) : Int), ((n / 256 % 256 : Nat) : Int), ((n / 65536 % 256 : Nat) : Int), ((n / 16777216 % 256 : Nat) : Int)] := by
  unfold four
  have w : ∀ m : Int, IntKind.u8.wrap m = m % 256 := fun m => by simp [IntKind.wrap, IntKind.signed, IntKind.bits]
  have s8 : ishr .i64 (n : Int) 8 = ((n / 256 : Nat) : Int) := by
    show ((n : Int)).fdiv 256 = _
    rw [Int.fdiv_eq_ediv_of_nonneg _ (by decide)]; simp
  have s16 : ishr .i64 (n : Int) 16 = ((n / 65536 : Nat) : Int) := by
    show ((n : Int)).fdiv 65536 = _
    rw [Int.fdiv_eq_ediv_of_nonneg _ (by decide)]; simp
  have s24 : ishr .i64 (n : Int) 24 = ((n / 16777216 : Nat) : Int) := by
    show ((n : Int)).fdiv 16777216 = _
    rw [Int.fdiv_eq_ediv_of_nonneg _ (by decide)]; simp
  rw [s8, s16, s24, w, w, w, w]
  simp
/-- A number that four bytes hold. -/
def U32 (x : Int) : Prop := 0 ≤ x ∧ x < 4294967296
theorem byt_at {l : List Int} (h : Bys l) {i : Nat} (hi : i < l.length) : ∃ a : Nat, a < 256 ∧ l.getD i 0 = a ∧ l[i] = a := by
  obtain ⟨h1, h2⟩ := h l[i] (List.getElem_mem hi)
  obtain ⟨a, ha⟩ := Int.eq_ofNat_of_zero_le h1
  refine ⟨a, by omega, ?_, ha⟩
  rw [List.getD_eq_getElem?_getD, List.getElem?_eq_getElem hi, Option.getD_some]; exact ha
theorem four_nm {l : List Int} (h : Bys l) {j : Nat} (hj : j + 4 ≤ l.length) : four (nm l j) = (l.drop j).take 4 ∧ U32 (nm l j) := by
  obtain ⟨a, ha, ha2, ha3⟩ := byt_at h (i := j) (by omega)
  obtain ⟨b, hb, hb2, hb3⟩ := byt_at h (i := j + 1) (by omega)
  obtain ⟨c, hc, hc2, hc3⟩ := byt_at h (i := j + 2) (by omega)
  obtain ⟨d, hd, hd2, hd3⟩ := byt_at h (i := j + 3) (by omega)
  rw [nm_nat l j a b c d ha hb hc hd ha2 hb2 hc2 hd2]
  refine ⟨?_, by unfold U32; omega⟩
  rw [four_nat _ (by omega)]
  have e1 : (a + b * 256 + c * 65536 + d * 16777216) % 256 = a := by omega
  have e2 : (a + b * 256 + c * 65536 + d * 16777216) / 256 % 256 = b := by omega
  have e3 : (a + b * 256 + c * 65536 + d * 16777216) / 65536 % 256 = c := by omega
  have e4 : (a + b * 256 + c * 65536 + d * 16777216) / 16777216 % 256 = d := by omega
  rw [e1, e2, e3, e4, List.drop_eq_getElem_cons (show j < l.length by omega), List.drop_eq_getElem_cons (show j + 1 < l.length by omega),
    List.drop_eq_getElem_cons (show j + 1 + 1 < l.length by omega), List.drop_eq_getElem_cons (show j + 1 + 1 + 1 < l.length by omega)]
  simp only [List.take_succ_cons, List.take_zero, ha3, hb3]
  rw [show l[j + 1 + 1] = (c : Int) from hc3, show l[j + 1 + 1 + 1] = (d : Int) from hd3]
theorem nm_four {x : Int} (h : U32 x) (r : List Int) : nm (four x ++ r) 0 = x := by
  obtain ⟨n, rfl⟩ := Int.eq_ofNat_of_zero_le h.1
  have hn : n < 4294967296 := by have := h.2; omega
  rw [four_nat n hn]
  rw [nm_nat _ 0 (n % 256) (n / 256 % 256) (n / 65536 % 256) (n / 16777216 % 256) (by omega) (by omega) (by omega) (by omega) rfl rfl rfl rfl]
  congr 1
  omega
theorem nm_drop (l : List Int) (i j : Nat) : nm (l.drop i) j = nm l (i + j) := by
  unfold nm
  simp only [List.getD_eq_getElem?_getD, List.getElem?_drop, Nat.add_assoc]
theorem nm_take (l : List Int) {n j : Nat} (h : j + 4 ≤ n) : nm (l.take n) j = nm l j := by
  unfold nm
  simp only [List.getD_eq_getElem?_getD, List.getElem?_take, show j < n by omega, show j + 1 < n by omega, show j + 2 < n by omega, show j + 3 < n by omega, if_true]
theorem nm_fours {N : List Int} (h : ∀ x ∈ N, U32 x) (r : List Int) : ∀ {k : Nat}, k < N.length → nm (fours N ++ r) (4 * k) = N.getD k 0 := by
  induction N with
  | nil => intro k hk; simp at hk
  | cons x M ih =>
    intro k hk
    have e : fours (x :: M) ++ r = four x ++ (fours M ++ r) := by
      rw [show x :: M = [x] ++ M from rfl, fours_app, fours_one, List.append_assoc]
    rw [e]
    cases k with
    | zero => rw [Nat.mul_zero, nm_four (h x List.mem_cons_self)]; rfl
    | succ k =>
      have h2 := ih (fun y hy => h y (List.mem_cons_of_mem _ hy)) (k := k) (by simpa using hk)
      have h3 := nm_drop (four x ++ (fours M ++ r)) 4 (4 * k)
      rw [List.drop_append_of_le_length (by rw [four_len]; exact Nat.le_refl _), List.drop_of_length_le (by rw [four_len]; exact Nat.le_refl _), List.nil_append] at h3
      rw [show 4 * (k + 1) = 4 + 4 * k by omega, ← h3, h2]; rfl
/-- The numbers of bytes. -/
def rdN (b : List Int) (M : Nat) : List Int := (List.range M).map fun k => nm b (4 * k)
theorem rdN_len (b : List Int) (M : Nat) : (rdN b M).length = M := by unfold rdN; simp
theorem rdN_get (b : List Int) {M k : Nat} (h : k < M) : (rdN b M).getD k 0 = nm b (4 * k) := by
  unfold rdN
  rw [List.getD_eq_getElem?_getD, List.getElem?_map, List.getElem?_range h]; rfl
theorem fours_rdN {b : List Int} (h : Bys b) : ∀ (M : Nat), 4 * M ≤ b.length → fours (rdN b M) = b.take (4 * M)
  | 0, _ => by unfold rdN; simp [fours_nil]
  | M + 1, hM => by
    have ih := fours_rdN h M (by omega)
    unfold rdN at *
    rw [List.range_succ, List.map_append, fours_app, ih, List.map_singleton, fours_one, (four_nm h (by omega)).1, show 4 * (M + 1) = 4 * M + 4 by omega, List.take_add]
theorem rdN_u32 {b : List Int} (h : Bys b) {M : Nat} (hM : 4 * M ≤ b.length) : ∀ x ∈ rdN b M, U32 x := by
  unfold rdN
  intro x hx
  obtain ⟨k, hk, rfl⟩ := List.mem_map.1 hx
  exact (four_nm h (by have := List.mem_range.1 hk; omega)).2
theorem rdN_fours {N : List Int} (h : ∀ x ∈ N, U32 x) (r : List Int) : rdN (fours N ++ r) N.length = N := by
  refine List.ext_getElem (by rw [rdN_len]) fun k h1 h2 => ?_
  have e := nm_fours h r (k := k) h2
  rw [List.getD_eq_getElem?_getD, List.getElem?_eq_getElem h2, Option.getD_some] at e
  rw [← e, ← rdN_get _ h2, List.getD_eq_getElem?_getD, List.getElem?_eq_getElem h1, Option.getD_some]
theorem crc_u32 (l : List Int) : U32 (crc l) := ibit_u32 _ _ _
/-- A point's parts, out of its numbers. -/
theorem nums_len (h : Hd) (A : List Pl) (B : List Slot) : (nums h A B).length = 6 + 2 * A.length + 9 * B.length := by
  unfold nums
  have e1 : ∀ A : List Pl, (A.flatMap lst).length = 2 * A.length := by
    intro A
    induction A with
    | nil => rfl
    | cons x r ih => rw [List.flatMap_cons, List.length_append, ih]; simp [lst]; omega
  have e2 : ∀ B : List Slot, (B.flatMap slotN).length = 9 * B.length := by
    intro B
    induction B with
    | nil => rfl
    | cons x r ih => rw [List.flatMap_cons, List.length_append, ih]; simp [slotN]; omega
  simp only [List.length_append, List.length_cons, List.length_nil, e1, e2]
  omega
theorem flat_inj {α : Type} {f : α → List Int} {k : Nat} (hf : ∀ x, (f x).length = k) (hi : ∀ x y, f x = f y → x = y) : ∀ {A A' : List α}, A.length = A'.length → A.flatMap f = A'.flatMap f → A = A'
  | [], [], _, _ => rfl
  | [], _ :: _, h, _ => by simp at h
  | _ :: _, [], h, _ => by simp at h
  | x :: A, y :: A', hl, h => by
    rw [List.flatMap_cons, List.flatMap_cons] at h
    obtain ⟨h1, h2⟩ := List.append_inj h (by rw [hf, hf])
    rw [hi x y h1, flat_inj hf hi (by simpa using hl) h2]
theorem lst_inj (x y : Pl) (h : lst x = lst y) : x = y := by
  obtain ⟨a, b⟩ := x; obtain ⟨c, d⟩ := y
  simpa [lst] using h
theorem slotN_inj (x y : Slot) (h : slotN x = slotN y) : x = y := by
  obtain ⟨k, ⟨a, b⟩, ⟨m1, m2, m3, m4, m5, m6⟩⟩ := x
  obtain ⟨k', ⟨a', b'⟩, ⟨m1', m2', m3', m4', m5', m6'⟩⟩ := y
  simp [slotN] at h
  simp [h]
theorem nums_inj {h h' : Hd} {A A' : List Pl} {B B' : List Slot} (he : nums h A B = nums h' A' B') : h = h' ∧ A = A' ∧ B = B' := by
  unfold nums at he
  simp only [List.cons_append, List.nil_append, List.cons.injEq, List.append_assoc] at he
  obtain ⟨e1, e2, e3, e4, e5, e6⟩ := he
  have hl : A.length = A'.length := by omega
  have e1' : ∀ A : List Pl, (A.flatMap lst).length = 2 * A.length := by
    intro A
    induction A with
    | nil => rfl
    | cons x r ih => rw [List.flatMap_cons, List.length_append, ih]; simp [lst]; omega
  obtain ⟨g1, g2⟩ := List.append_inj e6 (by rw [e1', e1', hl])
  simp only [List.cons_append, List.nil_append, List.cons.injEq] at g2
  refine ⟨Prod.ext e1 (Prod.ext e2 (Prod.ext e3 e4)), flat_inj (f := lst) (k := 2) (fun _ => rfl) lst_inj hl g1, flat_inj (f := slotN) (k := 9) (fun _ => rfl) slotN_inj (by have := g2.1; omega) g2.2⟩
theorem okBs_at {A : List Pl} : ∀ {n : Nat}, okBs A n = true → ∀ i, i < n → cn (A.getD i (0, 0)).1 = true ∧ cn (A.getD i (0, 0)).2 = true ∧ (A.getD i (0, 0)).1 < 64
  | n + 1, h, i, hi => by
    rw [okBs] at h
    unfold okB at h
    simp only [Bool.and_eq_true, decide_eq_true_iff] at h
    rcases Nat.lt_succ_iff_lt_or_eq.1 hi with hi | rfl
    · exact okBs_at h.1.1.1 i hi
    · exact ⟨h.1.1.2.1, h.1.1.2.2, h.1.2⟩
theorem okSs_at {A : List Pl} {ok : Bool} {B : List Slot} : ∀ {n : Nat}, okSs A ok B n = true → ok = true ∧ ∀ i, i < n → anyF (fun x => decide (x.1 = (B.getD i slot0).pl.1)) A = true ∧ cn (B.getD i slot0).key = true ∧ cn (B.getD i slot0).pl.2 = true ∧ okMe (B.getD i slot0).me = true
  | 0, h => ⟨h, fun i hi => absurd hi (Nat.not_lt_zero _)⟩
  | n + 1, h => by
    rw [okSs] at h
    unfold okS at h
    simp only [Bool.and_eq_true, decide_eq_true_iff] at h
    obtain ⟨h1, h2⟩ := okSs_at h.1.1.1.1.1
    refine ⟨h1, fun i hi => ?_⟩
    rcases Nat.lt_succ_iff_lt_or_eq.1 hi with hi | rfl
    · exact h2 i hi
    · exact ⟨h.1.1.1.1.2, h.1.1.1.2.1, h.1.1.1.2.2, h.1.2⟩
theorem cn_u32 {x : Int} (h : cn x = true) : U32 x := by have := cn_iff.1 h; unfold U32; omega
theorem okMe_u32 {m : Me} (h : okMe m = true) : U32 m.kind ∧ U32 m.key ∧ U32 m.seq ∧ U32 m.stamp ∧ U32 m.batch ∧ U32 m.floor := by
  unfold okMe at h
  simp only [Bool.and_eq_true, decide_eq_true_iff] at h
  exact ⟨by unfold U32; omega, cn_u32 h.1.1.1.1.2, cn_u32 h.1.1.1.2, cn_u32 h.1.1.2, cn_u32 h.1.2, cn_u32 h.2⟩
theorem okP_u32 {h : Hd} {A : List Pl} {B : List Slot} (hok : okP h A B = true) (hA : A.length < 4294967296) (hB : B.length < 4294967296) : ∀ x ∈ nums h A B, U32 x := by
  unfold okP at hok
  obtain ⟨h1, h2⟩ := okSs_at hok
  simp only [Bool.and_eq_true] at h1
  have h3 := okBs_at h1.2
  have h4 := h1.1
  unfold okH at h4
  simp only [Bool.and_eq_true] at h4
  have hAm : ∀ b ∈ A, cn b.1 = true ∧ cn b.2 = true := by
    intro b hb
    obtain ⟨i, hi, rfl⟩ := List.mem_iff_getElem.1 hb
    have := h3 i hi
    rw [List.getD_eq_getElem?_getD, List.getElem?_eq_getElem hi, Option.getD_some] at this
    exact ⟨this.1, this.2.1⟩
  intro x hx
  unfold nums at hx
  simp only [List.mem_append, List.mem_cons, List.not_mem_nil, or_false, List.mem_flatMap] at hx
  rcases hx with ((hx | ⟨b, hb, hx⟩) | hx) | ⟨s, hs, hx⟩
  · rcases hx with rfl | rfl | rfl | rfl | rfl
    · exact cn_u32 h4.1.1.1
    · exact cn_u32 h4.1.1.2
    · exact cn_u32 h4.1.2
    · exact cn_u32 h4.2
    · unfold U32; omega
  · simp only [lst, List.mem_cons, List.not_mem_nil, or_false] at hx
    rcases hx with rfl | rfl
    · exact cn_u32 (hAm b hb).1
    · exact cn_u32 (hAm b hb).2
  · subst hx; unfold U32; omega
  · obtain ⟨i, hi, rfl⟩ := List.mem_iff_getElem.1 hs
    have g := h2 i hi
    rw [List.getD_eq_getElem?_getD, List.getElem?_eq_getElem hi, Option.getD_some] at g
    obtain ⟨g1, g2, g3, g4⟩ := g
    have g5 := okMe_u32 g4
    unfold anyF at g1
    obtain ⟨b, hb, hbe⟩ := List.any_eq_true.1 g1
    have hbe := of_decide_eq_true hbe
    simp only [slotN, List.mem_cons, List.not_mem_nil, or_false] at hx
    rcases hx with rfl | rfl | rfl | rfl | rfl | rfl | rfl | rfl | rfl
    · exact cn_u32 g2
    · rw [← hbe]; exact cn_u32 (hAm b hb).1
    · exact cn_u32 g3
    · exact g5.1
    · exact g5.2.1
    · exact g5.2.2.1
    · exact g5.2.2.2.1
    · exact g5.2.2.2.2.1
    · exact g5.2.2.2.2.2
theorem bytesP_byt (h : Hd) (A : List Pl) (B : List Slot) : Bys (bytesP h A B) := by
  unfold bytesP
  exact (fours_byt _).app (four_byt _)
theorem bytesP_len (h : Hd) (A : List Pl) (B : List Slot) : (bytesP h A B).length = 28 + 8 * A.length + 36 * B.length := by
  unfold bytesP
  rw [List.length_append, fours_len, four_len, nums_len]; omega
theorem bytesP_inj {h h' : Hd} {A A' : List Pl} {B B' : List Slot} (hok : okP h A B = true) (hok' : okP h' A' B' = true) (hA : A.length < 4294967296) (hB : B.length < 4294967296) (hA' : A'.length < 4294967296) (hB' : B'.length < 4294967296)
    (he : bytesP h A B = bytesP h' A' B') : h = h' ∧ A = A' ∧ B = B' := by
  have hu := okP_u32 hok hA hB
  have hu' := okP_u32 hok' hA' hB'
  have hl := congrArg List.length he
  rw [bytesP_len, bytesP_len] at hl
  unfold bytesP at he
  have hf : (fours (nums h A B)).length = (fours (nums h' A' B')).length := by rw [fours_len, fours_len, nums_len, nums_len]; omega
  have hf2 := (List.append_inj he hf).1
  have e1 := rdN_fours hu []
  have e2 := rdN_fours hu' []
  rw [fours_len, fours_len] at hf
  rw [hf2, show (nums h A B).length = (nums h' A' B').length by omega, e2] at e1
  exact nums_inj e1.symm
end Go.Vx
set_option linter.unusedSectionVars false
set_option maxRecDepth 100000
set_option linter.unusedVariables false
set_option linter.unusedSimpArgs false
namespace Go.Vx
open Go Go.Proofs
variable [Gl]

/-- Pieces whose sizes may not be. -/
def jbad (L : List (List Int)) : Prop := L.length = 0 ∨ (L.getD 0 []).length < 16 ∨ 1024 < (L.getD 0 []).length ∨ ∃ j, j < L.length ∧ (L.getD j []).length ≠ (L.getD 0 []).length
/-- Pieces that are one another's, numbered n, of s bytes. -/
def JOk (L : List (List Int)) (n s : Int) : Prop := ¬ jbad L ∧ (∀ j, j < L.length → nm (L.getD j []) 0 = n ∧ nm (L.getD j []) 4 = (j : Nat) ∧ nm (L.getD j []) 8 = s) ∧ cn n = true ∧ L.length ≤ 64 ∧
  s ≤ (L.length * ((L.getD 0 []).length - 12) : Nat) ∧ (L.length : Int) = max 1 ((s + ((L.getD 0 []).length - 12 : Nat) - 1) / ((L.getD 0 []).length - 12 : Nat))
def jout (L : List (List Int)) : List Int := L.flatMap (·.drop 12)
theorem jout_len {L : List (List Int)} {k : Nat} (h : ∀ j, j < L.length → (L.getD j []).length = k) : (jout L).length = L.length * (k - 12) := by
  unfold jout
  induction L with
  | nil => simp
  | cons x r ih =>
    have h0 := h 0 (by simp)
    have h1 := ih (fun j hj => h (j + 1) (by simp; omega))
    simp only [List.getD_cons_zero] at h0
    rw [List.flatMap_cons, List.length_append, h1, List.length_drop, h0, List.length_cons, Nat.add_mul, Nat.one_mul]; omega
def rowL (l : List (Rw Int)) (i n : Nat) : List (List Int) := ((l.drop i).take n).map (·.l)
theorem rowL_len {l : List (Rw Int)} {i n : Nat} (h : i + n ≤ l.length) : (rowL l i n).length = n := by unfold rowL; rw [List.length_map, rows_len h]
theorem rowL_at {l : List (Rw Int)} {i n v : Nat} (h : i + n ≤ l.length) (hv : v < n) : (rowL l i n).getD v [] = (l.getD (v + i) Rw.nil).l := by
  unfold rowL
  rw [List.getD_eq_getElem?_getD, List.getElem?_map, List.getElem?_eq_getElem (by rw [rows_len h]; exact hv), ← rows_at hv, List.getD_eq_getElem?_getD, List.getElem?_eq_getElem (by rw [rows_len h]; exact hv)]
  rfl
def Jo4 (L : List (List Int)) : Inv' C0 := ⟨4, Nat, fun k => [(36, .int .i64 (k : Int))], fun x m => m, fun k => k ≤ L.length ∧ ∀ j, j < k → (L.getD j []).length = (L.getD 0 []).length, fun k => L.length - k⟩
def Jo14 (L : List (List Int)) : Inv' C0 := ⟨14, Gx Int, fun x => [(67, .int .i64 (x.1 : Int)), (12, .sl 6 0 (x.1 * ((L.getD 0 []).length - 12)) x.2.2.2.2.2)], fun x m => match m with
  | [a, g1, g2, g3, g4, r] => [a, g1, g2, g3, g4, r, ⟨x.2.2.1, x.2.2.2.1, 1, true, some x.2.1, .rows 5 x.2.2.2.2.1⟩]
  | m => m, fun x => x.1 ≤ L.length ∧ Grw (jout (L.take x.1)) x.2.2.2.2.1 x.2.1 (x.1 * ((L.getD 0 []).length - 12)) x.2.2.2.2.2 ∧
    (∀ j, j < x.1 → nm (L.getD j []) 0 = nm (L.getD 0 []) 0 ∧ nm (L.getD j []) 4 = (j : Nat) ∧ nm (L.getD j []) 8 = nm (L.getD 0 []) 8), fun x => L.length - x.1⟩
theorem getR_ok (b0 q0 : Nat) (bad : Bool) (o : Bool) (b q : Nat) (l : List Int) (i n c : Nat) (h1 : n ≤ c) (h2 : i + n ≤ l.length) (h3 : n < 140737488355000) (ho : o = false → n = 0 ∧ c = 0) (hb : Bys ((l.drop i).take n)) :
    Does (C := C0) Tryd.prog (.fn 43) [⟨b0, q0, 2, true, none, .one [.sl 1 i n c, .bool (.tm bad)]⟩, ⟨b, q, 1, false, some o, .rows 5 l⟩] [.ptr 0 0 0]
    [⟨Rs × Int, fun y => y = (gs (i, n, c, bad), gv l (i, n, c, bad)), fun y => .int .i64 y.2, fun y => [⟨b0, q0, 2, true, none, .one [.sl 1 y.1.1 y.1.2.1 y.1.2.2.1, .bool (.tm y.1.2.2.2)]⟩, ⟨b, q, 1, false, some o, .rows 5 l⟩]⟩] := by
  refine loc_fn (P := Tryd.prog) (E := ⟨[], [], 56, [], [], []⟩) (L := []) mix Tryd.func43 rfl (by kernel_rfl) (by kernel_rfl) rfl rfl ?_
  ((conv => (arg 1; reduce)); with_reducible repeat' (first | exact Tr.yes_h | refine Tr.and_h ?_ ?_ | refine Tr.imp_h fun _ => ?_ | refine Tr.all_h fun _ => ?_ | refine Tr.lf_h ?_))
  all_goals try (first | first | (show Region.lexB _ _ = true; kernel_rfl) | (show planned _ _ = true; kernel_rfl) | exact rfl | exact True.intro | ((try dsimp only [imp, C0, cG, cInt, cPl, cSlot, cPg, rwCodec, cRaw] at *); (try refine inR64 ?_ ?_) <;> (try simp only [List.length_set, List.length_append, List.length_take, List.length_drop]) <;> omega))
  all_goals rename_i hn
  all_goals try (have hn := of_decide_eq_false hn)
  all_goals try exact on_of ho (by omega)
  all_goals try omega
  all_goals try (show _ + i < l.length; simp only [Int.toNat]; omega)
  · have hn := of_decide_eq_true hn
    refine Ends.one (gs (i, n, c, bad), gv l (i, n, c, bad)) rfl ?_
    have h : n < 4 := by omega
    simp only [gs, gv, h, if_true]
    ((conv => (arg 1; reduce)); with_reducible repeat' (first | exact Tr.yes_h | refine Tr.and_h ?_ ?_ | refine Tr.imp_h fun _ => ?_ | refine Tr.all_h fun _ => ?_ | refine Tr.lf_h ?_))
    all_goals (first | first | (show Region.lexB _ _ = true; kernel_rfl) | (show planned _ _ = true; kernel_rfl) | exact rfl | exact True.intro | ((try dsimp only [imp, C0, cG, cInt, cPl, cSlot, cPg, rwCodec, cRaw] at *); (try refine inR64 ?_ ?_) <;> (try simp only [List.length_set, List.length_append, List.length_take, List.length_drop]) <;> omega))
  · exact byt_get (j := 0) hb (by omega)
  · exact byt_get (j := 1) hb (by omega)
  · exact byt_get (j := 2) hb (by omega)
  · exact byt_get (j := 3) hb (by omega)
  · refine Ends.one (gs (i, n, c, bad), gv l (i, n, c, bad)) rfl ?_
    have h : ¬ n < 4 := by omega
    simp only [gs, gv, h, if_false]
    ((conv => (arg 1; reduce)); with_reducible repeat' (first | exact Tr.yes_h | refine Tr.and_h ?_ ?_ | refine Tr.imp_h fun _ => ?_ | refine Tr.all_h fun _ => ?_ | refine Tr.lf_h ?_))
    all_goals try (first | first | (show Region.lexB _ _ = true; kernel_rfl) | (show planned _ _ = true; kernel_rfl) | exact rfl | exact True.intro | ((try dsimp only [imp, C0, cG, cInt, cPl, cSlot, cPg, rwCodec, cRaw] at *); (try refine inR64 ?_ ?_) <;> (try simp only [List.length_set, List.length_append, List.length_take, List.length_drop]) <;> omega))
    exact nm_of (by simp) (by simp; omega) (by simp; omega) (by simp; omega)
def fcGetR : Fc Tryd.prog C0 where
  tg := .fn 43
  X := Nat × Nat × Bool × Bool × Nat × Nat × List Int × Nat × Nat × Nat
  args := fun (b0, q0, bad, o, b, q, l, i, n, c) => [.ptr 0 0 0]
  mem := fun (b0, q0, bad, o, b, q, l, i, n, c) => [⟨b0, q0, 2, true, none, .one [.sl 1 i n c, .bool (.tm bad)]⟩, ⟨b, q, 1, false, some o, .rows 5 l⟩]
  pre := fun (b0, q0, bad, o, b, q, l, i, n, c) => n ≤ c ∧ i + n ≤ l.length ∧ n < 140737488355000 ∧ (o = false → n = 0 ∧ c = 0) ∧ Bys ((l.drop i).take n)
  alts := fun (b0, q0, bad, o, b, q, l, i, n, c) => [⟨Rs × Int, fun y => y = (gs (i, n, c, bad), gv l (i, n, c, bad)), fun y => .int .i64 y.2, fun y => [⟨b0, q0, 2, true, none, .one [.sl 1 y.1.1 y.1.2.1 y.1.2.2.1, .bool (.tm y.1.2.2.2)]⟩, ⟨b, q, 1, false, some o, .rows 5 l⟩]⟩]
  mat vs m := match vs with
    | [.ptr a _ _] => match nth m a with
      | ⟨b0, q0, _, _, _, .one [.sl a2 i n c, .bool bad]⟩ => match nth m a2 with
        | ⟨b, q, _, _, g, .rows 5 l⟩ => some ((b0, q0, bad.val, onOf g, b, q, l, i, n, c), [a, a2])
        | _ => none
      | _ => none
    | _ => none
  ok := fun (b0, q0, bad, o, b, q, l, i, n, c) h => getR_ok b0 q0 bad o b q l i n c h.1 h.2.1 h.2.2.1 h.2.2.2.1 h.2.2.2.2
theorem jr {l : List (Rw Int)} {i n v : Nat} (h1 : i + n ≤ l.length) (hr : ∀ r ∈ (l.drop i).take n, Rok r ∧ Bys r.l) (hv : v < n) {r : Rw Int} (g : l.getD (v + i) Rw.nil = r) : r.l = (rowL l i n).getD v [] ∧ Rok r ∧ Bys r.l := by
  subst g
  refine ⟨(rowL_at h1 hv).symm, hr _ ?_⟩
  rw [← rows_at hv, List.getD_eq_getElem?_getD, List.getElem?_eq_getElem (by rw [rows_len h1]; exact hv)]
  exact List.getElem_mem _
/-- Pieces whose sizes may be. -/
def Jg (L : List (List Int)) : Prop := 0 < L.length ∧ 16 ≤ (L.getD 0 []).length ∧ (L.getD 0 []).length ≤ 1024 ∧ ∀ j, j < L.length → (L.getD j []).length = (L.getD 0 []).length
theorem jg_iff {L : List (List Int)} : Jg L ↔ ¬ jbad L := by
  unfold Jg jbad
  constructor
  · rintro ⟨h1, h2, h3, h4⟩ (h | h | h | ⟨j, hj, h⟩)
    · omega
    · omega
    · omega
    · exact h (h4 j hj)
  · intro h
    refine ⟨Nat.pos_of_ne_zero fun e => h (.inl e), Nat.le_of_not_lt fun e => h (.inr (.inl e)), Nat.le_of_not_lt fun e => h (.inr (.inr (.inl e))), fun j hj => ?_⟩
    rcases Nat.decEq (L.getD j []).length (L.getD 0 []).length with e | e
    · exact absurd (.inr (.inr (.inr ⟨j, hj, e⟩))) h
    · exact e
theorem jg_of {l : List (Rw Int)} {i n v : Nat} (h1 : i + n ≤ l.length) (hr : ∀ r ∈ (l.drop i).take n, Rok r ∧ Bys r.l) (n0 : 0 < n) {r0 r1 : Rw Int} (g0 : l.getD (0 + i) Rw.nil = r0) (d1 : decide ((r0.l.length : Int) < 16) = false)
    (g1 : l.getD (0 + i) Rw.nil = r1) (d2 : decide ((1024 : Int) < (r1.l.length : Int)) = false) (hv : (Jo4 (rowL l i n)).inv v) (d3 : decide ((v : Int) < (n : Int)) = false) : Jg (rowL l i n) := by
  have d1 := of_decide_eq_false d1
  have d2 := of_decide_eq_false d2
  have d3 := of_decide_eq_false d3
  obtain ⟨e1, e2⟩ : v ≤ (rowL l i n).length ∧ ∀ j, j < v → ((rowL l i n).getD j []).length = ((rowL l i n).getD 0 []).length := hv
  rw [rowL_len h1] at e1
  refine ⟨by rw [rowL_len h1]; exact n0, ?_, ?_, fun j hj => e2 j (by rw [rowL_len h1] at hj; omega)⟩
  · rw [← (jr (v := 0) h1 hr n0 g0).1]; omega
  · rw [← (jr (v := 0) h1 hr n0 g1).1]; omega
theorem getpre {r : Rw Int} (hr : Rok r) (hb : Bys r.l) (h : 16 ≤ r.l.length) {k : Nat} (hk : k ≤ r.l.length) :
    r.l.length - k ≤ r.m - k ∧ k + (r.l.length - k) ≤ r.l.length ∧ r.l.length - k < 140737488355000 ∧ (r.on = false → r.l.length - k = 0 ∧ r.m - k = 0) ∧ Bys ((r.l.drop k).take (r.l.length - k)) :=
  ⟨Nat.sub_le_sub_right hr.2.1 k, by omega, by have := hr.2.2; omega, fun h => by have := (hr.1 h).1; omega, (hb.drop k).take _⟩
theorem gs_at {l : List Int} {i n c : Nat} (h : 4 ≤ n) (h2 : n < c ∨ 4 < n ∧ n ≤ c) : (gs (i, n, c, false), gv l (i, n, c, false)) = ((4 + i, n - 4, c - 4, false), nm l i) := by
  have e : ¬ n < 4 := by omega
  simp only [gs, gv, e, if_false]
  unfold srow
  rw [if_neg (by omega)]
theorem gs1 {r : Rw Int} (hr : Rok r) (h : 16 ≤ r.l.length) : (gs (0, r.l.length, r.m, false), gv r.l (0, r.l.length, r.m, false)) = ((4, r.l.length - 4, r.m - 4, false), nm r.l 0) := gs_at (by omega) (.inr ⟨by omega, hr.2.1⟩)
theorem gs2 {r : Rw Int} (hr : Rok r) (h : 16 ≤ r.l.length) : (gs (4, r.l.length - 4, r.m - 4, false), gv r.l (4, r.l.length - 4, r.m - 4, false)) = ((8, r.l.length - 8, r.m - 8, false), nm r.l 4) := by
  have := hr.2.1
  rw [gs_at (by omega) (.inr ⟨by omega, by omega⟩)]
  simp only [Nat.sub_sub]
theorem gs3 {r : Rw Int} (hr : Rok r) (h : 16 ≤ r.l.length) : (gs (8, r.l.length - 8, r.m - 8, false), gv r.l (8, r.l.length - 8, r.m - 8, false)) = ((12, r.l.length - 12, r.m - 12, false), nm r.l 8) := by
  have := hr.2.1
  rw [gs_at (by omega) (.inr ⟨by omega, by omega⟩)]
  simp only [Nat.sub_sub]
theorem grw_app {L l sp M : List Int} {o : Bool} {i c c' : Nat} (hM : 0 < M.length) (h : Grw L l o i c) (h1 : i + M.length ≤ c') (h2 : c' ≤ i + M.length + sp.length) : Grw (L ++ M) (l.take i ++ M ++ sp) (Nat.blt 0 M.length || o) (i + M.length) c' := by
  obtain ⟨e1, e2, e3, e4, e5⟩ := h
  have hl : (l.take i).length = i := by rw [List.length_take]; omega
  refine ⟨by rw [List.length_append, ← e1], ?_, h1, by rw [List.length_append, List.length_append, hl]; exact h2, fun h => ?_⟩
  · rw [List.take_append_of_le_length (by rw [List.length_append, hl]; exact Nat.le_refl _), List.take_of_length_le (by rw [List.length_append, hl]; exact Nat.le_refl _), e2]
  · rw [show Nat.blt 0 M.length = true by rw [Nat.blt_eq]; exact hM] at h; cases h
theorem jok_d {L : List (List Int)} {n : Nat} (U : 0 ≤ nm (L.getD 0 []) 8) (hn : L.length = n) (hg : Jg L) (he : ∀ j, j < n → nm (L.getD j []) 0 = nm (L.getD 0 []) 0 ∧ nm (L.getD j []) 4 = (j : Nat) ∧ nm (L.getD j []) 8 = nm (L.getD 0 []) 8) :
    ((!cn (nm (L.getD 0 []) 0) || decide ((64 : Int) < (n : Int)) || decide (((n * ((L.getD 0 []).length - 12) : Nat) : Int) < nm (L.getD 0 []) 8) || decide ((n : Int) ≠ max 1 ((nm (L.getD 0 []) 8 + (((L.getD 0 []).length : Int) - 12) - 1).tdiv (((L.getD 0 []).length : Int) - 12)))) = false → JOk L (nm (L.getD 0 []) 0) (nm (L.getD 0 []) 8)) ∧
    ((!cn (nm (L.getD 0 []) 0) || decide ((64 : Int) < (n : Int)) || decide (((n * ((L.getD 0 []).length - 12) : Nat) : Int) < nm (L.getD 0 []) 8) || decide ((n : Int) ≠ max 1 ((nm (L.getD 0 []) 8 + (((L.getD 0 []).length : Int) - 12) - 1).tdiv (((L.getD 0 []).length : Int) - 12)))) = true → ∀ x s, ¬ JOk L x s) := by
  subst hn
  have h16 := hg.2.1
  have ep : (((L.getD 0 []).length : Int) - 12) = (((L.getD 0 []).length - 12 : Nat) : Int) := by omega
  rw [ep, Int.tdiv_eq_ediv_of_nonneg (by omega)]
  constructor
  · intro h
    simp only [Bool.or_eq_false_iff, decide_eq_false_iff_not, Bool.not_eq_false', Int.not_lt, Decidable.not_not] at h
    exact ⟨jg_iff.1 hg, he, h.1.1.1, by omega, h.1.2, h.2⟩
  · intro h x s hJ
    obtain ⟨_, k1, k2, k3, k4, k5⟩ := hJ
    obtain ⟨rfl, _, rfl⟩ := k1 0 hg.1
    simp only [Bool.or_eq_true, decide_eq_true_eq, Bool.not_eq_true'] at h
    rcases h with ((h | h) | h) | h
    · rw [k2] at h; cases h
    · omega
    · omega
    · exact h k5
set_option maxHeartbeats 8000000 in
theorem join_ok (o : Bool) (b q : Nat) (l : List (Rw Int)) (i n c : Nat) (h1 : i + n ≤ l.length) (ho : o = false → n = 0 ∧ c = 0) (hr : ∀ r ∈ (l.drop i).take n, Rok r ∧ Bys r.l) (hn : n ≤ 1000000) :
    Does (C := C0) Tryd.prog (.fn 24) [⟨b, q, 1, false, some o, .rows 26 l⟩] [.sl 0 i n c]
    [⟨Unit, fun _ => jbad (rowL l i n), fun _ => .tup [.int .i64 0, .nils, eV 2], fun _ => [⟨b, q, 1, false, some o, .rows 26 l⟩]⟩,
     ⟨Unit, fun _ => ¬ jbad (rowL l i n) ∧ ∀ x s, ¬ JOk (rowL l i n) x s, fun _ => .tup [.int .i64 0, .nils, eV 0], fun _ => [⟨b, q, 1, false, some o, .rows 26 l⟩]⟩,
     ⟨(Int × Nat) × Nat × Nat × List Int, fun y => JOk (rowL l i n) y.1.1 y.1.2 ∧ y.1.2 ≤ y.2.2.2.length ∧ y.2.2.2.take y.1.2 = (jout (rowL l i n)).take y.1.2, fun y => .tup [.int .i64 y.1.1, .sl 1 0 y.1.2 y.1.2, .nili],
      fun y => [⟨b, q, 1, false, some o, .rows 26 l⟩, ⟨y.2.1, y.2.2.1, 1, true, none, .rows 5 y.2.2.2⟩]⟩] := by
  refine loc_fn (P := Tryd.prog) (E := ⟨[fcGetR], [pcNumb], 132, [(2, [], [.p 0, .p 1, .p 2, .p 3]), (7, [], [.p 0, .p 1, .p 2, .p 3]), (18, [], [.p 0, .p 1, .p 2, .p 3]), (22, [], [.p 0, .p 1, .p 2, .p 3]), (23, [], [.p 0, .p 1, .p 2, .p 3, .p 4, .p 5, .p 6, .p 7])], [fB], []⟩) (L := [Jo4 (rowL l i n), Jo14 (rowL l i n)]) mix Tryd.func24 rfl (by kernel_rfl) (by kernel_rfl) rfl rfl ?_
  ((conv => (arg 1; reduce)); with_reducible repeat' (first | exact Tr.yes_h | refine Tr.and_h ?_ ?_ | refine Tr.imp_h fun _ => ?_ | refine Tr.all_h fun _ => ?_ | refine Tr.lf_h ?_))
  all_goals try (first | first | (show Region.lexB _ _ = true; kernel_rfl) | (show planned _ _ = true; kernel_rfl) | exact rfl | exact True.intro | ((try dsimp only [imp, C0, cG, cInt, cPl, cSlot, cPg, rwCodec, cRaw] at *); (try refine inR64 ?_ ?_) <;> (try simp only [List.length_set, List.length_append, List.length_take, List.length_drop]) <;> omega))
  all_goals try (first | (first | first | (show Region.lexB _ _ = true; kernel_rfl) | (show planned _ _ = true; kernel_rfl) | exact rfl | exact True.intro | ((try dsimp only [imp, C0, cG, cInt, cPl, cSlot, cPg, rwCodec, cRaw] at *); (try refine inR64 ?_ ?_) <;> (try simp only [List.length_set, List.length_append, List.length_take, List.length_drop]) <;> omega)) | ((try dsimp only [imp, C0, cG, cInt, cPl, cSlot, cPg, rwCodec, cRaw, Jo4, Jo14] at *); (try simp only [decide_eq_true_eq, decide_eq_false_iff_not, Bool.and_eq_true, Bool.or_eq_true, Bool.or_eq_false_iff, Bool.and_eq_false_iff, Bool.not_eq_true', Bool.not_eq_false', SB.val, List.length_append, List.length_cons, List.length_nil, List.length_take, List.length_drop] at *); (first | omega | exact inR64 (by omega) (by omega) | (refine inR64 ?_ ?_ <;> omega))) | (refine on_of ho ?_; ((try dsimp only [imp, C0, cG, cInt, cPl, cSlot, cPg, rwCodec, cRaw, Jo4, Jo14] at *); (try simp only [decide_eq_true_eq, decide_eq_false_iff_not, Bool.and_eq_true, Bool.or_eq_true, Bool.or_eq_false_iff, Bool.and_eq_false_iff, Bool.not_eq_true', Bool.not_eq_false', SB.val, List.length_append, List.length_cons, List.length_nil, List.length_take, List.length_drop] at *); (first | omega | exact inR64 (by omega) (by omega) | (refine inR64 ?_ ?_ <;> omega)))))
  · rename_i d0
    try dsimp only [fB, C0, cG, cInt, cPl, cSlot, cPg, rwCodec, Jo4, Jo14] at d0
    refine Ends.one () (.inl (by rw [rowL_len h1]; have := of_decide_eq_true d0; omega)) ?_
    ((conv => (arg 1; reduce)); with_reducible repeat' (first | exact Tr.yes_h | refine Tr.and_h ?_ ?_ | refine Tr.imp_h fun _ => ?_ | refine Tr.all_h fun _ => ?_ | refine Tr.lf_h ?_))
    all_goals (first | first | (show Region.lexB _ _ = true; kernel_rfl) | (show planned _ _ = true; kernel_rfl) | exact rfl | exact True.intro | ((try dsimp only [imp, C0, cG, cInt, cPl, cSlot, cPg, rwCodec, cRaw] at *); (try refine inR64 ?_ ?_) <;> (try simp only [List.length_set, List.length_append, List.length_take, List.length_drop]) <;> omega))
  · rename_i d0
    try dsimp only [fB, C0, cG, cInt, cPl, cSlot, cPg, rwCodec, Jo4, Jo14] at d0
    have n0 : 0 < n := by have := of_decide_eq_false d0; omega
    show (0 : Int).toNat + i < l.length
    omega
  · rename_i d0 r0 g0 d1
    try dsimp only [fB, C0, cG, cInt, cPl, cSlot, cPg, rwCodec, Jo4, Jo14] at d0 r0 g0 d1
    have n0 : 0 < n := by have := of_decide_eq_false d0; omega
    obtain ⟨a1, a2, a3⟩ := jr (v := 0) h1 hr n0 g0
    refine Ends.one () (.inr (.inl (by rw [← a1]; have := of_decide_eq_true d1; omega))) ?_
    ((conv => (arg 1; reduce)); with_reducible repeat' (first | exact Tr.yes_h | refine Tr.and_h ?_ ?_ | refine Tr.imp_h fun _ => ?_ | refine Tr.all_h fun _ => ?_ | refine Tr.lf_h ?_))
    all_goals (first | first | (show Region.lexB _ _ = true; kernel_rfl) | (show planned _ _ = true; kernel_rfl) | exact rfl | exact True.intro | ((try dsimp only [imp, C0, cG, cInt, cPl, cSlot, cPg, rwCodec, cRaw] at *); (try refine inR64 ?_ ?_) <;> (try simp only [List.length_set, List.length_append, List.length_take, List.length_drop]) <;> omega))
  · rename_i d0 r0 g0 d1
    try dsimp only [fB, C0, cG, cInt, cPl, cSlot, cPg, rwCodec, Jo4, Jo14] at d0 r0 g0 d1
    have n0 : 0 < n := by have := of_decide_eq_false d0; omega
    show (0 : Int).toNat + i < l.length
    omega
  · rename_i d0 r0 g0 d1 r1 g1 d2
    try dsimp only [fB, C0, cG, cInt, cPl, cSlot, cPg, rwCodec, Jo4, Jo14] at d0 r0 g0 d1 r1 g1 d2
    have n0 : 0 < n := by have := of_decide_eq_false d0; omega
    obtain ⟨a1, a2, a3⟩ := jr (v := 0) h1 hr n0 g0
    obtain ⟨b1, b2, b3⟩ := jr (v := 0) h1 hr n0 g1
    refine Ends.one () (.inr (.inr (.inl (by rw [← b1]; have := of_decide_eq_true d2; omega)))) ?_
    ((conv => (arg 1; reduce)); with_reducible repeat' (first | exact Tr.yes_h | refine Tr.and_h ?_ ?_ | refine Tr.imp_h fun _ => ?_ | refine Tr.all_h fun _ => ?_ | refine Tr.lf_h ?_))
    all_goals (first | first | (show Region.lexB _ _ = true; kernel_rfl) | (show planned _ _ = true; kernel_rfl) | exact rfl | exact True.intro | ((try dsimp only [imp, C0, cG, cInt, cPl, cSlot, cPg, rwCodec, cRaw] at *); (try refine inR64 ?_ ?_) <;> (try simp only [List.length_set, List.length_append, List.length_take, List.length_drop]) <;> omega))
  · rename_i d0 r0 g0 d1 r1 g1 d2
    try dsimp only [fB, C0, cG, cInt, cPl, cSlot, cPg, rwCodec, Jo4, Jo14] at d0 r0 g0 d1 r1 g1 d2
    refine Stands.one (0 : Nat) ⟨⟨Nat.zero_le _, fun j hj => absurd hj (Nat.not_lt_zero j)⟩, ?_⟩
    ((conv => (arg 1; reduce)); with_reducible repeat' (first | exact Tr.yes_h | refine Tr.and_h ?_ ?_ | refine Tr.imp_h fun _ => ?_ | refine Tr.all_h fun _ => ?_ | refine Tr.lf_h ?_))
    all_goals (first | first | (show Region.lexB _ _ = true; kernel_rfl) | (show planned _ _ = true; kernel_rfl) | exact rfl | exact True.intro | ((try dsimp only [imp, C0, cG, cInt, cPl, cSlot, cPg, rwCodec, cRaw] at *); (try refine inR64 ?_ ?_) <;> (try simp only [List.length_set, List.length_append, List.length_take, List.length_drop]) <;> omega))
  · rename_i d0 r0 g0 d1 r1 g1 d2 v hv d3
    try dsimp only [fB, C0, cG, cInt, cPl, cSlot, cPg, rwCodec, Jo4, Jo14] at d0 r0 g0 d1 r1 g1 d2 v hv d3
    have d3 : v < n := Int.ofNat_lt.1 (of_decide_eq_true d3)
    show (v : Int).toNat + i < l.length
    omega
  · rename_i d0 r0 g0 d1 r1 g1 d2 v hv d3 r2 g2
    try dsimp only [fB, C0, cG, cInt, cPl, cSlot, cPg, rwCodec, Jo4, Jo14] at d0 r0 g0 d1 r1 g1 d2 v hv d3 r2 g2
    have n0 : 0 < n := by have := of_decide_eq_false d0; omega
    show (0 : Int).toNat + i < l.length
    omega
  · rename_i d0 r0 g0 d1 r1 g1 d2 v hv d3 r2 g2 r3 g3 d4
    try dsimp only [fB, C0, cG, cInt, cPl, cSlot, cPg, rwCodec, Jo4, Jo14] at d0 r0 g0 d1 r1 g1 d2 v hv d3 r2 g2 r3 g3 d4
    have n0 : 0 < n := by have := of_decide_eq_false d0; omega
    have d3 : v < n := Int.ofNat_lt.1 (of_decide_eq_true d3)
    obtain ⟨a1, a2, a3⟩ := jr h1 hr d3 g2
    obtain ⟨b1, b2, b3⟩ := jr (v := 0) h1 hr n0 g3
    have d4 := of_decide_eq_true d4
    refine Ends.one () (.inr (.inr (.inr ⟨v, by rw [rowL_len h1]; exact d3, by rw [← a1, ← b1]; omega⟩))) ?_
    ((conv => (arg 1; reduce)); with_reducible repeat' (first | exact Tr.yes_h | refine Tr.and_h ?_ ?_ | refine Tr.imp_h fun _ => ?_ | refine Tr.all_h fun _ => ?_ | refine Tr.lf_h ?_))
    all_goals (first | first | (show Region.lexB _ _ = true; kernel_rfl) | (show planned _ _ = true; kernel_rfl) | exact rfl | exact True.intro | ((try dsimp only [imp, C0, cG, cInt, cPl, cSlot, cPg, rwCodec, cRaw] at *); (try refine inR64 ?_ ?_) <;> (try simp only [List.length_set, List.length_append, List.length_take, List.length_drop]) <;> omega))
  · rename_i d0 r0 g0 d1 r1 g1 d2 v hv d3 r2 g2 r3 g3 d4
    try dsimp only [fB, C0, cG, cInt, cPl, cSlot, cPg, rwCodec, Jo4, Jo14] at d0 r0 g0 d1 r1 g1 d2 v hv d3 r2 g2 r3 g3 d4
    have n0 : 0 < n := by have := of_decide_eq_false d0; omega
    have d3 : v < n := Int.ofNat_lt.1 (of_decide_eq_true d3)
    obtain ⟨a1, a2, a3⟩ := jr h1 hr d3 g2
    obtain ⟨b1, b2, b3⟩ := jr (v := 0) h1 hr n0 g3
    have d4 := of_decide_eq_false d4
    have hv2 : ∀ j, j < v → ((rowL l i n).getD j []).length = ((rowL l i n).getD 0 []).length := hv.2
    refine Stands.one (v + 1) ⟨⟨by rw [rowL_len h1]; exact d3, fun j hj => ?_⟩, ?_, ?_⟩
    · rcases Nat.lt_or_ge j v with hj2 | hj2
      · exact hv2 j hj2
      · obtain rfl : j = v := by omega
        rw [← a1, ← b1]; omega
    · show (rowL l i n).length - (v + 1) < (rowL l i n).length - v
      rw [rowL_len h1]; omega
    ((conv => (arg 1; reduce)); with_reducible repeat' (first | exact Tr.yes_h | refine Tr.and_h ?_ ?_ | refine Tr.imp_h fun _ => ?_ | refine Tr.all_h fun _ => ?_ | refine Tr.lf_h ?_))
    all_goals (first | first | (show Region.lexB _ _ = true; kernel_rfl) | (show planned _ _ = true; kernel_rfl) | exact rfl | exact True.intro | ((try dsimp only [imp, C0, cG, cInt, cPl, cSlot, cPg, rwCodec, cRaw] at *); (try refine inR64 ?_ ?_) <;> (try simp only [List.length_set, List.length_append, List.length_take, List.length_drop]) <;> omega))
  · rename_i d0 r0 g0 d1 r1 g1 d2 v hv d3
    try dsimp only [fB, C0, cG, cInt, cPl, cSlot, cPg, rwCodec, Jo4, Jo14] at d0 r0 g0 d1 r1 g1 d2 v hv d3
    have n0 : 0 < n := by have := of_decide_eq_false d0; omega
    show (0 : Int).toNat + i < l.length
    omega
  · rename_i d0 r0 g0 d1 r1 g1 d2 v hv d3 r2 g2
    try dsimp only [fB, C0, cG, cInt, cPl, cSlot, cPg, rwCodec, Jo4, Jo14] at d0 r0 g0 d1 r1 g1 d2 v hv d3 r2 g2
    have n0 : 0 < n := by have := of_decide_eq_false d0; omega
    have JG := jg_of h1 hr n0 g0 d1 g1 d2 hv d3
    obtain ⟨a1, a2, a3⟩ := jr (v := 0) h1 hr n0 g2
    have := a2.2.2
    show inR .i64 ((r2.l.length : Int) - 12)
    exact inR64 (by omega) (by omega)
  · rename_i d0 r0 g0 d1 r1 g1 d2 v hv d3 r2 g2
    try dsimp only [fB, C0, cG, cInt, cPl, cSlot, cPg, rwCodec, Jo4, Jo14] at d0 r0 g0 d1 r1 g1 d2 v hv d3 r2 g2
    have n0 : 0 < n := by have := of_decide_eq_false d0; omega
    show (0 : Int).toNat + i < l.length
    omega
  · rename_i d0 r0 g0 d1 r1 g1 d2 v hv d3 r2 g2 r3 g3 bx
    try dsimp only [fB, C0, cG, cInt, cPl, cSlot, cPg, rwCodec, Jo4, Jo14] at d0 r0 g0 d1 r1 g1 d2 v hv d3 r2 g2 r3 g3 bx
    have n0 : 0 < n := by have := of_decide_eq_false d0; omega
    have JG := jg_of h1 hr n0 g0 d1 g1 d2 hv d3
    obtain ⟨a1, a2, a3⟩ := jr (v := 0) h1 hr n0 g3
    have e16 : 16 ≤ r3.l.length := by rw [a1]; exact JG.2.1
    exact getpre a2 a3 e16 (Nat.zero_le _)
  · rename_i d0 r0 g0 d1 r1 g1 d2 v hv d3 r2 g2 r3 g3 bx y1 y1h
    try dsimp only [fB, C0, cG, cInt, cPl, cSlot, cPg, rwCodec, Jo4, Jo14] at d0 r0 g0 d1 r1 g1 d2 v hv d3 r2 g2 r3 g3 bx y1 y1h
    have n0 : 0 < n := by have := of_decide_eq_false d0; omega
    have JG := jg_of h1 hr n0 g0 d1 g1 d2 hv d3
    obtain ⟨a1, a2, a3⟩ := jr (v := 0) h1 hr n0 g3
    have e16 : 16 ≤ r3.l.length := by rw [a1]; exact JG.2.1
    obtain rfl := y1h.trans (gs1 a2 e16)
    exact getpre (k := 4) a2 a3 e16 (by omega)
  · rename_i d0 r0 g0 d1 r1 g1 d2 v hv d3 r2 g2 r3 g3 bx y1 y1h y2 y2h
    try dsimp only [fB, C0, cG, cInt, cPl, cSlot, cPg, rwCodec, Jo4, Jo14] at d0 r0 g0 d1 r1 g1 d2 v hv d3 r2 g2 r3 g3 bx y1 y1h y2 y2h
    have n0 : 0 < n := by have := of_decide_eq_false d0; omega
    have JG := jg_of h1 hr n0 g0 d1 g1 d2 hv d3
    obtain ⟨a1, a2, a3⟩ := jr (v := 0) h1 hr n0 g3
    have e16 : 16 ≤ r3.l.length := by rw [a1]; exact JG.2.1
    obtain rfl := y1h.trans (gs1 a2 e16)
    obtain rfl := y2h.trans (gs2 a2 e16)
    exact getpre (k := 8) a2 a3 e16 (by omega)
  · rename_i d0 r0 g0 d1 r1 g1 d2 v hv d3 r2 g2 r3 g3 bx y1 y1h y2 y2h y3 y3h
    try dsimp only [fB, C0, cG, cInt, cPl, cSlot, cPg, rwCodec, Jo4, Jo14] at d0 r0 g0 d1 r1 g1 d2 v hv d3 r2 g2 r3 g3 bx y1 y1h y2 y2h y3 y3h
    refine Stands.one (0, false, 0, 0, [], 0) ⟨⟨Nat.zero_le _, ⟨Nat.zero_mul _, by rw [Nat.zero_mul]; rfl, Nat.le_of_eq (Nat.zero_mul _), Nat.le_refl _, fun _ => ⟨Nat.zero_mul _, rfl⟩⟩, fun j hj => absurd hj (Nat.not_lt_zero j)⟩, ?_⟩
    ((conv => (arg 1; reduce)); with_reducible repeat' (first | exact Tr.yes_h | refine Tr.and_h ?_ ?_ | refine Tr.imp_h fun _ => ?_ | refine Tr.all_h fun _ => ?_ | refine Tr.lf_h ?_))
    all_goals try (first | first | (show Region.lexB _ _ = true; kernel_rfl) | (show planned _ _ = true; kernel_rfl) | exact rfl | exact True.intro | ((try dsimp only [imp, C0, cG, cInt, cPl, cSlot, cPg, rwCodec, cRaw] at *); (try refine inR64 ?_ ?_) <;> (try simp only [List.length_set, List.length_append, List.length_take, List.length_drop]) <;> omega))
    all_goals exact (Nat.zero_mul _).symm
  · rename_i d0 r0 g0 d1 r1 g1 d2 v hv d3 r2 g2 r3 g3 bx y1 y1h y2 y2h y3 y3h w hw d5
    try dsimp only [fB, C0, cG, cInt, cPl, cSlot, cPg, rwCodec, Jo4, Jo14] at d0 r0 g0 d1 r1 g1 d2 v hv d3 r2 g2 r3 g3 bx y1 y1h y2 y2h y3 y3h w hw d5
    obtain ⟨k, on, vb, vq, vl, vc⟩ := w
    have d5 : k < n := Int.ofNat_lt.1 (of_decide_eq_true d5)
    show (k : Int).toNat + i < l.length
    omega
  · rename_i d0 r0 g0 d1 r1 g1 d2 v hv d3 r2 g2 r3 g3 bx y1 y1h y2 y2h y3 y3h w hw d5 x gx bz
    try dsimp only [fB, C0, cG, cInt, cPl, cSlot, cPg, rwCodec, Jo4, Jo14] at d0 r0 g0 d1 r1 g1 d2 v hv d3 r2 g2 r3 g3 bx y1 y1h y2 y2h y3 y3h w hw d5 x gx bz
    have n0 : 0 < n := by have := of_decide_eq_false d0; omega
    have JG := jg_of h1 hr n0 g0 d1 g1 d2 hv d3
    obtain ⟨a1, a2, a3⟩ := jr (v := 0) h1 hr n0 g3
    have e16 : 16 ≤ r3.l.length := by rw [a1]; exact JG.2.1
    obtain rfl := y1h.trans (gs1 a2 e16)
    obtain rfl := y2h.trans (gs2 a2 e16)
    obtain rfl := y3h.trans (gs3 a2 e16)
    obtain ⟨k, on, vb, vq, vl, vc⟩ := w
    have d5 : k < n := Int.ofNat_lt.1 (of_decide_eq_true d5)
    obtain ⟨x1, x2, x3⟩ := jr h1 hr d5 gx
    have x4 : x.l.length = r3.l.length := by rw [x1, a1]; exact JG.2.2.2 k (by rw [rowL_len h1]; exact d5)
    have x5 : 16 ≤ x.l.length := by omega
    exact getpre x2 x3 x5 (Nat.zero_le _)
  · rename_i d0 r0 g0 d1 r1 g1 d2 v hv d3 r2 g2 r3 g3 bx y1 y1h y2 y2h y3 y3h w hw d5 x gx bz z1 z1h d6
    try dsimp only [fB, C0, cG, cInt, cPl, cSlot, cPg, rwCodec, Jo4, Jo14] at d0 r0 g0 d1 r1 g1 d2 v hv d3 r2 g2 r3 g3 bx y1 y1h y2 y2h y3 y3h w hw d5 x gx bz z1 z1h d6
    have n0 : 0 < n := by have := of_decide_eq_false d0; omega
    have JG := jg_of h1 hr n0 g0 d1 g1 d2 hv d3
    obtain ⟨a1, a2, a3⟩ := jr (v := 0) h1 hr n0 g3
    have e16 : 16 ≤ r3.l.length := by rw [a1]; exact JG.2.1
    obtain rfl := y1h.trans (gs1 a2 e16)
    obtain rfl := y2h.trans (gs2 a2 e16)
    obtain rfl := y3h.trans (gs3 a2 e16)
    obtain ⟨k, on, vb, vq, vl, vc⟩ := w
    have d5 : k < n := Int.ofNat_lt.1 (of_decide_eq_true d5)
    obtain ⟨x1, x2, x3⟩ := jr h1 hr d5 gx
    have x4 : x.l.length = r3.l.length := by rw [x1, a1]; exact JG.2.2.2 k (by rw [rowL_len h1]; exact d5)
    have x5 : 16 ≤ x.l.length := by omega
    obtain rfl := z1h.trans (gs1 x2 x5)
    refine Ends.next (Ends.one () ⟨jg_iff.1 JG, fun a s h => ?_⟩ ?_)
    · obtain ⟨u1, u2, u3⟩ := h.2.1 k (by rw [rowL_len h1]; exact d5)
      obtain ⟨v1, v2, v3⟩ := h.2.1 0 (by rw [rowL_len h1]; exact n0)
      rw [← x1] at u1 u2 u3
      rw [← a1] at v1 v2 v3
      have d9 := of_decide_eq_true d6
      dsimp only at d9
      omega
    ((conv => (arg 1; reduce)); with_reducible repeat' (first | exact Tr.yes_h | refine Tr.and_h ?_ ?_ | refine Tr.imp_h fun _ => ?_ | refine Tr.all_h fun _ => ?_ | refine Tr.lf_h ?_))
    all_goals (first | first | (show Region.lexB _ _ = true; kernel_rfl) | (show planned _ _ = true; kernel_rfl) | exact rfl | exact True.intro | ((try dsimp only [imp, C0, cG, cInt, cPl, cSlot, cPg, rwCodec, cRaw] at *); (try refine inR64 ?_ ?_) <;> (try simp only [List.length_set, List.length_append, List.length_take, List.length_drop]) <;> omega))
  · rename_i d0 r0 g0 d1 r1 g1 d2 v hv d3 r2 g2 r3 g3 bx y1 y1h y2 y2h y3 y3h w hw d5 x gx bz z1 z1h d6
    try dsimp only [fB, C0, cG, cInt, cPl, cSlot, cPg, rwCodec, Jo4, Jo14] at d0 r0 g0 d1 r1 g1 d2 v hv d3 r2 g2 r3 g3 bx y1 y1h y2 y2h y3 y3h w hw d5 x gx bz z1 z1h d6
    have n0 : 0 < n := by have := of_decide_eq_false d0; omega
    have JG := jg_of h1 hr n0 g0 d1 g1 d2 hv d3
    obtain ⟨a1, a2, a3⟩ := jr (v := 0) h1 hr n0 g3
    have e16 : 16 ≤ r3.l.length := by rw [a1]; exact JG.2.1
    obtain rfl := y1h.trans (gs1 a2 e16)
    obtain rfl := y2h.trans (gs2 a2 e16)
    obtain rfl := y3h.trans (gs3 a2 e16)
    obtain ⟨k, on, vb, vq, vl, vc⟩ := w
    have d5 : k < n := Int.ofNat_lt.1 (of_decide_eq_true d5)
    obtain ⟨x1, x2, x3⟩ := jr h1 hr d5 gx
    have x4 : x.l.length = r3.l.length := by rw [x1, a1]; exact JG.2.2.2 k (by rw [rowL_len h1]; exact d5)
    have x5 : 16 ≤ x.l.length := by omega
    obtain rfl := z1h.trans (gs1 x2 x5)
    exact getpre (k := 4) x2 x3 x5 (by omega)
  · rename_i d0 r0 g0 d1 r1 g1 d2 v hv d3 r2 g2 r3 g3 bx y1 y1h y2 y2h y3 y3h w hw d5 x gx bz z1 z1h d6 z2 z2h d7
    try dsimp only [fB, C0, cG, cInt, cPl, cSlot, cPg, rwCodec, Jo4, Jo14] at d0 r0 g0 d1 r1 g1 d2 v hv d3 r2 g2 r3 g3 bx y1 y1h y2 y2h y3 y3h w hw d5 x gx bz z1 z1h d6 z2 z2h d7
    have n0 : 0 < n := by have := of_decide_eq_false d0; omega
    have JG := jg_of h1 hr n0 g0 d1 g1 d2 hv d3
    obtain ⟨a1, a2, a3⟩ := jr (v := 0) h1 hr n0 g3
    have e16 : 16 ≤ r3.l.length := by rw [a1]; exact JG.2.1
    obtain rfl := y1h.trans (gs1 a2 e16)
    obtain rfl := y2h.trans (gs2 a2 e16)
    obtain rfl := y3h.trans (gs3 a2 e16)
    obtain ⟨k, on, vb, vq, vl, vc⟩ := w
    have d5 : k < n := Int.ofNat_lt.1 (of_decide_eq_true d5)
    obtain ⟨x1, x2, x3⟩ := jr h1 hr d5 gx
    have x4 : x.l.length = r3.l.length := by rw [x1, a1]; exact JG.2.2.2 k (by rw [rowL_len h1]; exact d5)
    have x5 : 16 ≤ x.l.length := by omega
    obtain rfl := z1h.trans (gs1 x2 x5)
    obtain rfl := z2h.trans (gs2 x2 x5)
    refine Ends.next (Ends.one () ⟨jg_iff.1 JG, fun a s h => ?_⟩ ?_)
    · obtain ⟨u1, u2, u3⟩ := h.2.1 k (by rw [rowL_len h1]; exact d5)
      obtain ⟨v1, v2, v3⟩ := h.2.1 0 (by rw [rowL_len h1]; exact n0)
      rw [← x1] at u1 u2 u3
      rw [← a1] at v1 v2 v3
      have d9 := of_decide_eq_true d7
      dsimp only at d9
      omega
    ((conv => (arg 1; reduce)); with_reducible repeat' (first | exact Tr.yes_h | refine Tr.and_h ?_ ?_ | refine Tr.imp_h fun _ => ?_ | refine Tr.all_h fun _ => ?_ | refine Tr.lf_h ?_))
    all_goals (first | first | (show Region.lexB _ _ = true; kernel_rfl) | (show planned _ _ = true; kernel_rfl) | exact rfl | exact True.intro | ((try dsimp only [imp, C0, cG, cInt, cPl, cSlot, cPg, rwCodec, cRaw] at *); (try refine inR64 ?_ ?_) <;> (try simp only [List.length_set, List.length_append, List.length_take, List.length_drop]) <;> omega))
  · rename_i d0 r0 g0 d1 r1 g1 d2 v hv d3 r2 g2 r3 g3 bx y1 y1h y2 y2h y3 y3h w hw d5 x gx bz z1 z1h d6 z2 z2h d7
    try dsimp only [fB, C0, cG, cInt, cPl, cSlot, cPg, rwCodec, Jo4, Jo14] at d0 r0 g0 d1 r1 g1 d2 v hv d3 r2 g2 r3 g3 bx y1 y1h y2 y2h y3 y3h w hw d5 x gx bz z1 z1h d6 z2 z2h d7
    have n0 : 0 < n := by have := of_decide_eq_false d0; omega
    have JG := jg_of h1 hr n0 g0 d1 g1 d2 hv d3
    obtain ⟨a1, a2, a3⟩ := jr (v := 0) h1 hr n0 g3
    have e16 : 16 ≤ r3.l.length := by rw [a1]; exact JG.2.1
    obtain rfl := y1h.trans (gs1 a2 e16)
    obtain rfl := y2h.trans (gs2 a2 e16)
    obtain rfl := y3h.trans (gs3 a2 e16)
    obtain ⟨k, on, vb, vq, vl, vc⟩ := w
    have d5 : k < n := Int.ofNat_lt.1 (of_decide_eq_true d5)
    obtain ⟨x1, x2, x3⟩ := jr h1 hr d5 gx
    have x4 : x.l.length = r3.l.length := by rw [x1, a1]; exact JG.2.2.2 k (by rw [rowL_len h1]; exact d5)
    have x5 : 16 ≤ x.l.length := by omega
    obtain rfl := z1h.trans (gs1 x2 x5)
    obtain rfl := z2h.trans (gs2 x2 x5)
    exact getpre (k := 8) x2 x3 x5 (by omega)
  · rename_i d0 r0 g0 d1 r1 g1 d2 v hv d3 r2 g2 r3 g3 bx y1 y1h y2 y2h y3 y3h w hw d5 x gx bz z1 z1h d6 z2 z2h d7 z3 z3h d8
    try dsimp only [fB, C0, cG, cInt, cPl, cSlot, cPg, rwCodec, Jo4, Jo14] at d0 r0 g0 d1 r1 g1 d2 v hv d3 r2 g2 r3 g3 bx y1 y1h y2 y2h y3 y3h w hw d5 x gx bz z1 z1h d6 z2 z2h d7 z3 z3h d8
    have n0 : 0 < n := by have := of_decide_eq_false d0; omega
    have JG := jg_of h1 hr n0 g0 d1 g1 d2 hv d3
    obtain ⟨a1, a2, a3⟩ := jr (v := 0) h1 hr n0 g3
    have e16 : 16 ≤ r3.l.length := by rw [a1]; exact JG.2.1
    obtain rfl := y1h.trans (gs1 a2 e16)
    obtain rfl := y2h.trans (gs2 a2 e16)
    obtain rfl := y3h.trans (gs3 a2 e16)
    obtain ⟨k, on, vb, vq, vl, vc⟩ := w
    have d5 : k < n := Int.ofNat_lt.1 (of_decide_eq_true d5)
    obtain ⟨x1, x2, x3⟩ := jr h1 hr d5 gx
    have x4 : x.l.length = r3.l.length := by rw [x1, a1]; exact JG.2.2.2 k (by rw [rowL_len h1]; exact d5)
    have x5 : 16 ≤ x.l.length := by omega
    obtain rfl := z1h.trans (gs1 x2 x5)
    obtain rfl := z2h.trans (gs2 x2 x5)
    obtain rfl := z3h.trans (gs3 x2 x5)
    refine Ends.next (Ends.one () ⟨jg_iff.1 JG, fun a s h => ?_⟩ ?_)
    · obtain ⟨u1, u2, u3⟩ := h.2.1 k (by rw [rowL_len h1]; exact d5)
      obtain ⟨v1, v2, v3⟩ := h.2.1 0 (by rw [rowL_len h1]; exact n0)
      rw [← x1] at u1 u2 u3
      rw [← a1] at v1 v2 v3
      have d9 := of_decide_eq_true d8
      dsimp only at d9
      omega
    ((conv => (arg 1; reduce)); with_reducible repeat' (first | exact Tr.yes_h | refine Tr.and_h ?_ ?_ | refine Tr.imp_h fun _ => ?_ | refine Tr.all_h fun _ => ?_ | refine Tr.lf_h ?_))
    all_goals (first | first | (show Region.lexB _ _ = true; kernel_rfl) | (show planned _ _ = true; kernel_rfl) | exact rfl | exact True.intro | ((try dsimp only [imp, C0, cG, cInt, cPl, cSlot, cPg, rwCodec, cRaw] at *); (try refine inR64 ?_ ?_) <;> (try simp only [List.length_set, List.length_append, List.length_take, List.length_drop]) <;> omega))
  · rename_i d0 r0 g0 d1 r1 g1 d2 v hv d3 r2 g2 r3 g3 bx y1 y1h y2 y2h y3 y3h w hw d5 x gx bz z1 z1h d6 z2 z2h d7 z3 z3h d8
    try dsimp only [fB, C0, cG, cInt, cPl, cSlot, cPg, rwCodec, Jo4, Jo14] at d0 r0 g0 d1 r1 g1 d2 v hv d3 r2 g2 r3 g3 bx y1 y1h y2 y2h y3 y3h w hw d5 x gx bz z1 z1h d6 z2 z2h d7 z3 z3h d8
    have n0 : 0 < n := by have := of_decide_eq_false d0; omega
    have JG := jg_of h1 hr n0 g0 d1 g1 d2 hv d3
    obtain ⟨a1, a2, a3⟩ := jr (v := 0) h1 hr n0 g3
    have e16 : 16 ≤ r3.l.length := by rw [a1]; exact JG.2.1
    obtain rfl := y1h.trans (gs1 a2 e16)
    obtain rfl := y2h.trans (gs2 a2 e16)
    obtain rfl := y3h.trans (gs3 a2 e16)
    obtain ⟨k, on, vb, vq, vl, vc⟩ := w
    have d5 : k < n := Int.ofNat_lt.1 (of_decide_eq_true d5)
    obtain ⟨x1, x2, x3⟩ := jr h1 hr d5 gx
    have x4 : x.l.length = r3.l.length := by rw [x1, a1]; exact JG.2.2.2 k (by rw [rowL_len h1]; exact d5)
    have x5 : 16 ≤ x.l.length := by omega
    obtain rfl := z1h.trans (gs1 x2 x5)
    obtain rfl := z2h.trans (gs2 x2 x5)
    obtain rfl := z3h.trans (gs3 x2 x5)
    have e1 : Grw (jout ((rowL l i n).take k)) vl on (k * (((rowL l i n).getD 0 []).length - 12)) vc := hw.2.1
    have e2 : ∀ j, j < k → nm ((rowL l i n).getD j []) 0 = nm ((rowL l i n).getD 0 []) 0 ∧ nm ((rowL l i n).getD j []) 4 = (j : Nat) ∧ nm ((rowL l i n).getD j []) 8 = nm ((rowL l i n).getD 0 []) 8 := hw.2.2
    have hkp : k * (((rowL l i n).getD 0 []).length - 12) ≤ 1000000 * 1012 := Nat.mul_le_mul (by omega) (by have := JG.2.2.1; omega)
    rw [by5]
    refine ⟨e1.2.2.1, by show 0 + vc ≤ vl.length; have := e1.2.2.2.1; omega, by show 12 + (x.l.length - 12) ≤ x.l.length; omega, ?_⟩
    show (k * (((rowL l i n).getD 0 []).length - 12) + (x.l.length - 12)) * 1 ≤ 140737488355328
    have x6 : x.l.length ≤ 1024 := by have := JG.2.2.1; rw [← a1] at this; omega
    omega
  · rename_i d0 r0 g0 d1 r1 g1 d2 v hv d3 r2 g2 r3 g3 bx y1 y1h y2 y2h y3 y3h w hw d5 x gx bz z1 z1h d6 z2 z2h d7 z3 z3h d8
    try dsimp only [fB, C0, cG, cInt, cPl, cSlot, cPg, rwCodec, Jo4, Jo14] at d0 r0 g0 d1 r1 g1 d2 v hv d3 r2 g2 r3 g3 bx y1 y1h y2 y2h y3 y3h w hw d5 x gx bz z1 z1h d6 z2 z2h d7 z3 z3h d8
    have n0 : 0 < n := by have := of_decide_eq_false d0; omega
    have JG := jg_of h1 hr n0 g0 d1 g1 d2 hv d3
    obtain ⟨a1, a2, a3⟩ := jr (v := 0) h1 hr n0 g3
    have e16 : 16 ≤ r3.l.length := by rw [a1]; exact JG.2.1
    obtain rfl := y1h.trans (gs1 a2 e16)
    obtain rfl := y2h.trans (gs2 a2 e16)
    obtain rfl := y3h.trans (gs3 a2 e16)
    obtain ⟨k, on, vb, vq, vl, vc⟩ := w
    have d5 : k < n := Int.ofNat_lt.1 (of_decide_eq_true d5)
    obtain ⟨x1, x2, x3⟩ := jr h1 hr d5 gx
    have x4 : x.l.length = r3.l.length := by rw [x1, a1]; exact JG.2.2.2 k (by rw [rowL_len h1]; exact d5)
    have x5 : 16 ≤ x.l.length := by omega
    have e1 : Grw (jout ((rowL l i n).take k)) vl on (k * (((rowL l i n).getD 0 []).length - 12)) vc := hw.2.1
    have e2 : ∀ j, j < k → nm ((rowL l i n).getD j []) 0 = nm ((rowL l i n).getD 0 []) 0 ∧ nm ((rowL l i n).getD j []) 4 = (j : Nat) ∧ nm ((rowL l i n).getD j []) 8 = nm ((rowL l i n).getD 0 []) 8 := hw.2.2
    exact e1.2.2.2.2
  · rename_i d0 r0 g0 d1 r1 g1 d2 v hv d3 r2 g2 r3 g3 bx y1 y1h y2 y2h y3 y3h w hw d5 x gx bz z1 z1h d6 z2 z2h d7 z3 z3h d8
    try dsimp only [fB, C0, cG, cInt, cPl, cSlot, cPg, rwCodec, Jo4, Jo14] at d0 r0 g0 d1 r1 g1 d2 v hv d3 r2 g2 r3 g3 bx y1 y1h y2 y2h y3 y3h w hw d5 x gx bz z1 z1h d6 z2 z2h d7 z3 z3h d8
    have n0 : 0 < n := by have := of_decide_eq_false d0; omega
    have JG := jg_of h1 hr n0 g0 d1 g1 d2 hv d3
    obtain ⟨a1, a2, a3⟩ := jr (v := 0) h1 hr n0 g3
    have e16 : 16 ≤ r3.l.length := by rw [a1]; exact JG.2.1
    obtain rfl := y1h.trans (gs1 a2 e16)
    obtain rfl := y2h.trans (gs2 a2 e16)
    obtain rfl := y3h.trans (gs3 a2 e16)
    obtain ⟨k, on, vb, vq, vl, vc⟩ := w
    have d5 : k < n := Int.ofNat_lt.1 (of_decide_eq_true d5)
    obtain ⟨x1, x2, x3⟩ := jr h1 hr d5 gx
    have x4 : x.l.length = r3.l.length := by rw [x1, a1]; exact JG.2.2.2 k (by rw [rowL_len h1]; exact d5)
    have x5 : 16 ≤ x.l.length := by omega
    intro ho
    have := (x2.1 ho).1
    omega
  · rename_i d0 r0 g0 d1 r1 g1 d2 v hv d3 r2 g2 r3 g3 bx y1 y1h y2 y2h y3 y3h w hw d5 x gx bz z1 z1h d6 z2 z2h d7 z3 z3h d8 b9 q9 sp c9 m1 m2
    try dsimp only [fB, C0, cG, cInt, cPl, cSlot, cPg, rwCodec, Jo4, Jo14] at d0 r0 g0 d1 r1 g1 d2 v hv d3 r2 g2 r3 g3 bx y1 y1h y2 y2h y3 y3h w hw d5 x gx bz z1 z1h d6 z2 z2h d7 z3 z3h d8 b9 q9 sp c9 m1 m2
    have n0 : 0 < n := by have := of_decide_eq_false d0; omega
    have JG := jg_of h1 hr n0 g0 d1 g1 d2 hv d3
    obtain ⟨a1, a2, a3⟩ := jr (v := 0) h1 hr n0 g3
    have e16 : 16 ≤ r3.l.length := by rw [a1]; exact JG.2.1
    obtain rfl := y1h.trans (gs1 a2 e16)
    obtain rfl := y2h.trans (gs2 a2 e16)
    obtain rfl := y3h.trans (gs3 a2 e16)
    obtain ⟨k, on, vb, vq, vl, vc⟩ := w
    have d5 : k < n := Int.ofNat_lt.1 (of_decide_eq_true d5)
    obtain ⟨x1, x2, x3⟩ := jr h1 hr d5 gx
    have x4 : x.l.length = r3.l.length := by rw [x1, a1]; exact JG.2.2.2 k (by rw [rowL_len h1]; exact d5)
    have x5 : 16 ≤ x.l.length := by omega
    obtain rfl := z1h.trans (gs1 x2 x5)
    obtain rfl := z2h.trans (gs2 x2 x5)
    obtain rfl := z3h.trans (gs3 x2 x5)
    have e1 : Grw (jout ((rowL l i n).take k)) vl on (k * (((rowL l i n).getD 0 []).length - 12)) vc := hw.2.1
    have e2 : ∀ j, j < k → nm ((rowL l i n).getD j []) 0 = nm ((rowL l i n).getD 0 []) 0 ∧ nm ((rowL l i n).getD j []) 4 = (j : Nat) ∧ nm ((rowL l i n).getD j []) 8 = nm ((rowL l i n).getD 0 []) 8 := hw.2.2
    have d6 := of_decide_eq_false d6
    have d7 := of_decide_eq_false d7
    have d8 := of_decide_eq_false d8
    have hp : x.l.length - 12 = ((rowL l i n).getD 0 []).length - 12 := by rw [← a1]; omega
    have e5 := grw_app (M := x.l.drop 12) (sp := sp) (c' := c9) (by rw [List.length_drop]; omega) e1 (by rw [List.length_drop]; exact m1) (by rw [List.length_drop]; exact m2)
    rw [List.length_drop] at e5
    have e6 : jout ((rowL l i n).take (k + 1)) = jout ((rowL l i n).take k) ++ x.l.drop 12 := by
      unfold jout
      rw [take_snoc (d := []) (by rw [rowL_len h1]; exact d5), List.flatMap_append, ← x1]
      simp
    have e7 : (x.l.drop 12).take (x.l.length - 12) = x.l.drop 12 := List.take_of_length_le (by rw [List.length_drop]; exact Nat.le_refl _)
    refine Stands.one (k + 1, (Nat.blt 0 (x.l.length - 12) || on), b9, q9, vl.take (k * (((rowL l i n).getD 0 []).length - 12)) ++ (x.l.drop 12).take (x.l.length - 12) ++ sp, c9) ⟨⟨by rw [rowL_len h1]; exact d5, ?_, fun j hj => ?_⟩, ?_, ?_⟩
    · show Grw (jout ((rowL l i n).take (k + 1))) _ _ ((k + 1) * (((rowL l i n).getD 0 []).length - 12)) c9
      rw [e6, e7, Nat.add_mul, Nat.one_mul, ← hp]
      rw [← hp] at e5
      exact e5
    · rcases Nat.lt_or_ge j k with hj2 | hj2
      · exact e2 j hj2
      · obtain rfl : j = k := by have hj : j < k + 1 := hj; omega
        rw [← x1, ← a1]
        dsimp only at d6 d7 d8
        exact ⟨by omega, by omega, by omega⟩
    · show (rowL l i n).length - (k + 1) < (rowL l i n).length - k
      rw [rowL_len h1]; omega
    ((conv => (arg 1; reduce)); with_reducible repeat' (first | exact Tr.yes_h | refine Tr.and_h ?_ ?_ | refine Tr.imp_h fun _ => ?_ | refine Tr.all_h fun _ => ?_ | refine Tr.lf_h ?_))
    all_goals try (first | first | (show Region.lexB _ _ = true; kernel_rfl) | (show planned _ _ = true; kernel_rfl) | exact rfl | exact True.intro | ((try dsimp only [imp, C0, cG, cInt, cPl, cSlot, cPg, rwCodec, cRaw] at *); (try refine inR64 ?_ ?_) <;> (try simp only [List.length_set, List.length_append, List.length_take, List.length_drop]) <;> omega))
    show k * (((rowL l i n).getD 0 []).length - 12) + (x.l.length - 12) = (k + 1) * (((rowL l i n).getD 0 []).length - 12)
    rw [Nat.add_mul, Nat.one_mul, hp]
  · rename_i d0 r0 g0 d1 r1 g1 d2 v hv d3 r2 g2 r3 g3 bx y1 y1h y2 y2h y3 y3h w hw d5 bq
    try dsimp only [fB, C0, cG, cInt, cPl, cSlot, cPg, rwCodec, Jo4, Jo14] at d0 r0 g0 d1 r1 g1 d2 v hv d3 r2 g2 r3 g3 bx y1 y1h y2 y2h y3 y3h w hw d5 bq
    exact ⟨Nat.le_refl 1, by decide, fun h => Bool.noConfusion h⟩
  · rename_i d0 r0 g0 d1 r1 g1 d2 v hv d3 r2 g2 r3 g3 bx y1 y1h y2 y2h y3 y3h w hw d5 bq d9
    try dsimp only [fB, C0, cG, cInt, cPl, cSlot, cPg, rwCodec, Jo4, Jo14] at d0 r0 g0 d1 r1 g1 d2 v hv d3 r2 g2 r3 g3 bx y1 y1h y2 y2h y3 y3h w hw d5 bq d9
    have n0 : 0 < n := by have := of_decide_eq_false d0; omega
    have JG := jg_of h1 hr n0 g0 d1 g1 d2 hv d3
    obtain ⟨a1, a2, a3⟩ := jr (v := 0) h1 hr n0 g3
    have e16 : 16 ≤ r3.l.length := by rw [a1]; exact JG.2.1
    obtain rfl := y1h.trans (gs1 a2 e16)
    obtain rfl := y2h.trans (gs2 a2 e16)
    obtain rfl := y3h.trans (gs3 a2 e16)
    have U := (four_nm a3 (j := 8) (by omega)).2
    unfold U32 at U
    have u1 := a2.2.2
    obtain ⟨c1, c2, c3⟩ := jr (v := 0) h1 hr n0 g2
    have c4 : r2.l.length = r3.l.length := by rw [c1, a1]
    show inR .i64 (nm r3.l 8 + ((r2.l.length : Int) - 12))
    exact inR64 (by omega) (by omega)
  · rename_i d0 r0 g0 d1 r1 g1 d2 v hv d3 r2 g2 r3 g3 bx y1 y1h y2 y2h y3 y3h w hw d5 bq d9
    try dsimp only [fB, C0, cG, cInt, cPl, cSlot, cPg, rwCodec, Jo4, Jo14] at d0 r0 g0 d1 r1 g1 d2 v hv d3 r2 g2 r3 g3 bx y1 y1h y2 y2h y3 y3h w hw d5 bq d9
    have n0 : 0 < n := by have := of_decide_eq_false d0; omega
    have JG := jg_of h1 hr n0 g0 d1 g1 d2 hv d3
    obtain ⟨a1, a2, a3⟩ := jr (v := 0) h1 hr n0 g3
    have e16 : 16 ≤ r3.l.length := by rw [a1]; exact JG.2.1
    obtain rfl := y1h.trans (gs1 a2 e16)
    obtain rfl := y2h.trans (gs2 a2 e16)
    obtain rfl := y3h.trans (gs3 a2 e16)
    have U := (four_nm a3 (j := 8) (by omega)).2
    unfold U32 at U
    have u1 := a2.2.2
    obtain ⟨c1, c2, c3⟩ := jr (v := 0) h1 hr n0 g2
    have c4 : r2.l.length = r3.l.length := by rw [c1, a1]
    show inR .i64 (nm r3.l 8 + ((r2.l.length : Int) - 12) - 1)
    exact inR64 (by omega) (by omega)
  · rename_i d0 r0 g0 d1 r1 g1 d2 v hv d3 r2 g2 r3 g3 bx y1 y1h y2 y2h y3 y3h w hw d5 bq d9
    try dsimp only [fB, C0, cG, cInt, cPl, cSlot, cPg, rwCodec, Jo4, Jo14] at d0 r0 g0 d1 r1 g1 d2 v hv d3 r2 g2 r3 g3 bx y1 y1h y2 y2h y3 y3h w hw d5 bq d9
    have n0 : 0 < n := by have := of_decide_eq_false d0; omega
    have JG := jg_of h1 hr n0 g0 d1 g1 d2 hv d3
    obtain ⟨a1, a2, a3⟩ := jr (v := 0) h1 hr n0 g2
    have e16 : 16 ≤ r2.l.length := by rw [a1]; exact JG.2.1
    show ((r2.l.length : Int) - 12) ≠ 0
    omega
  · rename_i d0 r0 g0 d1 r1 g1 d2 v hv d3 r2 g2 r3 g3 bx y1 y1h y2 y2h y3 y3h w hw d5 bq d9
    try dsimp only [fB, C0, cG, cInt, cPl, cSlot, cPg, rwCodec, Jo4, Jo14] at d0 r0 g0 d1 r1 g1 d2 v hv d3 r2 g2 r3 g3 bx y1 y1h y2 y2h y3 y3h w hw d5 bq d9
    have n0 : 0 < n := by have := of_decide_eq_false d0; omega
    have JG := jg_of h1 hr n0 g0 d1 g1 d2 hv d3
    obtain ⟨a1, a2, a3⟩ := jr (v := 0) h1 hr n0 g3
    have e16 : 16 ≤ r3.l.length := by rw [a1]; exact JG.2.1
    obtain rfl := y1h.trans (gs1 a2 e16)
    obtain rfl := y2h.trans (gs2 a2 e16)
    obtain rfl := y3h.trans (gs3 a2 e16)
    have U := (four_nm a3 (j := 8) (by omega)).2
    unfold U32 at U
    have u1 := a2.2.2
    obtain ⟨c1, c2, c3⟩ := jr (v := 0) h1 hr n0 g2
    have c4 : r2.l.length = r3.l.length := by rw [c1, a1]
    show inR .i64 ((nm r3.l 8 + ((r2.l.length : Int) - 12) - 1).tdiv ((r2.l.length : Int) - 12))
    rw [Int.tdiv_eq_ediv_of_nonneg (by omega)]
    have q1 : 0 ≤ (nm r3.l 8 + ((r2.l.length : Int) - 12) - 1) / ((r2.l.length : Int) - 12) := Int.ediv_nonneg (by omega) (by omega)
    have q2 : (nm r3.l 8 + ((r2.l.length : Int) - 12) - 1) / ((r2.l.length : Int) - 12) ≤ nm r3.l 8 + ((r2.l.length : Int) - 12) - 1 := Int.ediv_le_self _ (by omega)
    exact inR64 (by omega) (by omega)
  · rename_i d0 r0 g0 d1 r1 g1 d2 v hv d3 r2 g2 r3 g3 bx y1 y1h y2 y2h y3 y3h w hw d5 bq d9
    try dsimp only [fB, C0, cG, cInt, cPl, cSlot, cPg, rwCodec, Jo4, Jo14] at d0 r0 g0 d1 r1 g1 d2 v hv d3 r2 g2 r3 g3 bx y1 y1h y2 y2h y3 y3h w hw d5 bq d9
    have n0 : 0 < n := by have := of_decide_eq_false d0; omega
    have JG := jg_of h1 hr n0 g0 d1 g1 d2 hv d3
    obtain ⟨a1, a2, a3⟩ := jr (v := 0) h1 hr n0 g3
    have e16 : 16 ≤ r3.l.length := by rw [a1]; exact JG.2.1
    obtain rfl := y1h.trans (gs1 a2 e16)
    obtain rfl := y2h.trans (gs2 a2 e16)
    obtain rfl := y3h.trans (gs3 a2 e16)
    obtain ⟨k, on, vb, vq, vl, vc⟩ := w
    have d5 : ¬ k < n := fun h => of_decide_eq_false d5 (Int.ofNat_lt.2 h)
    obtain rfl : k = n := by have : k ≤ (rowL l i n).length := hw.1; rw [rowL_len h1] at this; omega
    have e1 : Grw (jout ((rowL l i k).take k)) vl on (k * (((rowL l i k).getD 0 []).length - 12)) vc := hw.2.1
    have e2 : ∀ j, j < k → nm ((rowL l i k).getD j []) 0 = nm ((rowL l i k).getD 0 []) 0 ∧ nm ((rowL l i k).getD j []) 4 = (j : Nat) ∧ nm ((rowL l i k).getD j []) 8 = nm ((rowL l i k).getD 0 []) 8 := hw.2.2
    have U := (four_nm a3 (j := 8) (by omega)).2
    unfold U32 at U
    have u1 := a2.2.2
    obtain ⟨c1, c2, c3⟩ := jr (v := 0) h1 hr n0 g2
    have c4 : r2.l.length = r3.l.length := by rw [c1, a1]
    have d9 : (!alln [nm r3.l 0] || decide ((64 : Int) < (k : Int)) || decide (((k * (((rowL l i k).getD 0 []).length - 12) : Nat) : Int) < nm r3.l 8) || decide ((k : Int) ≠ max 1 ((nm r3.l 8 + ((r2.l.length : Int) - 12) - 1).tdiv ((r2.l.length : Int) - 12)))) = true := d9
    rw [c4, alln1, a1] at d9
    have := (jok_d (U := by rw [← a1]; exact U.1) (rowL_len h1) JG e2).2 d9
    refine Ends.next (Ends.one () ⟨jg_iff.1 JG, this⟩ ?_)
    ((conv => (arg 1; reduce)); with_reducible repeat' (first | exact Tr.yes_h | refine Tr.and_h ?_ ?_ | refine Tr.imp_h fun _ => ?_ | refine Tr.all_h fun _ => ?_ | refine Tr.lf_h ?_))
    all_goals (first | first | (show Region.lexB _ _ = true; kernel_rfl) | (show planned _ _ = true; kernel_rfl) | exact rfl | exact True.intro | ((try dsimp only [imp, C0, cG, cInt, cPl, cSlot, cPg, rwCodec, cRaw] at *); (try refine inR64 ?_ ?_) <;> (try simp only [List.length_set, List.length_append, List.length_take, List.length_drop]) <;> omega))
  · rename_i d0 r0 g0 d1 r1 g1 d2 v hv d3 r2 g2 r3 g3 bx y1 y1h y2 y2h y3 y3h w hw d5 bq d9
    try dsimp only [fB, C0, cG, cInt, cPl, cSlot, cPg, rwCodec, Jo4, Jo14] at d0 r0 g0 d1 r1 g1 d2 v hv d3 r2 g2 r3 g3 bx y1 y1h y2 y2h y3 y3h w hw d5 bq d9
    have n0 : 0 < n := by have := of_decide_eq_false d0; omega
    have JG := jg_of h1 hr n0 g0 d1 g1 d2 hv d3
    obtain ⟨a1, a2, a3⟩ := jr (v := 0) h1 hr n0 g3
    have e16 : 16 ≤ r3.l.length := by rw [a1]; exact JG.2.1
    obtain rfl := y1h.trans (gs1 a2 e16)
    obtain rfl := y2h.trans (gs2 a2 e16)
    obtain rfl := y3h.trans (gs3 a2 e16)
    obtain ⟨k, on, vb, vq, vl, vc⟩ := w
    have d5 : ¬ k < n := fun h => of_decide_eq_false d5 (Int.ofNat_lt.2 h)
    obtain rfl : k = n := by have : k ≤ (rowL l i n).length := hw.1; rw [rowL_len h1] at this; omega
    have e1 : Grw (jout ((rowL l i k).take k)) vl on (k * (((rowL l i k).getD 0 []).length - 12)) vc := hw.2.1
    have e2 : ∀ j, j < k → nm ((rowL l i k).getD j []) 0 = nm ((rowL l i k).getD 0 []) 0 ∧ nm ((rowL l i k).getD j []) 4 = (j : Nat) ∧ nm ((rowL l i k).getD j []) 8 = nm ((rowL l i k).getD 0 []) 8 := hw.2.2
    exact e1.2.2.2.2
  · rename_i d0 r0 g0 d1 r1 g1 d2 v hv d3 r2 g2 r3 g3 bx y1 y1h y2 y2h y3 y3h w hw d5 bq d9
    try dsimp only [fB, C0, cG, cInt, cPl, cSlot, cPg, rwCodec, Jo4, Jo14] at d0 r0 g0 d1 r1 g1 d2 v hv d3 r2 g2 r3 g3 bx y1 y1h y2 y2h y3 y3h w hw d5 bq d9
    have n0 : 0 < n := by have := of_decide_eq_false d0; omega
    have JG := jg_of h1 hr n0 g0 d1 g1 d2 hv d3
    obtain ⟨a1, a2, a3⟩ := jr (v := 0) h1 hr n0 g3
    have e16 : 16 ≤ r3.l.length := by rw [a1]; exact JG.2.1
    obtain rfl := y1h.trans (gs1 a2 e16)
    obtain rfl := y2h.trans (gs2 a2 e16)
    obtain rfl := y3h.trans (gs3 a2 e16)
    have U := (four_nm a3 (j := 8) (by omega)).2
    unfold U32 at U
    have u1 := a2.2.2
    exact U.1
  · rename_i d0 r0 g0 d1 r1 g1 d2 v hv d3 r2 g2 r3 g3 bx y1 y1h y2 y2h y3 y3h w hw d5 bq d9
    try dsimp only [fB, C0, cG, cInt, cPl, cSlot, cPg, rwCodec, Jo4, Jo14] at d0 r0 g0 d1 r1 g1 d2 v hv d3 r2 g2 r3 g3 bx y1 y1h y2 y2h y3 y3h w hw d5 bq d9
    have n0 : 0 < n := by have := of_decide_eq_false d0; omega
    have JG := jg_of h1 hr n0 g0 d1 g1 d2 hv d3
    obtain ⟨a1, a2, a3⟩ := jr (v := 0) h1 hr n0 g3
    have e16 : 16 ≤ r3.l.length := by rw [a1]; exact JG.2.1
    obtain rfl := y1h.trans (gs1 a2 e16)
    obtain rfl := y2h.trans (gs2 a2 e16)
    obtain rfl := y3h.trans (gs3 a2 e16)
    obtain ⟨k, on, vb, vq, vl, vc⟩ := w
    have d5 : ¬ k < n := fun h => of_decide_eq_false d5 (Int.ofNat_lt.2 h)
    obtain rfl : k = n := by have : k ≤ (rowL l i n).length := hw.1; rw [rowL_len h1] at this; omega
    have e1 : Grw (jout ((rowL l i k).take k)) vl on (k * (((rowL l i k).getD 0 []).length - 12)) vc := hw.2.1
    have e2 : ∀ j, j < k → nm ((rowL l i k).getD j []) 0 = nm ((rowL l i k).getD 0 []) 0 ∧ nm ((rowL l i k).getD j []) 4 = (j : Nat) ∧ nm ((rowL l i k).getD j []) 8 = nm ((rowL l i k).getD 0 []) 8 := hw.2.2
    have U := (four_nm a3 (j := 8) (by omega)).2
    unfold U32 at U
    have u1 := a2.2.2
    obtain ⟨c1, c2, c3⟩ := jr (v := 0) h1 hr n0 g2
    have c4 : r2.l.length = r3.l.length := by rw [c1, a1]
    have d9 : (!alln [nm r3.l 0] || decide ((64 : Int) < (k : Int)) || decide (((k * (((rowL l i k).getD 0 []).length - 12) : Nat) : Int) < nm r3.l 8) || decide ((k : Int) ≠ max 1 ((nm r3.l 8 + ((r2.l.length : Int) - 12) - 1).tdiv ((r2.l.length : Int) - 12)))) = false := d9
    simp only [Bool.or_eq_false_iff, decide_eq_false_iff_not] at d9
    have := d9.1.2
    have := e1.2.2.1
    show nm r3.l 8 ≤ (vc : Int)
    omega
  · rename_i d0 r0 g0 d1 r1 g1 d2 v hv d3 r2 g2 r3 g3 bx y1 y1h y2 y2h y3 y3h w hw d5 bq d9
    try dsimp only [fB, C0, cG, cInt, cPl, cSlot, cPg, rwCodec, Jo4, Jo14] at d0 r0 g0 d1 r1 g1 d2 v hv d3 r2 g2 r3 g3 bx y1 y1h y2 y2h y3 y3h w hw d5 bq d9
    have n0 : 0 < n := by have := of_decide_eq_false d0; omega
    have JG := jg_of h1 hr n0 g0 d1 g1 d2 hv d3
    obtain ⟨a1, a2, a3⟩ := jr (v := 0) h1 hr n0 g3
    have e16 : 16 ≤ r3.l.length := by rw [a1]; exact JG.2.1
    obtain rfl := y1h.trans (gs1 a2 e16)
    obtain rfl := y2h.trans (gs2 a2 e16)
    obtain rfl := y3h.trans (gs3 a2 e16)
    have U := (four_nm a3 (j := 8) (by omega)).2
    unfold U32 at U
    have u1 := a2.2.2
    exact U.1
  · rename_i d0 r0 g0 d1 r1 g1 d2 v hv d3 r2 g2 r3 g3 bx y1 y1h y2 y2h y3 y3h w hw d5 bq d9
    try dsimp only [fB, C0, cG, cInt, cPl, cSlot, cPg, rwCodec, Jo4, Jo14] at d0 r0 g0 d1 r1 g1 d2 v hv d3 r2 g2 r3 g3 bx y1 y1h y2 y2h y3 y3h w hw d5 bq d9
    have n0 : 0 < n := by have := of_decide_eq_false d0; omega
    have JG := jg_of h1 hr n0 g0 d1 g1 d2 hv d3
    obtain ⟨a1, a2, a3⟩ := jr (v := 0) h1 hr n0 g3
    have e16 : 16 ≤ r3.l.length := by rw [a1]; exact JG.2.1
    obtain rfl := y1h.trans (gs1 a2 e16)
    obtain rfl := y2h.trans (gs2 a2 e16)
    obtain rfl := y3h.trans (gs3 a2 e16)
    obtain ⟨k, on, vb, vq, vl, vc⟩ := w
    have d5 : ¬ k < n := fun h => of_decide_eq_false d5 (Int.ofNat_lt.2 h)
    obtain rfl : k = n := by have : k ≤ (rowL l i n).length := hw.1; rw [rowL_len h1] at this; omega
    have e1 : Grw (jout ((rowL l i k).take k)) vl on (k * (((rowL l i k).getD 0 []).length - 12)) vc := hw.2.1
    have e2 : ∀ j, j < k → nm ((rowL l i k).getD j []) 0 = nm ((rowL l i k).getD 0 []) 0 ∧ nm ((rowL l i k).getD j []) 4 = (j : Nat) ∧ nm ((rowL l i k).getD j []) 8 = nm ((rowL l i k).getD 0 []) 8 := hw.2.2
    have U := (four_nm a3 (j := 8) (by omega)).2
    unfold U32 at U
    have u1 := a2.2.2
    obtain ⟨c1, c2, c3⟩ := jr (v := 0) h1 hr n0 g2
    have c4 : r2.l.length = r3.l.length := by rw [c1, a1]
    have d9 : (!alln [nm r3.l 0] || decide ((64 : Int) < (k : Int)) || decide (((k * (((rowL l i k).getD 0 []).length - 12) : Nat) : Int) < nm r3.l 8) || decide ((k : Int) ≠ max 1 ((nm r3.l 8 + ((r2.l.length : Int) - 12) - 1).tdiv ((r2.l.length : Int) - 12)))) = false := d9
    rw [c4, alln1, a1] at d9
    have J := (jok_d (U := by rw [← a1]; exact U.1) (rowL_len h1) JG e2).1 d9
    rw [← a1] at J
    have hkp : 0 < k * (((rowL l i k).getD 0 []).length - 12) := Nat.mul_pos n0 (by have := JG.2.1; omega)
    obtain rfl : on = true := on_of e1.2.2.2.2 hkp
    have s1 : (nm r3.l 8).toNat ≤ k * (((rowL l i k).getD 0 []).length - 12) := by
      have := J.2.2.2.2.1
      rw [rowL_len h1] at this
      omega
    have s2 := e1.2.2.1
    have s3 := e1.2.2.2.1
    have s4 : jout (rowL l i k) = vl.take (k * (((rowL l i k).getD 0 []).length - 12)) := by
      rw [e1.2.1, List.take_of_length_le (l := rowL l i k) (by rw [rowL_len h1]; exact Nat.le_refl _)]
    have s5 : ((nm r3.l 8).toNat : Int) = nm r3.l 8 := by omega
    refine Ends.next (Ends.next (Ends.one ((nm r3.l 0, (nm r3.l 8).toNat), vb, vq, vl) ⟨by rw [s5]; exact J, by show (nm r3.l 8).toNat ≤ vl.length; omega, ?_⟩ ?_))
    · show vl.take _ = (jout (rowL l i k)).take _
      rw [s4, List.take_take, Nat.min_eq_left s1]
    ((conv => (arg 1; reduce)); with_reducible repeat' (first | exact Tr.yes_h | refine Tr.and_h ?_ ?_ | refine Tr.imp_h fun _ => ?_ | refine Tr.all_h fun _ => ?_ | refine Tr.lf_h ?_))
    all_goals (first | first | (show Region.lexB _ _ = true; kernel_rfl) | (show planned _ _ = true; kernel_rfl) | exact rfl | exact True.intro | ((try dsimp only [imp, C0, cG, cInt, cPl, cSlot, cPg, rwCodec, cRaw] at *); (try refine inR64 ?_ ?_) <;> (try simp only [List.length_set, List.length_append, List.length_take, List.length_drop]) <;> omega))
def fcJoin : Fc Tryd.prog C0 where
  tg := .fn 24
  X := Bool × Nat × Nat × List (Rw Int) × Nat × Nat × Nat
  args := fun (o, b, q, l, i, n, c) => [.sl 0 i n c]
  mem := fun (o, b, q, l, i, n, c) => [⟨b, q, 1, false, some o, .rows 26 l⟩]
  pre := fun (o, b, q, l, i, n, c) => i + n ≤ l.length ∧ (o = false → n = 0 ∧ c = 0) ∧ (∀ r ∈ (l.drop i).take n, Rok r ∧ Bys r.l) ∧ n ≤ 1000000
  alts := fun (o, b, q, l, i, n, c) => [⟨Unit, fun _ => jbad (rowL l i n), fun _ => .tup [.int .i64 0, .nils, eV 2], fun _ => [⟨b, q, 1, false, some o, .rows 26 l⟩]⟩,
     ⟨Unit, fun _ => ¬ jbad (rowL l i n) ∧ ∀ x s, ¬ JOk (rowL l i n) x s, fun _ => .tup [.int .i64 0, .nils, eV 0], fun _ => [⟨b, q, 1, false, some o, .rows 26 l⟩]⟩,
     ⟨(Int × Nat) × Nat × Nat × List Int, fun y => JOk (rowL l i n) y.1.1 y.1.2 ∧ y.1.2 ≤ y.2.2.2.length ∧ y.2.2.2.take y.1.2 = (jout (rowL l i n)).take y.1.2, fun y => .tup [.int .i64 y.1.1, .sl 1 0 y.1.2 y.1.2, .nili],
      fun y => [⟨b, q, 1, false, some o, .rows 26 l⟩, ⟨y.2.1, y.2.2.1, 1, true, none, .rows 5 y.2.2.2⟩]⟩]
  mat vs m := match vs with
    | [.sl a i n c] => match nth m a with
      | ⟨b, q, _, _, g, .rows 26 l⟩ => some ((onOf g, b, q, l, i, n, c), [a])
      | _ => none
    | [.nils] => some ((false, 0, 0, [], 0, 0, 0), [m.length])
    | _ => none
  ok := fun (o, b, q, l, i, n, c) h => join_ok o b q l i n c h.1 h.2.1 h.2.2.1 h.2.2.2
end Go.Vx
set_option linter.unusedSectionVars false
set_option maxRecDepth 100000
set_option linter.unusedVariables false
set_option linter.unusedSimpArgs false
namespace Go.Vx
open Go Go.Proofs
variable [Gl]

def pcs (B : List Int) (s : Nat) (n : Int) (k : Nat) : List (List Int) := (List.range k).map (piece B s n)
theorem pcs_len (B : List Int) (s : Nat) (n : Int) (k : Nat) : (pcs B s n k).length = k := by unfold pcs; simp
theorem pcs_at {B : List Int} {s : Nat} {n : Int} {k j : Nat} (h : j < k) : (pcs B s n k).getD j [] = piece B s n j := by
  unfold pcs
  rw [List.getD_eq_getElem?_getD, List.getElem?_map, List.getElem?_range h]; rfl
theorem piece_nm {B : List Int} {s : Nat} {n : Int} {k : Nat} (hn : U32 n) (hk : k < 4294967296) (hB : B.length < 4294967296) :
    nm (piece B s n k) 0 = n ∧ nm (piece B s n k) 4 = (k : Nat) ∧ nm (piece B s n k) 8 = (B.length : Nat) := by
  have hu : ∀ x ∈ [n, (k : Int), (B.length : Int)], U32 x := by
    intro x hx
    simp only [List.mem_cons, List.not_mem_nil, or_false] at hx
    rcases hx with rfl | rfl | rfl
    · exact hn
    · unfold U32; omega
    · unfold U32; omega
  unfold piece
  exact ⟨nm_fours hu _ (k := 0) (by simp), nm_fours hu _ (k := 1) (by simp), nm_fours hu _ (k := 2) (by simp)⟩
theorem piece_drop (B : List Int) (s : Nat) (n : Int) (k : Nat) : (piece B s n k).drop 12 = (B.drop (k * (s - 12))).take (s - 12) ++ List.replicate (s - 12 - ((B.drop (k * (s - 12))).take (s - 12)).length) 0 := by
  unfold piece
  rw [List.drop_append_of_le_length (by rw [fours_len]; simp), List.drop_of_length_le (by rw [fours_len]; simp)]
  rfl
theorem piece_byt {B : List Int} (h : Bys B) (s : Nat) (n : Int) (k : Nat) : Bys (piece B s n k) := by
  unfold piece
  refine (fours_byt _).app (((h.drop _).take _).app ?_)
  intro x hx
  rw [(List.mem_replicate.1 hx).2]; decide
theorem jout_snoc (B : List Int) (s : Nat) (n : Int) (k : Nat) : jout (pcs B s n (k + 1)) = jout (pcs B s n k) ++ (piece B s n k).drop 12 := by
  unfold jout pcs
  rw [List.range_succ, List.map_append, List.flatMap_append]; simp
theorem jout_full {B : List Int} {s : Nat} {n : Int} : ∀ {k : Nat}, k * (s - 12) ≤ B.length → jout (pcs B s n k) = B.take (k * (s - 12))
  | 0, _ => by simp [jout, pcs]
  | k + 1, h => by
    rw [Nat.add_mul, Nat.one_mul] at h
    rw [jout_snoc, jout_full (by omega), piece_drop, Nat.add_mul, Nat.one_mul, List.length_take, List.length_drop, show s - 12 - min (s - 12) (B.length - k * (s - 12)) = 0 by omega, List.replicate_zero, List.append_nil, List.take_add]
theorem jout_last {B : List Int} {s : Nat} {n : Int} {k : Nat} (h : k * (s - 12) ≤ B.length) (h2 : B.length ≤ k * (s - 12) + (s - 12)) : (jout (pcs B s n (k + 1))).take B.length = B := by
  rw [jout_snoc, jout_full h, piece_drop, ← List.append_assoc, ← List.take_add, List.take_of_length_le (l := B) h2, List.take_append_of_le_length (Nat.le_refl _), List.take_of_length_le (Nat.le_refl _)]
theorem pcs_jok {B : List Int} {s : Nat} {n : Int} (h16 : 16 ≤ s) (h1024 : s ≤ 1024) (hn : cn n = true) (hB : B.length ≤ 64 * (s - 12)) :
    JOk (pcs B s n (pcN B.length s)) n (B.length : Nat) ∧ (jout (pcs B s n (pcN B.length s))).take B.length = B := by
  have hp := pcN_pos B.length s
  have h64 := pcN_le (by omega) hB
  have hlen : ∀ j, j < pcN B.length s → ((pcs B s n (pcN B.length s)).getD j []).length = s := by
    intro j hj
    rw [pcs_at hj, piece_len (by omega)]
  have h0 := hlen 0 hp
  have hU := cn_u32 hn
  obtain ⟨M, hM⟩ : ∃ M, pcN B.length s = M + 1 := ⟨pcN B.length s - 1, by omega⟩
  have hM1 : M * (s - 12) ≤ B.length := by
    rcases (pcN_lt (len := B.length) (s := s) (k := M) (by omega)).1 (by omega) with h | h
    · subst h; simp
    · omega
  have hM2 : B.length ≤ (M + 1) * (s - 12) := by
    have : ¬ (M + 1 = 0 ∨ (M + 1) * (s - 12) < B.length) := fun h => absurd ((pcN_lt (len := B.length) (s := s) (k := M + 1) (by omega)).2 h) (by omega)
    omega
  refine ⟨⟨jg_iff.1 ⟨by rw [pcs_len]; exact hp, by rw [h0]; exact h16, by rw [h0]; exact h1024, fun j hj => by rw [pcs_len] at hj; rw [hlen j hj, h0]⟩, fun j hj => ?_, hn, by rw [pcs_len]; exact h64, ?_, ?_⟩, ?_⟩
  · rw [pcs_len] at hj
    rw [pcs_at hj]
    exact piece_nm hU (by omega) (by omega)
  · rw [pcs_len, h0, hM]; omega
  · rw [pcs_len, h0]
    have : ((B.length : Nat) : Int) + (s - 12 : Nat) - 1 = ((B.length + (s - 12) - 1 : Nat) : Int) := by omega
    rw [this]
    unfold pcN
    omega
  · rw [hM]
    exact jout_last hM1 (by rw [Nat.add_mul, Nat.one_mul] at hM2; exact hM2)
/-- What they are joined to is told by the pieces alone. -/
theorem jok_uniq {L : List (List Int)} {n s n' s' : Int} (h : JOk L n s) (h' : JOk L n' s') : n = n' ∧ s = s' := by
  have h0 := (jg_iff.2 h.1).1
  have a := h.2.1 0 h0
  have b := h'.2.1 0 h0
  exact ⟨a.1.symm.trans b.1, a.2.2.symm.trans b.2.2⟩
theorem prs_rowL {B : List Int} {s : Nat} {n : Int} {vl : List (Rw Int)} {k : Nat} (h : Prs B s n vl k) : rowL vl 0 k = pcs B s n k := by
  unfold rowL pcs
  rw [List.drop_zero]; exact h.1
theorem prs_rows {B : List Int} (hB : Bys B) {s : Nat} {n : Int} {vl : List (Rw Int)} {k : Nat} (h : Prs B s n vl k) : ∀ r ∈ vl.take k, Rok r ∧ Bys r.l := by
  intro r hr
  refine ⟨h.2 r hr, ?_⟩
  have : r.l ∈ (vl.take k).map (·.l) := List.mem_map.2 ⟨r, hr, rfl⟩
  rw [h.1] at this
  obtain ⟨j, _, hj⟩ := List.mem_map.1 this
  rw [← hj]
  exact piece_byt hB _ _ _
theorem jb1 {B : List Int} {s : Nat} {n : Int} {vl : List (Rw Int)} (h16 : 16 ≤ s) (h1024 : s ≤ 1024) (hn : cn n = true) (hB : B.length ≤ 64 * (s - 12)) (h : Prs B s n vl (pcN B.length s)) :
    JOk (rowL vl 0 (pcN B.length s)) n (B.length : Nat) ∧ (jout (rowL vl 0 (pcN B.length s))).take B.length = B := by
  rw [prs_rowL h]
  exact pcs_jok h16 h1024 hn hB
end Go.Vx
set_option linter.unusedSectionVars false
set_option maxRecDepth 100000
set_option linter.unusedVariables false
set_option linter.unusedSimpArgs false
namespace Go.Vx
open Go Go.Proofs
variable [Gl]

/-- A reader behind k numbers of n bytes. -/
@[irreducible] def rdr (i n c k : Nat) : Rs := (i + 4 * min k (n / 4), n - 4 * min k (n / 4), c - 4 * min k (n / 4), decide (n / 4 < k))
theorem rdr_zero (i n c : Nat) : rdr i n c 0 = (i, n, c, false) := by unfold rdr; simp
theorem rdr_next {l : List Int} {i n c k : Nat} (hc : n < c) (h : i + n ≤ l.length) : (gs (rdr i n c k), gv l (rdr i n c k)) = (rdr i n c (k + 1), (rdN ((l.drop i).take n) (n / 4)).getD k 0) := by
  unfold rdr gs gv
  by_cases hk : k < n / 4
  · have e1 : min k (n / 4) = k := by omega
    have e2 : min (k + 1) (n / 4) = k + 1 := by omega
    simp only [e1, e2, show ¬ n - 4 * k < 4 by omega, if_false]
    refine Prod.ext (Prod.ext ?_ (Prod.ext ?_ (Prod.ext ?_ ?_))) ?_
    · show srow (c - 4 * k) 4 (i + 4 * k) = _
      unfold srow
      rw [if_neg (by omega)]
      show 4 + (i + 4 * k) = i + 4 * (k + 1); omega
    · show n - 4 * k - 4 = n - 4 * (k + 1); omega
    · show c - 4 * k - 4 = c - 4 * (k + 1); omega
    · show decide (n / 4 < k) = decide (n / 4 < k + 1)
      rw [decide_eq_decide]; omega
    · show nm l (i + 4 * k) = _
      rw [rdN_get _ hk, nm_take _ (by omega), nm_drop]
  · have e1 : min k (n / 4) = n / 4 := by omega
    have e2 : min (k + 1) (n / 4) = n / 4 := by omega
    simp only [e1, e2, show n - 4 * (n / 4) < 4 by omega, if_true]
    refine Prod.ext (Prod.ext rfl (Prod.ext rfl (Prod.ext rfl ?_))) ?_
    · show true = decide (n / 4 < k + 1)
      rw [decide_eq_true (by omega)]
    · show (0 : Int) = _
      rw [List.getD_eq_getElem?_getD, List.getElem?_eq_none (by rw [rdN_len]; omega)]; rfl
theorem rdr_pre {l : List Int} {i n c k : Nat} {o : Bool} (hc : n < c) (h : i + c ≤ l.length) (hl : n < 140737488355000) (ho : o = false → c = 0) (hb : Bys ((l.drop i).take n)) :
    (rdr i n c k).2.1 ≤ (rdr i n c k).2.2.1 ∧ (rdr i n c k).1 + (rdr i n c k).2.2.1 ≤ l.length ∧ (rdr i n c k).2.1 < 140737488355000 ∧ (o = false → (rdr i n c k).2.1 = 0 ∧ (rdr i n c k).2.2.1 = 0) ∧ Bys ((l.drop (rdr i n c k).1).take (rdr i n c k).2.1) := by
  unfold rdr
  have hm : 4 * min k (n / 4) ≤ n := by omega
  refine ⟨by show n - _ ≤ c - _; omega, by show i + _ + (c - _) ≤ _; omega, by show n - _ < _; omega, fun h => by have := ho h; omega, ?_⟩
  intro x hx
  refine hb x ?_
  have hx : x ∈ (l.drop (i + 4 * min k (n / 4))).take (n - 4 * min k (n / 4)) := hx
  rw [← List.drop_drop, ← List.drop_take] at hx
  exact List.mem_of_mem_drop hx
theorem rdr_bad (i n c k : Nat) : (rdr i n c k).2.2.2 = decide (n / 4 < k) := by unfold rdr; rfl
theorem rdr_rest (i n c k : Nat) : (rdr i n c k).2.1 = n - 4 * min k (n / 4) := by unfold rdr; rfl
/-- Block j; slot j behind K numbers. -/
def blkAt (R : List Int) (j : Nat) : Pl := (R.getD (5 + 2 * j) 0, R.getD (5 + 2 * j + 1) 0)
def slotAt (R : List Int) (K j : Nat) : Slot := ⟨R.getD (K + 9 * j) 0, (R.getD (K + 9 * j + 1) 0, R.getD (K + 9 * j + 2) 0), ⟨R.getD (K + 9 * j + 3) 0, R.getD (K + 9 * j + 4) 0, R.getD (K + 9 * j + 5) 0, R.getD (K + 9 * j + 6) 0, R.getD (K + 9 * j + 7) 0, R.getD (K + 9 * j + 8) 0⟩⟩
@[irreducible] def nB (R : List Int) : Nat := min (R.getD 4 0).toNat ((R.length - 3) / 2)
@[irreducible] def nS (R : List Int) : Nat := min (R.getD (5 + 2 * nB R) 0).toNat ((R.length + 9 - (6 + 2 * nB R)) / 9)
def hdR (R : List Int) : Hd := (R.getD 0 0, R.getD 1 0, R.getD 2 0, R.getD 3 0)
@[irreducible] def blks (R : List Int) (j : Nat) : List Pl := (List.range j).map (blkAt R)
@[irreducible] def slts (R : List Int) (j : Nat) : List Slot := (List.range j).map (slotAt R (6 + 2 * nB R))
theorem blks_len (R : List Int) (j : Nat) : (blks R j).length = j := by unfold blks; simp
theorem slts_len (R : List Int) (j : Nat) : (slts R j).length = j := by unfold slts; simp
theorem blks_zero (R : List Int) : blks R 0 = [] := by unfold blks; rfl
theorem slts_zero (R : List Int) : slts R 0 = [] := by unfold slts; rfl
theorem blks_next (R : List Int) (j : Nat) : blks R (j + 1) = blks R j ++ [blkAt R j] := by unfold blks; rw [List.range_succ, List.map_append]; rfl
theorem slts_next (R : List Int) (j : Nat) : slts R (j + 1) = slts R j ++ [slotAt R (6 + 2 * nB R) j] := by unfold slts; rw [List.range_succ, List.map_append]; rfl
/-- What the bytes are: a point's. -/
def IsPt (b : List Int) (h : Hd) (A : List Pl) (B : List Slot) : Prop := okP h A B = true ∧ b = bytesP h A B
theorem seg {R : List Int} {k m : Nat} (h : k + m ≤ R.length) : (R.drop k).take m = (List.range m).map fun t => R.getD (k + t) 0 := by
  refine List.ext_getElem (by simp; omega) fun t h1 h2 => ?_
  simp only [List.length_take, List.length_drop] at h1
  rw [List.getElem_take, List.getElem_drop, List.getElem_map, List.getElem_range, List.getD_eq_getElem?_getD, List.getElem?_eq_getElem (by omega), Option.getD_some]
theorem blks_flat {R : List Int} : ∀ {a : Nat}, 5 + 2 * a ≤ R.length → (blks R a).flatMap lst = (R.drop 5).take (2 * a)
  | 0, _ => by rw [blks_zero]; rfl
  | a + 1, h => by
    rw [blks_next, List.flatMap_append, blks_flat (by omega), show 2 * (a + 1) = 2 * a + 2 by omega, List.take_add, List.drop_drop, seg (k := 5 + 2 * a) (m := 2) (by omega)]
    simp only [List.flatMap_singleton, lst, blkAt, List.range_succ, List.range_zero, List.nil_append, List.map_append, List.map_cons, List.map_nil, List.cons_append, Nat.add_zero]
theorem slts_flat {R : List Int} : ∀ {b : Nat}, 6 + 2 * nB R + 9 * b ≤ R.length → (slts R b).flatMap slotN = (R.drop (6 + 2 * nB R)).take (9 * b)
  | 0, _ => by rw [slts_zero]; rfl
  | b + 1, h => by
    rw [slts_next, List.flatMap_append, slts_flat (by omega), show 9 * (b + 1) = 9 * b + 9 by omega, List.take_add, List.drop_drop, seg (k := 6 + 2 * nB R + 9 * b) (m := 9) (by omega)]
    simp only [List.flatMap_singleton, slotN, slotAt, List.range_succ, List.range_zero, List.nil_append, List.map_append, List.map_cons, List.map_nil, List.cons_append, Nat.add_zero]
theorem nums_of {R : List Int} (hu : ∀ x ∈ R, 0 ≤ x) (h : 6 + 2 * nB R + 9 * nS R = R.length) : nums (hdR R) (blks R (nB R)) (slts R (nS R)) = R := by
  have h0 : ∀ k, 0 ≤ R.getD k 0 := by
    intro k
    by_cases hk : k < R.length
    · rw [List.getD_eq_getElem?_getD, List.getElem?_eq_getElem hk]; exact hu _ (List.getElem_mem hk)
    · rw [List.getD_eq_getElem?_getD, List.getElem?_eq_none (by omega)]; exact Int.le_refl 0
  have hB : R.getD 4 0 = (nB R : Nat) := by
    have e : nB R = min (R.getD 4 0).toNat ((R.length - 3) / 2) := by unfold nB; rfl
    have := h0 4
    omega
  have hS : R.getD (5 + 2 * nB R) 0 = (nS R : Nat) := by
    have e : nS R = min (R.getD (5 + 2 * nB R) 0).toNat ((R.length + 9 - (6 + 2 * nB R)) / 9) := by unfold nS; rfl
    have := h0 (5 + 2 * nB R)
    omega
  unfold nums
  rw [blks_flat (by omega), slts_flat (by omega), blks_len, slts_len, ← hB, ← hS]
  have e5 : [(hdR R).1, (hdR R).2.1, (hdR R).2.2.1, (hdR R).2.2.2, R.getD 4 0] = (R.drop 0).take 5 := by
    rw [seg (by omega)]; rfl
  have e1 : [R.getD (5 + 2 * nB R) 0] = (R.drop (5 + 2 * nB R)).take 1 := by
    rw [seg (by omega)]; rfl
  rw [e5, e1, List.drop_zero, ← List.take_add, show (R.drop (5 + 2 * nB R)).take 1 = ((R.drop (5 + 2 * nB R))).take 1 from rfl, ← List.take_add]
  have e9 : 6 + 2 * nB R = 5 + 2 * nB R + 1 := by omega
  rw [e9, ← List.take_add, List.take_of_length_le (by omega)]
theorem nB_nums (h : Hd) (A : List Pl) (B : List Slot) : nB (nums h A B) = A.length := by
  have e := nums_len h A B
  have e4 : (nums h A B).getD 4 0 = (A.length : Nat) := by unfold nums; rfl
  unfold nB
  rw [e, e4]
  omega
theorem nS_nums (h : Hd) (A : List Pl) (B : List Slot) : nS (nums h A B) = B.length := by
  have e := nums_len h A B
  have e1 : ∀ A : List Pl, (A.flatMap lst).length = 2 * A.length := by
    intro A
    induction A with
    | nil => rfl
    | cons x r ih => rw [List.flatMap_cons, List.length_append, ih]; simp [lst]; omega
  have e4 : (nums h A B).getD (5 + 2 * A.length) 0 = (B.length : Nat) := by
    unfold nums
    rw [List.getD_eq_getElem?_getD, List.append_assoc, List.getElem?_append_right (by simp [e1]; omega)]
    have : 5 + 2 * A.length - ([h.1, h.2.1, h.2.2.1, h.2.2.2, (A.length : Int)] ++ A.flatMap lst).length = 0 := by simp [e1]; omega
    rw [this]; rfl
  unfold nS
  rw [nB_nums, e, e4]
  omega
theorem nums_parts {h : Hd} {A : List Pl} {B : List Slot} (hu : ∀ x ∈ nums h A B, U32 x) : hdR (nums h A B) = h ∧ blks (nums h A B) (nB (nums h A B)) = A ∧ slts (nums h A B) (nS (nums h A B)) = B := by
  refine nums_inj (nums_of (fun x hx => (hu x hx).1) ?_)
  rw [nB_nums, nS_nums, nums_len]
/-- The numbers of bytes, without the sum behind. -/
@[irreducible] def nsOf (bv : List Int) : List Int := rdN (bv.take (bv.length - 4)) ((bv.length - 4) / 4)
theorem nsOf_len (bv : List Int) : (nsOf bv).length = (bv.length - 4) / 4 := by unfold nsOf; exact rdN_len _ _
theorem isPt_facts {bv : List Int} {h : Hd} {A : List Pl} {B : List Slot} (hp : IsPt bv h A B) (hl : bv.length < 4294967296) :
    28 ≤ bv.length ∧ nsOf bv = nums h A B ∧ nm bv (bv.length - 4) = crc (bv.take (bv.length - 4)) ∧ 6 + 2 * nB (nsOf bv) + 9 * nS (nsOf bv) = (nsOf bv).length ∧ 4 * (nsOf bv).length = bv.length - 4 ∧ okP (hdR (nsOf bv)) (blks (nsOf bv) (nB (nsOf bv))) (slts (nsOf bv) (nS (nsOf bv))) = true := by
  obtain ⟨h1, h2⟩ := hp
  have hlen := bytesP_len h A B
  rw [← h2] at hlen
  have hu := okP_u32 h1 (by omega) (by omega)
  have hf : bv.take (bv.length - 4) = fours (nums h A B) := by
    rw [h2]
    unfold bytesP
    rw [List.length_append, four_len, Nat.add_sub_cancel, List.take_left]
  have hM : (bv.length - 4) / 4 = (nums h A B).length := by rw [nums_len]; omega
  have e := rdN_fours hu []
  rw [List.append_nil] at e
  have en : nsOf bv = nums h A B := by unfold nsOf; rw [hf, hM, e]
  have ep := nums_parts hu
  refine ⟨by omega, en, ?_, ?_, ?_, ?_⟩
  · have hd : bv.drop (bv.length - 4) = four (crc (bv.take (bv.length - 4))) := by
      rw [hf]
      have : bv.length - 4 = (fours (nums h A B)).length := by rw [fours_len, nums_len]; omega
      rw [this, h2]
      unfold bytesP
      exact List.drop_left
    have e1 := nm_drop bv (bv.length - 4) 0
    rw [hd, Nat.add_zero] at e1
    rw [← e1]
    have e2 := nm_four (crc_u32 (bv.take (bv.length - 4))) []
    rw [List.append_nil] at e2
    exact e2
  · rw [en, nB_nums, nS_nums, nums_len]
  · rw [en, nums_len]; omega
  · rw [en, ep.1, ep.2.1, ep.2.2]; exact h1
theorem isPt_of {bv : List Int} (hb : Bys bv) (h4 : 4 ≤ bv.length) (hc : nm bv (bv.length - 4) = crc (bv.take (bv.length - 4))) (h1 : 6 + 2 * nB (nsOf bv) + 9 * nS (nsOf bv) = (nsOf bv).length) (h2 : 4 * (nsOf bv).length = bv.length - 4)
    (hok : okP (hdR (nsOf bv)) (blks (nsOf bv) (nB (nsOf bv))) (slts (nsOf bv) (nS (nsOf bv))) = true) : IsPt bv (hdR (nsOf bv)) (blks (nsOf bv) (nB (nsOf bv))) (slts (nsOf bv) (nS (nsOf bv))) := by
  refine ⟨hok, ?_⟩
  have hl := nsOf_len bv
  have hR : fours (nsOf bv) = bv.take (bv.length - 4) := by
    unfold nsOf
    rw [fours_rdN (hb.take _) _ (by rw [List.length_take]; omega), List.take_take]
    congr 1
    omega
  have hu : ∀ x ∈ nsOf bv, 0 ≤ x := by
    intro x hx
    unfold nsOf at hx
    exact (rdN_u32 (hb.take _) (by rw [List.length_take]; omega) x hx).1
  have e := nums_of hu h1
  unfold bytesP
  rw [e, hR, ← hc, (four_nm hb (by omega)).1, List.take_of_length_le (l := bv.drop _) (by rw [List.length_drop]; omega), List.take_append_drop]
theorem got {l : List Int} {i n c : Nat} (h4 : 4 ≤ n) (h1 : n ≤ c) (h2 : i + c ≤ l.length) {s : Rs} {k : Nat} {y : Rs × Int} (hs : s = rdr i (n - 4) c k) (hy : y = (gs s, gv l s)) :
    y = (rdr i (n - 4) c (k + 1), (nsOf ((l.drop i).take n)).getD k 0) := by
  rw [hy, hs, rdr_next (by omega) (by omega)]
  unfold nsOf
  rw [rows_len (show i + n ≤ l.length by omega), List.take_take, Nat.min_eq_left (by omega)]
theorem got_pre {l : List Int} {i n c : Nat} {o : Bool} (h4 : 4 ≤ n) (h1 : n ≤ c) (h2 : i + c ≤ l.length) (h3 : n < 140737488355000) (ho : o = false → c = 0) (hb : Bys ((l.drop i).take n)) {s : Rs} {k : Nat} (hs : s = rdr i (n - 4) c k) :
    s.2.1 ≤ s.2.2.1 ∧ s.1 + s.2.2.1 ≤ l.length ∧ s.2.1 < 140737488355000 ∧ (o = false → s.2.1 = 0 ∧ s.2.2.1 = 0) ∧ Bys ((l.drop s.1).take s.2.1) := by
  rw [hs]
  refine rdr_pre (by omega) h2 (by omega) ho ?_
  have := hb.take (n - 4)
  rw [List.take_take, Nat.min_eq_left (by omega)] at this
  exact this
theorem end_i {i n c : Nat} (h4 : 4 ≤ n) (h1 : n ≤ c) : srow c (n - 4) i = i + (n - 4) := by unfold srow; rw [if_neg (by omega)]; omega
theorem end_pre {l : List Int} {i n c : Nat} {o : Bool} (h4 : 4 ≤ n) (h1 : n ≤ c) (h2 : i + c ≤ l.length) (h3 : n < 140737488355000) (ho : o = false → c = 0) (hb : Bys ((l.drop i).take n)) :
    n - (n - 4) ≤ c - (n - 4) ∧ srow c (n - 4) i + (c - (n - 4)) ≤ l.length ∧ n - (n - 4) < 140737488355000 ∧ (o = false → n - (n - 4) = 0 ∧ c - (n - 4) = 0) ∧ Bys ((l.drop (srow c (n - 4) i)).take (n - (n - 4))) := by
  rw [end_i h4 h1]
  refine ⟨by omega, by omega, by omega, fun h => by have := ho h; omega, ?_⟩
  intro x hx
  refine hb x ?_
  rw [← List.drop_drop, ← List.drop_take] at hx
  exact List.mem_of_mem_drop hx
theorem end_get {l : List Int} {i n c : Nat} (h4 : 4 ≤ n) (h1 : n ≤ c) (h2 : i + c ≤ l.length) : gv l (srow c (n - 4) i, n - (n - 4), c - (n - 4), false) = nm ((l.drop i).take n) (n - 4) := by
  unfold gv
  rw [end_i h4 h1]
  simp only [show ¬ n - (n - 4) < 4 by omega, if_false]
  rw [nm_take _ (by omega), nm_drop]
theorem nB_le (R : List Int) : 2 * nB R + 3 ≤ R.length ∨ nB R = 0 := by unfold nB; omega
theorem nB_lt {R : List Int} {j : Nat} (h : 0 < R.getD 4 0 - (j : Int)) (h2 : ¬ R.length < 5 + 2 * j) : j + 1 ≤ nB R := by unfold nB; omega
theorem nB_eq {R : List Int} {j : Nat} (hj : j ≤ nB R) (h : (decide (0 < R.getD 4 0 - (j : Int)) && !decide (R.length < 5 + 2 * j)) = false) : j = nB R := by
  have e : nB R = min (R.getD 4 0).toNat ((R.length - 3) / 2) := by unfold nB; rfl
  simp only [Bool.and_eq_false_iff, decide_eq_false_iff_not, Bool.not_eq_false', decide_eq_true_iff] at h
  omega
theorem nS_le (R : List Int) : 9 * nS R ≤ R.length + 3 := by unfold nS; omega
theorem nS_lt {R : List Int} {j : Nat} (h : 0 < R.getD (5 + 2 * nB R) 0 - (j : Int)) (h2 : ¬ R.length < 6 + 2 * nB R + 9 * j) : j + 1 ≤ nS R := by unfold nS; omega
theorem nS_eq {R : List Int} {j : Nat} (hj : j ≤ nS R) (h : (decide (0 < R.getD (5 + 2 * nB R) 0 - (j : Int)) && !decide (R.length < 6 + 2 * nB R + 9 * j)) = false) : j = nS R := by
  have e : nS R = min (R.getD (5 + 2 * nB R) 0).toNat ((R.length + 9 - (6 + 2 * nB R)) / 9) := by unfold nS; rfl
  simp only [Bool.and_eq_false_iff, decide_eq_false_iff_not, Bool.not_eq_false', decide_eq_true_iff] at h
  omega
theorem ns_u32 {bv : List Int} (hb : Bys bv) (k : Nat) : U32 ((nsOf bv).getD k 0) := by
  by_cases hk : k < (nsOf bv).length
  · rw [List.getD_eq_getElem?_getD, List.getElem?_eq_getElem hk, Option.getD_some]
    have hm := List.getElem_mem hk
    have hu : ∀ x ∈ nsOf bv, U32 x := by
      unfold nsOf
      exact rdN_u32 (hb.take _) (by rw [List.length_take]; omega)
    exact hu _ hm
  · rw [List.getD_eq_getElem?_getD, List.getElem?_eq_none (by omega)]
    exact ⟨Int.le_refl 0, by decide⟩
end Go.Vx
set_option linter.unusedSectionVars false
set_option maxRecDepth 100000
set_option linter.unusedVariables false
set_option linter.unusedSimpArgs false
namespace Go.Vx
open Go Go.Proofs
variable [Gl]

abbrev rdE (s : Rs) (k : Nat) : List SV := [.sl k s.1 s.2.1 s.2.2.1, .bool (.tm s.2.2.2)]
def Op9 (R : List Int) (i n c : Nat) : Inv' C0 := ⟨9, Nat × Rs × Bool × Nat × Nat × List Pl × Nat, fun x => [(7, .int .i64 (R.getD 4 0 - (x.1 : Int)))], fun x m => match m with
  | [a, rs, e, r, p] => [a, rs, e, ⟨r.block, r.base, 2, true, none, .one (rdE x.2.1 0)⟩, ⟨p.block, p.base, 6, true, none, .one (hdE (hdR R) (.sl 5 0 x.1 x.2.2.2.2.2.2) .nils)⟩, ⟨x.2.2.2.1, x.2.2.2.2.1, 2, true, some x.2.2.1, .rows 87 x.2.2.2.2.2.1⟩]
  | m => m, fun x => x.1 ≤ nB R ∧ x.2.1 = rdr i n c (5 + 2 * x.1) ∧ Grw (blks R x.1) x.2.2.2.2.2.1 x.2.2.1 x.1 x.2.2.2.2.2.2, fun x => nB R - x.1⟩
def Op13 (R : List Int) (i n c : Nat) : Inv' C0 := ⟨13, Nat × Rs × Bool × Nat × Nat × List Slot × Nat, fun x => [(8, .int .i64 (R.getD (5 + 2 * nB R) 0 - (x.1 : Int)))], fun x m => match m with
  | [a, rs, e, r, p, bl] => match p.cells with
    | .one [_, _, _, _, sb, _] => [a, rs, e, ⟨r.block, r.base, 2, true, none, .one (rdE x.2.1 0)⟩, ⟨p.block, p.base, 6, true, none, .one (hdE (hdR R) sb (.sl 6 0 x.1 x.2.2.2.2.2.2))⟩, bl, ⟨x.2.2.2.1, x.2.2.2.2.1, 9, true, some x.2.2.1, .rows 88 x.2.2.2.2.2.1⟩]
    | _ => m
  | m => m, fun x => x.1 ≤ nS R ∧ x.2.1 = rdr i n c (6 + 2 * nB R + 9 * x.1) ∧ Grw (slts R x.1) x.2.2.2.2.2.1 x.2.2.1 x.1 x.2.2.2.2.2.2, fun x => nS R - x.1⟩
set_option maxHeartbeats 16000000 in
theorem open_ok (o : Bool) (b q : Nat) (l : List Int) (i n c : Nat) (h1 : n ≤ c) (h2 : i + c ≤ l.length) (h3 : n < 140737488355000) (ho : o = false → n = 0 ∧ c = 0) (hb : Bys ((l.drop i).take n)) (hn : n ≤ 1000000) :
    Does (C := C0) Tryd.prog (.fn 16) [⟨b, q, 1, false, some o, .rows 5 l⟩] [.sl 0 i n c]
    [⟨Unit, fun _ => ∀ h A B, ¬ IsPt ((l.drop i).take n) h A B, fun _ => .tup [ptv (0, 0, 0, 0) .nils .nils, eV 0], fun _ => [⟨b, q, 1, false, some o, .rows 5 l⟩]⟩,
     ⟨Hd × (Bool × Nat × Nat × List Pl × Nat × Nat) × (Bool × Nat × Nat × List Slot × Nat × Nat), fun y => IsPt ((l.drop i).take n) y.1 (y.2.1.2.2.2.1.take y.2.1.2.2.2.2.1) (y.2.2.2.2.2.1.take y.2.2.2.2.2.2.1) ∧ Sq.ok y.2.1 ∧ Sq.ok y.2.2,
      fun y => .tup [ptv y.1 (.sl 1 0 y.2.1.2.2.2.2.1 y.2.1.2.2.2.2.2) (.sl 2 0 y.2.2.2.2.2.2.1 y.2.2.2.2.2.2.2), .nili],
      fun y => [⟨b, q, 1, false, some o, .rows 5 l⟩, ⟨y.2.1.2.1, y.2.1.2.2.1, 2, true, some y.2.1.1, .rows 87 y.2.1.2.2.2.1⟩, ⟨y.2.2.2.1, y.2.2.2.2.1, 9, true, some y.2.2.1, .rows 88 y.2.2.2.2.2.1⟩]⟩] := by
  have hbl : ((l.drop i).take n).length = n := rows_len (by omega)
  have hRl : (nsOf ((l.drop i).take n)).length = (n - 4) / 4 := by rw [nsOf_len, hbl]
  refine loc_fn (P := Tryd.prog) (E := ⟨[fcGet], [pcPmay, pcCrc], 132, [(2, [], [.p 0, .p 1, .e 2, .p 3]), (5, [3], [.p 0, .p 2, .p 3, .p 4, .p 5, .e 1, .e 6, .p 7]), (6, [], [.p 0, .p 1, .e 2, .p 3]),
    (11, [4], [.p 0, .p 2, .p 4, .p 1, .e 3, .e 5, .p 6, .e 7, .e 8, .p 9, .f 10]), (19, [], [.p 0, .p 1, .e 2, .p 3])], [], []⟩) (L := [Op9 (nsOf ((l.drop i).take n)) i (n - 4) c, Op13 (nsOf ((l.drop i).take n)) i (n - 4) c]) mix Tryd.func16 rfl (by kernel_rfl) (by kernel_rfl) rfl rfl ?_
  ((conv => (arg 1; reduce)); with_reducible repeat' (first | exact Tr.yes_h | refine Tr.and_h ?_ ?_ | refine Tr.imp_h fun _ => ?_ | refine Tr.all_h fun _ => ?_ | refine Tr.lf_h ?_))
  all_goals try (first | first | (show Region.lexB _ _ = true; kernel_rfl) | (show planned _ _ = true; kernel_rfl) | exact rfl | exact True.intro | ((try dsimp only [imp, C0, cG, cInt, cPl, cSlot, cPg, rwCodec, cRaw] at *); (try refine inR64 ?_ ?_) <;> (try simp only [List.length_set, List.length_append, List.length_take, List.length_drop]) <;> omega))
  · rename_i b0 h4
    have h4 := of_decide_eq_true h4
    refine Ends.one () (fun h A B hp => ?_) ?_
    · have := (isPt_facts hp (by rw [hbl]; omega)).1
      rw [hbl] at this
      omega
    ((conv => (arg 1; reduce)); with_reducible repeat' (first | exact Tr.yes_h | refine Tr.and_h ?_ ?_ | refine Tr.imp_h fun _ => ?_ | refine Tr.all_h fun _ => ?_ | refine Tr.lf_h ?_))
    all_goals (first | first | (show Region.lexB _ _ = true; kernel_rfl) | (show planned _ _ = true; kernel_rfl) | exact rfl | exact True.intro | ((try dsimp only [imp, C0, cG, cInt, cPl, cSlot, cPg, rwCodec, cRaw] at *); (try refine inR64 ?_ ?_) <;> (try simp only [List.length_set, List.length_append, List.length_take, List.length_drop]) <;> omega))
  · rename_i b0 h4
    have h4 : 4 ≤ n := by have := of_decide_eq_false h4; omega
    have e4 : ((n : Int) - 4).toNat = n - 4 := by omega
    omega
  · rename_i b0 h4 be
    have h4 : 4 ≤ n := by have := of_decide_eq_false h4; omega
    have e4 : ((n : Int) - 4).toNat = n - 4 := by omega
    omega
  · rename_i b0 h4 be br
    have h4 : 4 ≤ n := by have := of_decide_eq_false h4; omega
    have e4 : ((n : Int) - 4).toNat = n - 4 := by omega
    rw [e4]
    exact end_pre h4 h1 h2 h3 (fun h => (ho h).2) hb
  · rename_i b0 h4 be br ye hye
    have h4 : 4 ≤ n := by have := of_decide_eq_false h4; omega
    have e4 : ((n : Int) - 4).toNat = n - 4 := by omega
    rw [e4]
    refine ⟨by show i + (n - 4) ≤ l.length; omega, by show n - 4 < 4611686018427387904; omega, fun h => ⟨by have := (ho h).1; omega, (ho h).2⟩⟩
  · rename_i b0 h4 be br ye hye h5
    have h4 : 4 ≤ n := by have := of_decide_eq_false h4; omega
    have e4 : ((n : Int) - 4).toNat = n - 4 := by omega
    have hye2 : ye.2 = nm ((l.drop i).take n) (((l.drop i).take n).length - 4) := by
      rw [e4] at hye
      rw [show ye = _ from hye]
      show gv l _ = _
      rw [hbl]
      exact end_get h4 h1 h2
    have hcr : (l.drop i).take (n - 4) = ((l.drop i).take n).take (((l.drop i).take n).length - 4) := by rw [hbl, List.take_take]; congr 1; omega
    have h5 : ¬ ye.2 = crc ((l.drop i).take ((n : Int) - 4).toNat) := of_decide_eq_true h5
    rw [e4, hcr, hye2] at h5
    refine Ends.one () (fun h A B hp => ?_) ?_
    · exact h5 (isPt_facts (bv := ((l.drop i).take n)) hp (by rw [hbl]; omega)).2.2.1
    ((conv => (arg 1; reduce)); with_reducible repeat' (first | exact Tr.yes_h | refine Tr.and_h ?_ ?_ | refine Tr.imp_h fun _ => ?_ | refine Tr.all_h fun _ => ?_ | refine Tr.lf_h ?_))
    all_goals (first | first | (show Region.lexB _ _ = true; kernel_rfl) | (show planned _ _ = true; kernel_rfl) | exact rfl | exact True.intro | ((try dsimp only [imp, C0, cG, cInt, cPl, cSlot, cPg, rwCodec, cRaw] at *); (try refine inR64 ?_ ?_) <;> (try simp only [List.length_set, List.length_append, List.length_take, List.length_drop]) <;> omega))
  · rename_i b0 h4 be br ye hye h5
    have h4 : 4 ≤ n := by have := of_decide_eq_false h4; omega
    have e4 : ((n : Int) - 4).toNat = n - 4 := by omega
    rw [e4]
    exact got_pre h4 h1 h2 h3 (fun h => (ho h).2) hb (s := (i, n - 4, c, false)) (rdr_zero i (n - 4) c).symm
  · rename_i b0 h4 be br ye hye h5 y1 hy1
    have h4 : 4 ≤ n := by have := of_decide_eq_false h4; omega
    have e4 : ((n : Int) - 4).toNat = n - 4 := by omega
    rw [e4] at hy1
    have g1 := got h4 h1 h2 (s := (i, n - 4, c, false)) (rdr_zero i (n - 4) c).symm hy1
    exact got_pre h4 h1 h2 h3 (fun h => (ho h).2) hb (s := y1.1) (congrArg Prod.fst g1)
  · rename_i b0 h4 be br ye hye h5 y1 hy1 y2 hy2
    have h4 : 4 ≤ n := by have := of_decide_eq_false h4; omega
    have e4 : ((n : Int) - 4).toNat = n - 4 := by omega
    rw [e4] at hy1
    have g1 := got h4 h1 h2 (s := (i, n - 4, c, false)) (rdr_zero i (n - 4) c).symm hy1
    have g2 := got h4 h1 h2 (s := y1.1) (congrArg Prod.fst g1) hy2
    exact got_pre h4 h1 h2 h3 (fun h => (ho h).2) hb (s := y2.1) (congrArg Prod.fst g2)
  · rename_i b0 h4 be br ye hye h5 y1 hy1 y2 hy2 y3 hy3
    have h4 : 4 ≤ n := by have := of_decide_eq_false h4; omega
    have e4 : ((n : Int) - 4).toNat = n - 4 := by omega
    rw [e4] at hy1
    have g1 := got h4 h1 h2 (s := (i, n - 4, c, false)) (rdr_zero i (n - 4) c).symm hy1
    have g2 := got h4 h1 h2 (s := y1.1) (congrArg Prod.fst g1) hy2
    have g3 := got h4 h1 h2 (s := y2.1) (congrArg Prod.fst g2) hy3
    exact got_pre h4 h1 h2 h3 (fun h => (ho h).2) hb (s := y3.1) (congrArg Prod.fst g3)
  · rename_i b0 h4 be br ye hye h5 y1 hy1 y2 hy2 y3 hy3 y4 hy4 bp
    have h4 : 4 ≤ n := by have := of_decide_eq_false h4; omega
    have e4 : ((n : Int) - 4).toNat = n - 4 := by omega
    rw [e4] at hy1
    have g1 := got h4 h1 h2 (s := (i, n - 4, c, false)) (rdr_zero i (n - 4) c).symm hy1
    have g2 := got h4 h1 h2 (s := y1.1) (congrArg Prod.fst g1) hy2
    have g3 := got h4 h1 h2 (s := y2.1) (congrArg Prod.fst g2) hy3
    have g4 := got h4 h1 h2 (s := y3.1) (congrArg Prod.fst g3) hy4
    exact got_pre h4 h1 h2 h3 (fun h => (ho h).2) hb (s := y4.1) (congrArg Prod.fst g4)
  · rename_i b0 h4 be br ye hye h5 y1 hy1 y2 hy2 y3 hy3 y4 hy4 bp y5 hy5
    have h4 : 4 ≤ n := by have := of_decide_eq_false h4; omega
    have e4 : ((n : Int) - 4).toNat = n - 4 := by omega
    rw [e4] at hy1
    have g1 := got h4 h1 h2 (s := (i, n - 4, c, false)) (rdr_zero i (n - 4) c).symm hy1
    have g2 := got h4 h1 h2 (s := y1.1) (congrArg Prod.fst g1) hy2
    have g3 := got h4 h1 h2 (s := y2.1) (congrArg Prod.fst g2) hy3
    have g4 := got h4 h1 h2 (s := y3.1) (congrArg Prod.fst g3) hy4
    have g5 := got h4 h1 h2 (s := y4.1) (congrArg Prod.fst g4) hy5
    subst g5 g4 g3 g2 g1
    refine Stands.one (0, rdr i (n - 4) c 5, false, 0, 0, [], 0) ⟨⟨Nat.zero_le _, rfl, ?_⟩, ?_⟩
    · rw [blks_zero]; exact ⟨rfl, rfl, Nat.le_refl _, Nat.le_refl _, fun _ => ⟨rfl, rfl⟩⟩
    ((conv => (arg 1; reduce)); with_reducible repeat' (first | exact Tr.yes_h | refine Tr.and_h ?_ ?_ | refine Tr.imp_h fun _ => ?_ | refine Tr.all_h fun _ => ?_ | refine Tr.lf_h ?_))
    all_goals first | (first | first | (show Region.lexB _ _ = true; kernel_rfl) | (show planned _ _ = true; kernel_rfl) | exact rfl | exact True.intro | ((try dsimp only [imp, C0, cG, cInt, cPl, cSlot, cPg, rwCodec, cRaw] at *); (try refine inR64 ?_ ?_) <;> (try simp only [List.length_set, List.length_append, List.length_take, List.length_drop]) <;> omega)) | (show (nsOf _).getD 4 0 = (nsOf _).getD 4 0 - ((0 : Nat) : Int); omega)
  · rename_i b0 h4 be br ye hye h5 y1 hy1 y2 hy2 y3 hy3 y4 hy4 bp y5 hy5 v hv h6
    have h4 : 4 ≤ n := by have := of_decide_eq_false h4; omega
    have e4 : ((n : Int) - 4).toNat = n - 4 := by omega
    obtain ⟨j, s, on, vb, vq, vl, vc⟩ := v
    obtain ⟨e1, e2, e3⟩ : j ≤ nB (nsOf ((l.drop i).take n)) ∧ s = rdr i (n - 4) c (5 + 2 * j) ∧ Grw (blks (nsOf ((l.drop i).take n)) j) vl on j vc := hv
    have h6 : (decide (0 < (nsOf ((l.drop i).take n)).getD 4 0 - (j : Int)) && !s.2.2.2) = true := h6
    rw [e2, rdr_bad, ← hRl] at h6
    simp only [Bool.and_eq_true, decide_eq_true_iff, Bool.not_eq_true', decide_eq_false_iff_not] at h6
    have hj := nB_lt h6.1 h6.2
    have hnb := nB_le (nsOf ((l.drop i).take n))
    exact got_pre h4 h1 h2 h3 (fun h => (ho h).2) hb (s := s) e2
  · rename_i b0 h4 be br ye hye h5 y1 hy1 y2 hy2 y3 hy3 y4 hy4 bp y5 hy5 v hv h6 z1 hz1
    have h4 : 4 ≤ n := by have := of_decide_eq_false h4; omega
    have e4 : ((n : Int) - 4).toNat = n - 4 := by omega
    obtain ⟨j, s, on, vb, vq, vl, vc⟩ := v
    obtain ⟨e1, e2, e3⟩ : j ≤ nB (nsOf ((l.drop i).take n)) ∧ s = rdr i (n - 4) c (5 + 2 * j) ∧ Grw (blks (nsOf ((l.drop i).take n)) j) vl on j vc := hv
    have h6 : (decide (0 < (nsOf ((l.drop i).take n)).getD 4 0 - (j : Int)) && !s.2.2.2) = true := h6
    rw [e2, rdr_bad, ← hRl] at h6
    simp only [Bool.and_eq_true, decide_eq_true_iff, Bool.not_eq_true', decide_eq_false_iff_not] at h6
    have hj := nB_lt h6.1 h6.2
    have hnb := nB_le (nsOf ((l.drop i).take n))
    have k1 := got h4 h1 h2 (s := s) e2 hz1
    exact got_pre h4 h1 h2 h3 (fun h => (ho h).2) hb (s := z1.1) (congrArg Prod.fst k1)
  · rename_i b0 h4 be br ye hye h5 y1 hy1 y2 hy2 y3 hy3 y4 hy4 bp y5 hy5 v hv h6 z1 hz1 z2 hz2 bk
    have h4 : 4 ≤ n := by have := of_decide_eq_false h4; omega
    have e4 : ((n : Int) - 4).toNat = n - 4 := by omega
    obtain ⟨j, s, on, vb, vq, vl, vc⟩ := v
    obtain ⟨e1, e2, e3⟩ : j ≤ nB (nsOf ((l.drop i).take n)) ∧ s = rdr i (n - 4) c (5 + 2 * j) ∧ Grw (blks (nsOf ((l.drop i).take n)) j) vl on j vc := hv
    have h6 : (decide (0 < (nsOf ((l.drop i).take n)).getD 4 0 - (j : Int)) && !s.2.2.2) = true := h6
    rw [e2, rdr_bad, ← hRl] at h6
    simp only [Bool.and_eq_true, decide_eq_true_iff, Bool.not_eq_true', decide_eq_false_iff_not] at h6
    have hj := nB_lt h6.1 h6.2
    have hnb := nB_le (nsOf ((l.drop i).take n))
    obtain ⟨f1, f2, f3, f4, f5⟩ := e3
    rw [by87]
    exact ⟨f3, by show 0 + vc ≤ vl.length; omega, Nat.le_refl 1, by show (j + 1) * 16 ≤ _; omega⟩
  · rename_i b0 h4 be br ye hye h5 y1 hy1 y2 hy2 y3 hy3 y4 hy4 bp y5 hy5 v hv h6 z1 hz1 z2 hz2 bk
    have h4 : 4 ≤ n := by have := of_decide_eq_false h4; omega
    have e4 : ((n : Int) - 4).toNat = n - 4 := by omega
    obtain ⟨j, s, on, vb, vq, vl, vc⟩ := v
    obtain ⟨e1, e2, e3⟩ : j ≤ nB (nsOf ((l.drop i).take n)) ∧ s = rdr i (n - 4) c (5 + 2 * j) ∧ Grw (blks (nsOf ((l.drop i).take n)) j) vl on j vc := hv
    have h6 : (decide (0 < (nsOf ((l.drop i).take n)).getD 4 0 - (j : Int)) && !s.2.2.2) = true := h6
    rw [e2, rdr_bad, ← hRl] at h6
    simp only [Bool.and_eq_true, decide_eq_true_iff, Bool.not_eq_true', decide_eq_false_iff_not] at h6
    have hj := nB_lt h6.1 h6.2
    have hnb := nB_le (nsOf ((l.drop i).take n))
    exact e3.2.2.2.2
  · rename_i b0 h4 be br ye hye h5 y1 hy1 y2 hy2 y3 hy3 y4 hy4 bp y5 hy5 v hv h6 z1 hz1 z2 hz2 bk b9 q9 sp cap m1 m2
    have h4 : 4 ≤ n := by have := of_decide_eq_false h4; omega
    have e4 : ((n : Int) - 4).toNat = n - 4 := by omega
    obtain ⟨j, s, on, vb, vq, vl, vc⟩ := v
    obtain ⟨e1, e2, e3⟩ : j ≤ nB (nsOf ((l.drop i).take n)) ∧ s = rdr i (n - 4) c (5 + 2 * j) ∧ Grw (blks (nsOf ((l.drop i).take n)) j) vl on j vc := hv
    have h6 : (decide (0 < (nsOf ((l.drop i).take n)).getD 4 0 - (j : Int)) && !s.2.2.2) = true := h6
    rw [e2, rdr_bad, ← hRl] at h6
    simp only [Bool.and_eq_true, decide_eq_true_iff, Bool.not_eq_true', decide_eq_false_iff_not] at h6
    have hj := nB_lt h6.1 h6.2
    have hnb := nB_le (nsOf ((l.drop i).take n))
    have hu := ns_u32 (bv := ((l.drop i).take n)) hb 4
    exact inR64 (by have := hu.1; show _ ≤ (nsOf ((l.drop i).take n)).getD 4 0 - (j : Int) - 1; omega) (by have := hu.2; show (nsOf ((l.drop i).take n)).getD 4 0 - (j : Int) - 1 ≤ _; omega)
  · rename_i b0 h4 be br ye hye h5 y1 hy1 y2 hy2 y3 hy3 y4 hy4 bp y5 hy5 v hv h6 z1 hz1 z2 hz2 bk b9 q9 sp cap m1 m2
    have h4 : 4 ≤ n := by have := of_decide_eq_false h4; omega
    have e4 : ((n : Int) - 4).toNat = n - 4 := by omega
    obtain ⟨j, s, on, vb, vq, vl, vc⟩ := v
    obtain ⟨e1, e2, e3⟩ : j ≤ nB (nsOf ((l.drop i).take n)) ∧ s = rdr i (n - 4) c (5 + 2 * j) ∧ Grw (blks (nsOf ((l.drop i).take n)) j) vl on j vc := hv
    have h6 : (decide (0 < (nsOf ((l.drop i).take n)).getD 4 0 - (j : Int)) && !s.2.2.2) = true := h6
    rw [e2, rdr_bad, ← hRl] at h6
    simp only [Bool.and_eq_true, decide_eq_true_iff, Bool.not_eq_true', decide_eq_false_iff_not] at h6
    have hj := nB_lt h6.1 h6.2
    have hnb := nB_le (nsOf ((l.drop i).take n))
    have k1 := got h4 h1 h2 (s := s) e2 hz1
    have k2 := got h4 h1 h2 (s := z1.1) (congrArg Prod.fst k1) hz2
    subst k2 k1 e2
    have e5 := e3.app (x := blkAt (nsOf ((l.drop i).take n)) j) (sp := sp) m1 m2
    rw [← blks_next] at e5
    refine Stands.one (j + 1, rdr i (n - 4) c (5 + 2 * j + 1 + 1), true, b9, q9, vl.take j ++ [blkAt (nsOf ((l.drop i).take n)) j] ++ sp, cap) ⟨⟨hj, rfl, e5⟩, ?_, ?_⟩
    · show nB (nsOf ((l.drop i).take n)) - (j + 1) < nB (nsOf ((l.drop i).take n)) - j
      omega
    ((conv => (arg 1; reduce)); with_reducible repeat' (first | exact Tr.yes_h | refine Tr.and_h ?_ ?_ | refine Tr.imp_h fun _ => ?_ | refine Tr.all_h fun _ => ?_ | refine Tr.lf_h ?_))
    all_goals (first | first | (show Region.lexB _ _ = true; kernel_rfl) | (show planned _ _ = true; kernel_rfl) | exact rfl | exact True.intro | ((try dsimp only [imp, C0, cG, cInt, cPl, cSlot, cPg, rwCodec, cRaw] at *); (try refine inR64 ?_ ?_) <;> (try simp only [List.length_set, List.length_append, List.length_take, List.length_drop]) <;> omega))
  · rename_i b0 h4 be br ye hye h5 y1 hy1 y2 hy2 y3 hy3 y4 hy4 bp y5 hy5 v hv h6
    have h4 : 4 ≤ n := by have := of_decide_eq_false h4; omega
    have e4 : ((n : Int) - 4).toNat = n - 4 := by omega
    obtain ⟨j, s, on, vb, vq, vl, vc⟩ := v
    obtain ⟨e1, e2, e3⟩ : j ≤ nB (nsOf ((l.drop i).take n)) ∧ s = rdr i (n - 4) c (5 + 2 * j) ∧ Grw (blks (nsOf ((l.drop i).take n)) j) vl on j vc := hv
    have h6 : (decide (0 < (nsOf ((l.drop i).take n)).getD 4 0 - (j : Int)) && !s.2.2.2) = false := h6
    rw [e2, rdr_bad, ← hRl] at h6
    have hj := nB_eq e1 h6
    exact got_pre h4 h1 h2 h3 (fun h => (ho h).2) hb (s := s) e2
  · rename_i b0 h4 be br ye hye h5 y1 hy1 y2 hy2 y3 hy3 y4 hy4 bp y5 hy5 v hv h6 w1 hw1
    have h4 : 4 ≤ n := by have := of_decide_eq_false h4; omega
    have e4 : ((n : Int) - 4).toNat = n - 4 := by omega
    obtain ⟨j, s, on, vb, vq, vl, vc⟩ := v
    obtain ⟨e1, e2, e3⟩ : j ≤ nB (nsOf ((l.drop i).take n)) ∧ s = rdr i (n - 4) c (5 + 2 * j) ∧ Grw (blks (nsOf ((l.drop i).take n)) j) vl on j vc := hv
    have h6 : (decide (0 < (nsOf ((l.drop i).take n)).getD 4 0 - (j : Int)) && !s.2.2.2) = false := h6
    rw [e2, rdr_bad, ← hRl] at h6
    have hj := nB_eq e1 h6
    have kw := got h4 h1 h2 (s := s) e2 hw1
    subst kw e2 hj
    refine Stands.one (0, rdr i (n - 4) c (5 + 2 * nB (nsOf ((l.drop i).take n)) + 1), false, 0, 0, [], 0) ⟨⟨Nat.zero_le _, ?_, ?_⟩, ?_⟩
    · show rdr i (n - 4) c (5 + 2 * nB (nsOf ((l.drop i).take n)) + 1) = rdr i (n - 4) c (6 + 2 * nB (nsOf ((l.drop i).take n)) + 9 * 0)
      congr 1; omega
    · rw [slts_zero]; exact ⟨rfl, rfl, Nat.le_refl _, Nat.le_refl _, fun _ => ⟨rfl, rfl⟩⟩
    ((conv => (arg 1; reduce)); with_reducible repeat' (first | exact Tr.yes_h | refine Tr.and_h ?_ ?_ | refine Tr.imp_h fun _ => ?_ | refine Tr.all_h fun _ => ?_ | refine Tr.lf_h ?_))
    all_goals (first | first | (show Region.lexB _ _ = true; kernel_rfl) | (show planned _ _ = true; kernel_rfl) | exact rfl | exact True.intro | ((try dsimp only [imp, C0, cG, cInt, cPl, cSlot, cPg, rwCodec, cRaw] at *); (try refine inR64 ?_ ?_) <;> (try simp only [List.length_set, List.length_append, List.length_take, List.length_drop]) <;> omega))
  · rename_i b0 h4 be br ye hye h5 y1 hy1 y2 hy2 y3 hy3 y4 hy4 bp y5 hy5 v hv h6 w1 hw1 u hu h7
    have h4 : 4 ≤ n := by have := of_decide_eq_false h4; omega
    have e4 : ((n : Int) - 4).toNat = n - 4 := by omega
    obtain ⟨j, s, on, vb, vq, vl, vc⟩ := u
    obtain ⟨e1, e2, e3⟩ : j ≤ nS (nsOf ((l.drop i).take n)) ∧ s = rdr i (n - 4) c (6 + 2 * nB (nsOf ((l.drop i).take n)) + 9 * j) ∧ Grw (slts (nsOf ((l.drop i).take n)) j) vl on j vc := hu
    have h7 : (decide (0 < (nsOf ((l.drop i).take n)).getD (5 + 2 * nB (nsOf ((l.drop i).take n))) 0 - (j : Int)) && !s.2.2.2) = true := h7
    rw [e2, rdr_bad, ← hRl] at h7
    simp only [Bool.and_eq_true, decide_eq_true_iff, Bool.not_eq_true', decide_eq_false_iff_not] at h7
    have hj := nS_lt h7.1 h7.2
    have hns := nS_le (nsOf ((l.drop i).take n))
    exact got_pre h4 h1 h2 h3 (fun h => (ho h).2) hb (s := s) e2
  · rename_i b0 h4 be br ye hye h5 y1 hy1 y2 hy2 y3 hy3 y4 hy4 bp y5 hy5 v hv h6 w1 hw1 u hu h7 z1 hz1
    have h4 : 4 ≤ n := by have := of_decide_eq_false h4; omega
    have e4 : ((n : Int) - 4).toNat = n - 4 := by omega
    obtain ⟨j, s, on, vb, vq, vl, vc⟩ := u
    obtain ⟨e1, e2, e3⟩ : j ≤ nS (nsOf ((l.drop i).take n)) ∧ s = rdr i (n - 4) c (6 + 2 * nB (nsOf ((l.drop i).take n)) + 9 * j) ∧ Grw (slts (nsOf ((l.drop i).take n)) j) vl on j vc := hu
    have h7 : (decide (0 < (nsOf ((l.drop i).take n)).getD (5 + 2 * nB (nsOf ((l.drop i).take n))) 0 - (j : Int)) && !s.2.2.2) = true := h7
    rw [e2, rdr_bad, ← hRl] at h7
    simp only [Bool.and_eq_true, decide_eq_true_iff, Bool.not_eq_true', decide_eq_false_iff_not] at h7
    have hj := nS_lt h7.1 h7.2
    have hns := nS_le (nsOf ((l.drop i).take n))
    have k1 := got h4 h1 h2 (s := s) e2 hz1
    exact got_pre h4 h1 h2 h3 (fun h => (ho h).2) hb (s := z1.1) (congrArg Prod.fst k1)
  · rename_i b0 h4 be br ye hye h5 y1 hy1 y2 hy2 y3 hy3 y4 hy4 bp y5 hy5 v hv h6 w1 hw1 u hu h7 z1 hz1 z2 hz2
    have h4 : 4 ≤ n := by have := of_decide_eq_false h4; omega
    have e4 : ((n : Int) - 4).toNat = n - 4 := by omega
    obtain ⟨j, s, on, vb, vq, vl, vc⟩ := u
    obtain ⟨e1, e2, e3⟩ : j ≤ nS (nsOf ((l.drop i).take n)) ∧ s = rdr i (n - 4) c (6 + 2 * nB (nsOf ((l.drop i).take n)) + 9 * j) ∧ Grw (slts (nsOf ((l.drop i).take n)) j) vl on j vc := hu
    have h7 : (decide (0 < (nsOf ((l.drop i).take n)).getD (5 + 2 * nB (nsOf ((l.drop i).take n))) 0 - (j : Int)) && !s.2.2.2) = true := h7
    rw [e2, rdr_bad, ← hRl] at h7
    simp only [Bool.and_eq_true, decide_eq_true_iff, Bool.not_eq_true', decide_eq_false_iff_not] at h7
    have hj := nS_lt h7.1 h7.2
    have hns := nS_le (nsOf ((l.drop i).take n))
    have k1 := got h4 h1 h2 (s := s) e2 hz1
    have k2 := got h4 h1 h2 (s := z1.1) (congrArg Prod.fst k1) hz2
    exact got_pre h4 h1 h2 h3 (fun h => (ho h).2) hb (s := z2.1) (congrArg Prod.fst k2)
  · rename_i b0 h4 be br ye hye h5 y1 hy1 y2 hy2 y3 hy3 y4 hy4 bp y5 hy5 v hv h6 w1 hw1 u hu h7 z1 hz1 z2 hz2 z3 hz3 bs
    have h4 : 4 ≤ n := by have := of_decide_eq_false h4; omega
    have e4 : ((n : Int) - 4).toNat = n - 4 := by omega
    obtain ⟨j, s, on, vb, vq, vl, vc⟩ := u
    obtain ⟨e1, e2, e3⟩ : j ≤ nS (nsOf ((l.drop i).take n)) ∧ s = rdr i (n - 4) c (6 + 2 * nB (nsOf ((l.drop i).take n)) + 9 * j) ∧ Grw (slts (nsOf ((l.drop i).take n)) j) vl on j vc := hu
    have h7 : (decide (0 < (nsOf ((l.drop i).take n)).getD (5 + 2 * nB (nsOf ((l.drop i).take n))) 0 - (j : Int)) && !s.2.2.2) = true := h7
    rw [e2, rdr_bad, ← hRl] at h7
    simp only [Bool.and_eq_true, decide_eq_true_iff, Bool.not_eq_true', decide_eq_false_iff_not] at h7
    have hj := nS_lt h7.1 h7.2
    have hns := nS_le (nsOf ((l.drop i).take n))
    have k1 := got h4 h1 h2 (s := s) e2 hz1
    have k2 := got h4 h1 h2 (s := z1.1) (congrArg Prod.fst k1) hz2
    have k3 := got h4 h1 h2 (s := z2.1) (congrArg Prod.fst k2) hz3
    exact got_pre h4 h1 h2 h3 (fun h => (ho h).2) hb (s := z3.1) (congrArg Prod.fst k3)
  · rename_i b0 h4 be br ye hye h5 y1 hy1 y2 hy2 y3 hy3 y4 hy4 bp y5 hy5 v hv h6 w1 hw1 u hu h7 z1 hz1 z2 hz2 z3 hz3 bs z4 hz4
    have h4 : 4 ≤ n := by have := of_decide_eq_false h4; omega
    have e4 : ((n : Int) - 4).toNat = n - 4 := by omega
    obtain ⟨j, s, on, vb, vq, vl, vc⟩ := u
    obtain ⟨e1, e2, e3⟩ : j ≤ nS (nsOf ((l.drop i).take n)) ∧ s = rdr i (n - 4) c (6 + 2 * nB (nsOf ((l.drop i).take n)) + 9 * j) ∧ Grw (slts (nsOf ((l.drop i).take n)) j) vl on j vc := hu
    have h7 : (decide (0 < (nsOf ((l.drop i).take n)).getD (5 + 2 * nB (nsOf ((l.drop i).take n))) 0 - (j : Int)) && !s.2.2.2) = true := h7
    rw [e2, rdr_bad, ← hRl] at h7
    simp only [Bool.and_eq_true, decide_eq_true_iff, Bool.not_eq_true', decide_eq_false_iff_not] at h7
    have hj := nS_lt h7.1 h7.2
    have hns := nS_le (nsOf ((l.drop i).take n))
    have k1 := got h4 h1 h2 (s := s) e2 hz1
    have k2 := got h4 h1 h2 (s := z1.1) (congrArg Prod.fst k1) hz2
    have k3 := got h4 h1 h2 (s := z2.1) (congrArg Prod.fst k2) hz3
    have k4 := got h4 h1 h2 (s := z3.1) (congrArg Prod.fst k3) hz4
    exact got_pre h4 h1 h2 h3 (fun h => (ho h).2) hb (s := z4.1) (congrArg Prod.fst k4)
  · rename_i b0 h4 be br ye hye h5 y1 hy1 y2 hy2 y3 hy3 y4 hy4 bp y5 hy5 v hv h6 w1 hw1 u hu h7 z1 hz1 z2 hz2 z3 hz3 bs z4 hz4 z5 hz5
    have h4 : 4 ≤ n := by have := of_decide_eq_false h4; omega
    have e4 : ((n : Int) - 4).toNat = n - 4 := by omega
    obtain ⟨j, s, on, vb, vq, vl, vc⟩ := u
    obtain ⟨e1, e2, e3⟩ : j ≤ nS (nsOf ((l.drop i).take n)) ∧ s = rdr i (n - 4) c (6 + 2 * nB (nsOf ((l.drop i).take n)) + 9 * j) ∧ Grw (slts (nsOf ((l.drop i).take n)) j) vl on j vc := hu
    have h7 : (decide (0 < (nsOf ((l.drop i).take n)).getD (5 + 2 * nB (nsOf ((l.drop i).take n))) 0 - (j : Int)) && !s.2.2.2) = true := h7
    rw [e2, rdr_bad, ← hRl] at h7
    simp only [Bool.and_eq_true, decide_eq_true_iff, Bool.not_eq_true', decide_eq_false_iff_not] at h7
    have hj := nS_lt h7.1 h7.2
    have hns := nS_le (nsOf ((l.drop i).take n))
    have k1 := got h4 h1 h2 (s := s) e2 hz1
    have k2 := got h4 h1 h2 (s := z1.1) (congrArg Prod.fst k1) hz2
    have k3 := got h4 h1 h2 (s := z2.1) (congrArg Prod.fst k2) hz3
    have k4 := got h4 h1 h2 (s := z3.1) (congrArg Prod.fst k3) hz4
    have k5 := got h4 h1 h2 (s := z4.1) (congrArg Prod.fst k4) hz5
    exact got_pre h4 h1 h2 h3 (fun h => (ho h).2) hb (s := z5.1) (congrArg Prod.fst k5)
  · rename_i b0 h4 be br ye hye h5 y1 hy1 y2 hy2 y3 hy3 y4 hy4 bp y5 hy5 v hv h6 w1 hw1 u hu h7 z1 hz1 z2 hz2 z3 hz3 bs z4 hz4 z5 hz5 z6 hz6
    have h4 : 4 ≤ n := by have := of_decide_eq_false h4; omega
    have e4 : ((n : Int) - 4).toNat = n - 4 := by omega
    obtain ⟨j, s, on, vb, vq, vl, vc⟩ := u
    obtain ⟨e1, e2, e3⟩ : j ≤ nS (nsOf ((l.drop i).take n)) ∧ s = rdr i (n - 4) c (6 + 2 * nB (nsOf ((l.drop i).take n)) + 9 * j) ∧ Grw (slts (nsOf ((l.drop i).take n)) j) vl on j vc := hu
    have h7 : (decide (0 < (nsOf ((l.drop i).take n)).getD (5 + 2 * nB (nsOf ((l.drop i).take n))) 0 - (j : Int)) && !s.2.2.2) = true := h7
    rw [e2, rdr_bad, ← hRl] at h7
    simp only [Bool.and_eq_true, decide_eq_true_iff, Bool.not_eq_true', decide_eq_false_iff_not] at h7
    have hj := nS_lt h7.1 h7.2
    have hns := nS_le (nsOf ((l.drop i).take n))
    have k1 := got h4 h1 h2 (s := s) e2 hz1
    have k2 := got h4 h1 h2 (s := z1.1) (congrArg Prod.fst k1) hz2
    have k3 := got h4 h1 h2 (s := z2.1) (congrArg Prod.fst k2) hz3
    have k4 := got h4 h1 h2 (s := z3.1) (congrArg Prod.fst k3) hz4
    have k5 := got h4 h1 h2 (s := z4.1) (congrArg Prod.fst k4) hz5
    have k6 := got h4 h1 h2 (s := z5.1) (congrArg Prod.fst k5) hz6
    exact got_pre h4 h1 h2 h3 (fun h => (ho h).2) hb (s := z6.1) (congrArg Prod.fst k6)
  · rename_i b0 h4 be br ye hye h5 y1 hy1 y2 hy2 y3 hy3 y4 hy4 bp y5 hy5 v hv h6 w1 hw1 u hu h7 z1 hz1 z2 hz2 z3 hz3 bs z4 hz4 z5 hz5 z6 hz6 z7 hz7
    have h4 : 4 ≤ n := by have := of_decide_eq_false h4; omega
    have e4 : ((n : Int) - 4).toNat = n - 4 := by omega
    obtain ⟨j, s, on, vb, vq, vl, vc⟩ := u
    obtain ⟨e1, e2, e3⟩ : j ≤ nS (nsOf ((l.drop i).take n)) ∧ s = rdr i (n - 4) c (6 + 2 * nB (nsOf ((l.drop i).take n)) + 9 * j) ∧ Grw (slts (nsOf ((l.drop i).take n)) j) vl on j vc := hu
    have h7 : (decide (0 < (nsOf ((l.drop i).take n)).getD (5 + 2 * nB (nsOf ((l.drop i).take n))) 0 - (j : Int)) && !s.2.2.2) = true := h7
    rw [e2, rdr_bad, ← hRl] at h7
    simp only [Bool.and_eq_true, decide_eq_true_iff, Bool.not_eq_true', decide_eq_false_iff_not] at h7
    have hj := nS_lt h7.1 h7.2
    have hns := nS_le (nsOf ((l.drop i).take n))
    have k1 := got h4 h1 h2 (s := s) e2 hz1
    have k2 := got h4 h1 h2 (s := z1.1) (congrArg Prod.fst k1) hz2
    have k3 := got h4 h1 h2 (s := z2.1) (congrArg Prod.fst k2) hz3
    have k4 := got h4 h1 h2 (s := z3.1) (congrArg Prod.fst k3) hz4
    have k5 := got h4 h1 h2 (s := z4.1) (congrArg Prod.fst k4) hz5
    have k6 := got h4 h1 h2 (s := z5.1) (congrArg Prod.fst k5) hz6
    have k7 := got h4 h1 h2 (s := z6.1) (congrArg Prod.fst k6) hz7
    exact got_pre h4 h1 h2 h3 (fun h => (ho h).2) hb (s := z7.1) (congrArg Prod.fst k7)
  · rename_i b0 h4 be br ye hye h5 y1 hy1 y2 hy2 y3 hy3 y4 hy4 bp y5 hy5 v hv h6 w1 hw1 u hu h7 z1 hz1 z2 hz2 z3 hz3 bs z4 hz4 z5 hz5 z6 hz6 z7 hz7 z8 hz8
    have h4 : 4 ≤ n := by have := of_decide_eq_false h4; omega
    have e4 : ((n : Int) - 4).toNat = n - 4 := by omega
    obtain ⟨j, s, on, vb, vq, vl, vc⟩ := u
    obtain ⟨e1, e2, e3⟩ : j ≤ nS (nsOf ((l.drop i).take n)) ∧ s = rdr i (n - 4) c (6 + 2 * nB (nsOf ((l.drop i).take n)) + 9 * j) ∧ Grw (slts (nsOf ((l.drop i).take n)) j) vl on j vc := hu
    have h7 : (decide (0 < (nsOf ((l.drop i).take n)).getD (5 + 2 * nB (nsOf ((l.drop i).take n))) 0 - (j : Int)) && !s.2.2.2) = true := h7
    rw [e2, rdr_bad, ← hRl] at h7
    simp only [Bool.and_eq_true, decide_eq_true_iff, Bool.not_eq_true', decide_eq_false_iff_not] at h7
    have hj := nS_lt h7.1 h7.2
    have hns := nS_le (nsOf ((l.drop i).take n))
    have k1 := got h4 h1 h2 (s := s) e2 hz1
    have k2 := got h4 h1 h2 (s := z1.1) (congrArg Prod.fst k1) hz2
    have k3 := got h4 h1 h2 (s := z2.1) (congrArg Prod.fst k2) hz3
    have k4 := got h4 h1 h2 (s := z3.1) (congrArg Prod.fst k3) hz4
    have k5 := got h4 h1 h2 (s := z4.1) (congrArg Prod.fst k4) hz5
    have k6 := got h4 h1 h2 (s := z5.1) (congrArg Prod.fst k5) hz6
    have k7 := got h4 h1 h2 (s := z6.1) (congrArg Prod.fst k6) hz7
    have k8 := got h4 h1 h2 (s := z7.1) (congrArg Prod.fst k7) hz8
    exact got_pre h4 h1 h2 h3 (fun h => (ho h).2) hb (s := z8.1) (congrArg Prod.fst k8)
  · rename_i b0 h4 be br ye hye h5 y1 hy1 y2 hy2 y3 hy3 y4 hy4 bp y5 hy5 v hv h6 w1 hw1 u hu h7 z1 hz1 z2 hz2 z3 hz3 bs z4 hz4 z5 hz5 z6 hz6 z7 hz7 z8 hz8 z9 hz9 bk
    have h4 : 4 ≤ n := by have := of_decide_eq_false h4; omega
    have e4 : ((n : Int) - 4).toNat = n - 4 := by omega
    obtain ⟨j, s, on, vb, vq, vl, vc⟩ := u
    obtain ⟨e1, e2, e3⟩ : j ≤ nS (nsOf ((l.drop i).take n)) ∧ s = rdr i (n - 4) c (6 + 2 * nB (nsOf ((l.drop i).take n)) + 9 * j) ∧ Grw (slts (nsOf ((l.drop i).take n)) j) vl on j vc := hu
    have h7 : (decide (0 < (nsOf ((l.drop i).take n)).getD (5 + 2 * nB (nsOf ((l.drop i).take n))) 0 - (j : Int)) && !s.2.2.2) = true := h7
    rw [e2, rdr_bad, ← hRl] at h7
    simp only [Bool.and_eq_true, decide_eq_true_iff, Bool.not_eq_true', decide_eq_false_iff_not] at h7
    have hj := nS_lt h7.1 h7.2
    have hns := nS_le (nsOf ((l.drop i).take n))
    obtain ⟨f1, f2, f3, f4, f5⟩ := e3
    rw [by88]
    exact ⟨f3, by show 0 + vc ≤ vl.length; omega, Nat.le_refl 1, by show (j + 1) * 72 ≤ _; omega⟩
  · rename_i b0 h4 be br ye hye h5 y1 hy1 y2 hy2 y3 hy3 y4 hy4 bp y5 hy5 v hv h6 w1 hw1 u hu h7 z1 hz1 z2 hz2 z3 hz3 bs z4 hz4 z5 hz5 z6 hz6 z7 hz7 z8 hz8 z9 hz9 bk
    have h4 : 4 ≤ n := by have := of_decide_eq_false h4; omega
    have e4 : ((n : Int) - 4).toNat = n - 4 := by omega
    obtain ⟨j, s, on, vb, vq, vl, vc⟩ := u
    obtain ⟨e1, e2, e3⟩ : j ≤ nS (nsOf ((l.drop i).take n)) ∧ s = rdr i (n - 4) c (6 + 2 * nB (nsOf ((l.drop i).take n)) + 9 * j) ∧ Grw (slts (nsOf ((l.drop i).take n)) j) vl on j vc := hu
    have h7 : (decide (0 < (nsOf ((l.drop i).take n)).getD (5 + 2 * nB (nsOf ((l.drop i).take n))) 0 - (j : Int)) && !s.2.2.2) = true := h7
    rw [e2, rdr_bad, ← hRl] at h7
    simp only [Bool.and_eq_true, decide_eq_true_iff, Bool.not_eq_true', decide_eq_false_iff_not] at h7
    have hj := nS_lt h7.1 h7.2
    have hns := nS_le (nsOf ((l.drop i).take n))
    exact e3.2.2.2.2
  · rename_i b0 h4 be br ye hye h5 y1 hy1 y2 hy2 y3 hy3 y4 hy4 bp y5 hy5 v hv h6 w1 hw1 u hu h7 z1 hz1 z2 hz2 z3 hz3 bs z4 hz4 z5 hz5 z6 hz6 z7 hz7 z8 hz8 z9 hz9 bk b9 q9 sp cap m1 m2
    have h4 : 4 ≤ n := by have := of_decide_eq_false h4; omega
    have e4 : ((n : Int) - 4).toNat = n - 4 := by omega
    obtain ⟨j, s, on, vb, vq, vl, vc⟩ := u
    obtain ⟨e1, e2, e3⟩ : j ≤ nS (nsOf ((l.drop i).take n)) ∧ s = rdr i (n - 4) c (6 + 2 * nB (nsOf ((l.drop i).take n)) + 9 * j) ∧ Grw (slts (nsOf ((l.drop i).take n)) j) vl on j vc := hu
    have h7 : (decide (0 < (nsOf ((l.drop i).take n)).getD (5 + 2 * nB (nsOf ((l.drop i).take n))) 0 - (j : Int)) && !s.2.2.2) = true := h7
    rw [e2, rdr_bad, ← hRl] at h7
    simp only [Bool.and_eq_true, decide_eq_true_iff, Bool.not_eq_true', decide_eq_false_iff_not] at h7
    have hj := nS_lt h7.1 h7.2
    have hns := nS_le (nsOf ((l.drop i).take n))
    have hu := ns_u32 (bv := ((l.drop i).take n)) hb (5 + 2 * nB (nsOf ((l.drop i).take n)))
    exact inR64 (by have := hu.1; show _ ≤ (nsOf ((l.drop i).take n)).getD (5 + 2 * nB (nsOf ((l.drop i).take n))) 0 - (j : Int) - 1; omega) (by have := hu.2; show (nsOf ((l.drop i).take n)).getD (5 + 2 * nB (nsOf ((l.drop i).take n))) 0 - (j : Int) - 1 ≤ _; omega)
  · rename_i b0 h4 be br ye hye h5 y1 hy1 y2 hy2 y3 hy3 y4 hy4 bp y5 hy5 v hv h6 w1 hw1 u hu h7 z1 hz1 z2 hz2 z3 hz3 bs z4 hz4 z5 hz5 z6 hz6 z7 hz7 z8 hz8 z9 hz9 bk b9 q9 sp cap m1 m2
    have h4 : 4 ≤ n := by have := of_decide_eq_false h4; omega
    have e4 : ((n : Int) - 4).toNat = n - 4 := by omega
    obtain ⟨j, s, on, vb, vq, vl, vc⟩ := u
    obtain ⟨e1, e2, e3⟩ : j ≤ nS (nsOf ((l.drop i).take n)) ∧ s = rdr i (n - 4) c (6 + 2 * nB (nsOf ((l.drop i).take n)) + 9 * j) ∧ Grw (slts (nsOf ((l.drop i).take n)) j) vl on j vc := hu
    have h7 : (decide (0 < (nsOf ((l.drop i).take n)).getD (5 + 2 * nB (nsOf ((l.drop i).take n))) 0 - (j : Int)) && !s.2.2.2) = true := h7
    rw [e2, rdr_bad, ← hRl] at h7
    simp only [Bool.and_eq_true, decide_eq_true_iff, Bool.not_eq_true', decide_eq_false_iff_not] at h7
    have hj := nS_lt h7.1 h7.2
    have hns := nS_le (nsOf ((l.drop i).take n))
    have k1 := got h4 h1 h2 (s := s) e2 hz1
    have k2 := got h4 h1 h2 (s := z1.1) (congrArg Prod.fst k1) hz2
    have k3 := got h4 h1 h2 (s := z2.1) (congrArg Prod.fst k2) hz3
    have k4 := got h4 h1 h2 (s := z3.1) (congrArg Prod.fst k3) hz4
    have k5 := got h4 h1 h2 (s := z4.1) (congrArg Prod.fst k4) hz5
    have k6 := got h4 h1 h2 (s := z5.1) (congrArg Prod.fst k5) hz6
    have k7 := got h4 h1 h2 (s := z6.1) (congrArg Prod.fst k6) hz7
    have k8 := got h4 h1 h2 (s := z7.1) (congrArg Prod.fst k7) hz8
    have k9 := got h4 h1 h2 (s := z8.1) (congrArg Prod.fst k8) hz9
    subst k9 k8 k7 k6 k5 k4 k3 k2 k1 e2
    have e5 := e3.app (x := slotAt (nsOf ((l.drop i).take n)) (6 + 2 * nB (nsOf ((l.drop i).take n))) j) (sp := sp) m1 m2
    rw [← slts_next] at e5
    refine Stands.one (j + 1, rdr i (n - 4) c (6 + 2 * nB (nsOf ((l.drop i).take n)) + 9 * j + 1 + 1 + 1 + 1 + 1 + 1 + 1 + 1 + 1), true, b9, q9, vl.take j ++ [slotAt (nsOf ((l.drop i).take n)) (6 + 2 * nB (nsOf ((l.drop i).take n))) j] ++ sp, cap) ⟨⟨hj, rfl, e5⟩, ?_, ?_⟩
    · show nS (nsOf ((l.drop i).take n)) - (j + 1) < nS (nsOf ((l.drop i).take n)) - j
      omega
    ((conv => (arg 1; reduce)); with_reducible repeat' (first | exact Tr.yes_h | refine Tr.and_h ?_ ?_ | refine Tr.imp_h fun _ => ?_ | refine Tr.all_h fun _ => ?_ | refine Tr.lf_h ?_))
    all_goals (first | first | (show Region.lexB _ _ = true; kernel_rfl) | (show planned _ _ = true; kernel_rfl) | exact rfl | exact True.intro | ((try dsimp only [imp, C0, cG, cInt, cPl, cSlot, cPg, rwCodec, cRaw] at *); (try refine inR64 ?_ ?_) <;> (try simp only [List.length_set, List.length_append, List.length_take, List.length_drop]) <;> omega))
  · rename_i b0 h4 be br ye hye h5 y1 hy1 y2 hy2 y3 hy3 y4 hy4 bp y5 hy5 v hv h6 w1 hw1 u hu h7 h8
    have h4 : 4 ≤ n := by have := of_decide_eq_false h4; omega
    have e4 : ((n : Int) - 4).toNat = n - 4 := by omega
    obtain ⟨jb, sb, onb, bb, qb, lb, cb⟩ := v
    obtain ⟨r1, r2, r3⟩ : jb ≤ nB (nsOf ((l.drop i).take n)) ∧ sb = rdr i (n - 4) c (5 + 2 * jb) ∧ Grw (blks (nsOf ((l.drop i).take n)) jb) lb onb jb cb := hv
    have h6 : (decide (0 < (nsOf ((l.drop i).take n)).getD 4 0 - (jb : Int)) && !sb.2.2.2) = false := h6
    rw [r2, rdr_bad, ← hRl] at h6
    have hjb := nB_eq r1 h6
    obtain ⟨j, s, on, vb, vq, vl, vc⟩ := u
    obtain ⟨e1, e2, e3⟩ : j ≤ nS (nsOf ((l.drop i).take n)) ∧ s = rdr i (n - 4) c (6 + 2 * nB (nsOf ((l.drop i).take n)) + 9 * j) ∧ Grw (slts (nsOf ((l.drop i).take n)) j) vl on j vc := hu
    have h7 : (decide (0 < (nsOf ((l.drop i).take n)).getD (5 + 2 * nB (nsOf ((l.drop i).take n))) 0 - (j : Int)) && !s.2.2.2) = false := h7
    rw [e2, rdr_bad, ← hRl] at h7
    have hjs := nS_eq e1 h7
    have hnb := nB_le (nsOf ((l.drop i).take n))
    have hns := nS_le (nsOf ((l.drop i).take n))
    exact ⟨⟨r3.2.2.1, Nat.le_trans r3.2.2.1 r3.2.2.2.1, r3.2.2.2.2⟩, ⟨e3.2.2.1, Nat.le_trans e3.2.2.1 e3.2.2.2.1, e3.2.2.2.2⟩, by show jb ≤ _; omega, by show j ≤ _; omega⟩
  · rename_i b0 h4 be br ye hye h5 y1 hy1 y2 hy2 y3 hy3 y4 hy4 bp y5 hy5 v hv h6 w1 hw1 u hu h7 h8
    have h4 : 4 ≤ n := by have := of_decide_eq_false h4; omega
    have e4 : ((n : Int) - 4).toNat = n - 4 := by omega
    obtain ⟨jb, sb, onb, bb, qb, lb, cb⟩ := v
    obtain ⟨r1, r2, r3⟩ : jb ≤ nB (nsOf ((l.drop i).take n)) ∧ sb = rdr i (n - 4) c (5 + 2 * jb) ∧ Grw (blks (nsOf ((l.drop i).take n)) jb) lb onb jb cb := hv
    have h6 : (decide (0 < (nsOf ((l.drop i).take n)).getD 4 0 - (jb : Int)) && !sb.2.2.2) = false := h6
    rw [r2, rdr_bad, ← hRl] at h6
    have hjb := nB_eq r1 h6
    obtain ⟨j, s, on, vb, vq, vl, vc⟩ := u
    obtain ⟨e1, e2, e3⟩ : j ≤ nS (nsOf ((l.drop i).take n)) ∧ s = rdr i (n - 4) c (6 + 2 * nB (nsOf ((l.drop i).take n)) + 9 * j) ∧ Grw (slts (nsOf ((l.drop i).take n)) j) vl on j vc := hu
    have h7 : (decide (0 < (nsOf ((l.drop i).take n)).getD (5 + 2 * nB (nsOf ((l.drop i).take n))) 0 - (j : Int)) && !s.2.2.2) = false := h7
    rw [e2, rdr_bad, ← hRl] at h7
    have hjs := nS_eq e1 h7
    have hnb := nB_le (nsOf ((l.drop i).take n))
    have hns := nS_le (nsOf ((l.drop i).take n))
    have hK : 6 + 2 * nB (nsOf ((l.drop i).take n)) + 9 * j = 6 + 2 * nB (nsOf ((l.drop i).take n)) + 9 * nS (nsOf ((l.drop i).take n)) := by rw [hjs]
    have e6 : lb.take jb = blks (nsOf ((l.drop i).take n)) (nB (nsOf ((l.drop i).take n))) := by rw [r3.2.1, hjb]
    have e7 : vl.take j = slts (nsOf ((l.drop i).take n)) (nS (nsOf ((l.drop i).take n))) := by rw [e3.2.1, hjs]
    have h8 : (s.2.2.2 || decide (0 < (s.2.1 : Int)) || !okP (hdR (nsOf ((l.drop i).take n))) (lb.take jb) (vl.take j)) = true := h8
    rw [e2, rdr_bad, rdr_rest, hK, e6, e7, ← hRl] at h8
    refine Ends.one () (fun h A B hp => ?_) ?_
    · obtain ⟨f1, f2, f3, f4, f5, f6⟩ := isPt_facts (bv := ((l.drop i).take n)) hp (by rw [hbl]; omega)
      rw [hbl] at f5
      rw [f6, f4] at h8
      simp only [Bool.not_true, Bool.or_false, Bool.or_eq_true, decide_eq_true_iff, Nat.min_self] at h8
      omega
    ((conv => (arg 1; reduce)); with_reducible repeat' (first | exact Tr.yes_h | refine Tr.and_h ?_ ?_ | refine Tr.imp_h fun _ => ?_ | refine Tr.all_h fun _ => ?_ | refine Tr.lf_h ?_))
    all_goals (first | first | (show Region.lexB _ _ = true; kernel_rfl) | (show planned _ _ = true; kernel_rfl) | exact rfl | exact True.intro | ((try dsimp only [imp, C0, cG, cInt, cPl, cSlot, cPg, rwCodec, cRaw] at *); (try refine inR64 ?_ ?_) <;> (try simp only [List.length_set, List.length_append, List.length_take, List.length_drop]) <;> omega))
  · rename_i b0 h4 be br ye hye h5 y1 hy1 y2 hy2 y3 hy3 y4 hy4 bp y5 hy5 v hv h6 w1 hw1 u hu h7 h8
    have h4 : 4 ≤ n := by have := of_decide_eq_false h4; omega
    have e4 : ((n : Int) - 4).toNat = n - 4 := by omega
    obtain ⟨jb, sb, onb, bb, qb, lb, cb⟩ := v
    obtain ⟨r1, r2, r3⟩ : jb ≤ nB (nsOf ((l.drop i).take n)) ∧ sb = rdr i (n - 4) c (5 + 2 * jb) ∧ Grw (blks (nsOf ((l.drop i).take n)) jb) lb onb jb cb := hv
    have h6 : (decide (0 < (nsOf ((l.drop i).take n)).getD 4 0 - (jb : Int)) && !sb.2.2.2) = false := h6
    rw [r2, rdr_bad, ← hRl] at h6
    have hjb := nB_eq r1 h6
    obtain ⟨j, s, on, vb, vq, vl, vc⟩ := u
    obtain ⟨e1, e2, e3⟩ : j ≤ nS (nsOf ((l.drop i).take n)) ∧ s = rdr i (n - 4) c (6 + 2 * nB (nsOf ((l.drop i).take n)) + 9 * j) ∧ Grw (slts (nsOf ((l.drop i).take n)) j) vl on j vc := hu
    have h7 : (decide (0 < (nsOf ((l.drop i).take n)).getD (5 + 2 * nB (nsOf ((l.drop i).take n))) 0 - (j : Int)) && !s.2.2.2) = false := h7
    rw [e2, rdr_bad, ← hRl] at h7
    have hjs := nS_eq e1 h7
    have hnb := nB_le (nsOf ((l.drop i).take n))
    have hns := nS_le (nsOf ((l.drop i).take n))
    have hye2 : ye.2 = nm ((l.drop i).take n) (((l.drop i).take n).length - 4) := by
      rw [e4] at hye
      rw [show ye = _ from hye]
      show gv l _ = _
      rw [hbl]
      exact end_get h4 h1 h2
    have hcr : (l.drop i).take (n - 4) = ((l.drop i).take n).take (((l.drop i).take n).length - 4) := by rw [hbl, List.take_take]; congr 1; omega
    have hK : 6 + 2 * nB (nsOf ((l.drop i).take n)) + 9 * j = 6 + 2 * nB (nsOf ((l.drop i).take n)) + 9 * nS (nsOf ((l.drop i).take n)) := by rw [hjs]
    have e6 : lb.take jb = blks (nsOf ((l.drop i).take n)) (nB (nsOf ((l.drop i).take n))) := by rw [r3.2.1, hjb]
    have e7 : vl.take j = slts (nsOf ((l.drop i).take n)) (nS (nsOf ((l.drop i).take n))) := by rw [e3.2.1, hjs]
    have h8 : (s.2.2.2 || decide (0 < (s.2.1 : Int)) || !okP (hdR (nsOf ((l.drop i).take n))) (lb.take jb) (vl.take j)) = false := h8
    rw [e2, rdr_bad, rdr_rest, hK, e6, e7, ← hRl] at h8
    have h5 : ¬ ¬ ye.2 = crc ((l.drop i).take ((n : Int) - 4).toNat) := of_decide_eq_false h5
    rw [e4, hcr, hye2] at h5
    simp only [Bool.or_eq_false_iff, decide_eq_false_iff_not, Bool.not_eq_false'] at h8
    obtain ⟨⟨f1, f2⟩, f3⟩ := h8
    have hp := isPt_of (bv := ((l.drop i).take n)) hb (by rw [hbl]; exact h4) (Decidable.of_not_not h5) (by omega) (by rw [hbl]; omega) f3
    refine Ends.next (Ends.one (hdR (nsOf ((l.drop i).take n)), (onb, bb, qb, lb, jb, cb), (on, vb, vq, vl, j, vc)) ⟨?_, ⟨r3.2.2.1, Nat.le_trans r3.2.2.1 r3.2.2.2.1, r3.2.2.2.2⟩, ⟨e3.2.2.1, Nat.le_trans e3.2.2.1 e3.2.2.2.1, e3.2.2.2.2⟩⟩ ?_)
    · show IsPt _ _ (lb.take jb) (vl.take j)
      rw [e6, e7]
      exact hp
    ((conv => (arg 1; reduce)); with_reducible repeat' (first | exact Tr.yes_h | refine Tr.and_h ?_ ?_ | refine Tr.imp_h fun _ => ?_ | refine Tr.all_h fun _ => ?_ | refine Tr.lf_h ?_))
    all_goals (first | first | (show Region.lexB _ _ = true; kernel_rfl) | (show planned _ _ = true; kernel_rfl) | exact rfl | exact True.intro | ((try dsimp only [imp, C0, cG, cInt, cPl, cSlot, cPg, rwCodec, cRaw] at *); (try refine inR64 ?_ ?_) <;> (try simp only [List.length_set, List.length_append, List.length_take, List.length_drop]) <;> omega))
def fcOpen : Fc Tryd.prog C0 where
  tg := .fn 16
  X := Bool × Nat × Nat × List Int × Nat × Nat × Nat
  args := fun (o, b, q, l, i, n, c) => [.sl 0 i n c]
  mem := fun (o, b, q, l, i, n, c) => [⟨b, q, 1, false, some o, .rows 5 l⟩]
  pre := fun (o, b, q, l, i, n, c) => n ≤ c ∧ i + c ≤ l.length ∧ n < 140737488355000 ∧ (o = false → n = 0 ∧ c = 0) ∧ Bys ((l.drop i).take n) ∧ n ≤ 1000000
  alts := fun (o, b, q, l, i, n, c) => [⟨Unit, fun _ => ∀ h A B, ¬ IsPt ((l.drop i).take n) h A B, fun _ => .tup [ptv (0, 0, 0, 0) .nils .nils, eV 0], fun _ => [⟨b, q, 1, false, some o, .rows 5 l⟩]⟩,
     ⟨Hd × (Bool × Nat × Nat × List Pl × Nat × Nat) × (Bool × Nat × Nat × List Slot × Nat × Nat), fun y => IsPt ((l.drop i).take n) y.1 (y.2.1.2.2.2.1.take y.2.1.2.2.2.2.1) (y.2.2.2.2.2.1.take y.2.2.2.2.2.2.1) ∧ Sq.ok y.2.1 ∧ Sq.ok y.2.2,
      fun y => .tup [ptv y.1 (.sl 1 0 y.2.1.2.2.2.2.1 y.2.1.2.2.2.2.2) (.sl 2 0 y.2.2.2.2.2.2.1 y.2.2.2.2.2.2.2), .nili],
      fun y => [⟨b, q, 1, false, some o, .rows 5 l⟩, ⟨y.2.1.2.1, y.2.1.2.2.1, 2, true, some y.2.1.1, .rows 87 y.2.1.2.2.2.1⟩, ⟨y.2.2.2.1, y.2.2.2.2.1, 9, true, some y.2.2.1, .rows 88 y.2.2.2.2.2.1⟩]⟩]
  mat vs m := match vs with
    | [.sl a i n c] => match nth m a with
      | ⟨b, q, _, _, g, .rows 5 l⟩ => some ((onOf g, b, q, l, i, n, c), [a])
      | _ => none
    | [.nils] => some ((false, 0, 0, [], 0, 0, 0), [m.length])
    | _ => none
  ok := fun (o, b, q, l, i, n, c) h => open_ok o b q l i n c h.1 h.2.1 h.2.2.1 h.2.2.2.1 h.2.2.2.2.1 h.2.2.2.2.2
end Go.Vx
set_option linter.unusedSectionVars false
set_option maxRecDepth 100000
set_option linter.unusedVariables false
set_option linter.unusedSimpArgs false
namespace Go.Vx
open Go Go.Proofs
variable [Gl]

theorem okP_none : okP (0, 0, 0, 0) [] [] = true := by
  have : cn 0 = true := cn_iff.2 (by decide)
  unfold okP okH
  simp [okSs, okBs, this]
abbrev P0 : List Int := bytesP (0, 0, 0, 0) [] []
theorem P0_len : P0.length = 28 := by rw [bytesP_len]; rfl
theorem P0_pcN : pcN P0.length 20 = 4 := by rw [P0_len]; rfl
theorem cn7 : cn 7 = true := cn_iff.2 (by decide)
structure Fst (y1 : Nat × Nat × List Int × Nat) (y2 : Nat × Nat × List (Rw Int) × Nat) : Prop where
  b : y1.2.2.1.take P0.length = P0
  c : P0.length ≤ y1.2.2.2 ∧ y1.2.2.2 ≤ y1.2.2.1.length
  g : 4 ≤ y2.2.2.2 ∧ y2.2.2.2 ≤ y2.2.2.1.length
  r : ∀ r ∈ y2.2.2.1.take 4, Rok r ∧ Bys r.l
  j : JOk (rowL y2.2.2.1 0 4) 7 28
  o : (jout (rowL y2.2.2.1 0 4)).take 28 = P0
theorem fst_of {y1 : Nat × Nat × List Int × Nat} {y2 : Nat × Nat × List (Rw Int) × Nat} (h1 : Gr P0 y1.2.2.1 P0.length y1.2.2.2) (h2 : Grw (y2.2.2.1.take (pcN P0.length 20)) y2.2.2.1 true (pcN P0.length 20) y2.2.2.2) (h3 : Prs (y1.2.2.1.take P0.length) 20 7 y2.2.2.1 (pcN P0.length 20)) : Fst y1 y2 := by
  rw [h1.2.1] at h3
  have J := jb1 (by decide) (by decide) cn7 (by rw [P0_len]; decide) h3
  have R := prs_rows (bytesP_byt _ _ _) h3
  rw [P0_pcN] at h2 R J
  rw [P0_len] at J
  exact ⟨h1.2.1, h1.2.2, ⟨h2.2.2.1, h2.2.2.2.1⟩, R, J.1, J.2⟩
theorem first_ok : Tells (C := C0) Tryd.prog (.fn 8) [] [] (.bool .t) := by
  refine loc_pc (P := Tryd.prog) (E := ⟨[fcBytes, fcPieces, fcJoin, fcOpen], [pcSb], 62, [], [], []⟩) (L := []) mix Tryd.func8 rfl (by kernel_rfl) (by kernel_rfl) rfl rfl ?_
  ((conv => (arg 1; reduce)); with_reducible repeat' (first | exact Tr.yes_h | refine Tr.and_h ?_ ?_ | refine Tr.imp_h fun _ => ?_ | refine Tr.all_h fun _ => ?_ | refine Tr.lf_h ?_))
  all_goals try (first | first | (show Region.lexB _ _ = true; kernel_rfl) | (show planned _ _ = true; kernel_rfl) | exact rfl | exact True.intro | ((try dsimp only [imp, C0, cG, cInt, cPl, cSlot, cPg, rwCodec, cRaw] at *); (try refine inR64 ?_ ?_) <;> (try simp only [List.length_set, List.length_append, List.length_take, List.length_drop]) <;> omega))
  · exact ⟨⟨Nat.le_refl _, Nat.le_refl _, fun _ => ⟨rfl, rfl⟩⟩, ⟨Nat.le_refl _, Nat.le_refl _, fun _ => ⟨rfl, rfl⟩⟩, by decide, by decide⟩
  · rename_i y1 h1
    have h1 : okP (0, 0, 0, 0) [] [] = false := h1
    rw [okP_none] at h1; cases h1
  · rename_i y1 h1 y2 h2
    have h1 : okP (0, 0, 0, 0) [] [] = false := h1
    rw [okP_none] at h1; cases h1
  · rename_i y1 h1 y2 h2
    have h1 : okP (0, 0, 0, 0) [] [] = false := h1
    rw [okP_none] at h1; cases h1
  · rename_i y1 h1
    have e := h1.2.2.2
    exact ⟨⟨e.1, Nat.le_trans e.1 e.2, fun h => Bool.noConfusion h⟩, by show P0.length ≤ 1000000; rw [P0_len]; decide⟩
  · rename_i y1 h1 y2 h2
    have h2 : cn 7 = false := h2.2
    rw [cn7] at h2; cases h2
  · rename_i y1 h1 y2 h2
    have h2 : 64 * 8 < P0.length := h2.2.2
    rw [P0_len] at h2; omega
  · rename_i y1 h1 y2 h2 d1
    have d1 : (decide ((P0.length : Int) ≠ 28) || decide (((pcN P0.length 20 : Nat) : Int) ≠ 4)) = true := d1
    rw [P0_pcN, P0_len] at d1; cases d1
  · rename_i y1 h1 y2 h2 d1
    have F : Fst y1 y2 := fst_of h1.2 h2.2.2.2.1 h2.2.2.2.2
    have e4 : pcN P0.length (20 : Int).toNat = 4 := P0_pcN
    show 0 + pcN P0.length (20 : Int).toNat ≤ y2.2.2.1.length ∧ (_ → pcN P0.length (20 : Int).toNat = 0 ∧ _) ∧ (∀ r ∈ (y2.2.2.1.drop 0).take (pcN P0.length (20 : Int).toNat), _) ∧ pcN P0.length (20 : Int).toNat ≤ 1000000
    rw [e4]
    exact ⟨by have := F.g; omega, fun h => Bool.noConfusion h, F.r, by decide⟩
  · exact ⟨Nat.le_refl _, Nat.le_refl _, by decide, fun _ => ⟨rfl, rfl⟩, (show Bys [] from fun x hx => nomatch hx), by decide⟩
  · rename_i y1 h1 y2 h2 d1 y3 h3 y4 h4 b4
    have F : Fst y1 y2 := fst_of h1.2 h2.2.2.2.1 h2.2.2.2.2
    have e4 : pcN P0.length (20 : Int).toNat = 4 := P0_pcN
    have h3 : jbad (rowL y2.2.2.1 0 (pcN P0.length (20 : Int).toNat)) := h3
    rw [e4] at h3
    exact absurd h3 F.j.1
  · rename_i y1 h1 y2 h2 d1 y3 h3 y4 h4 b4
    have F : Fst y1 y2 := fst_of h1.2 h2.2.2.2.1 h2.2.2.2.2
    have e4 : pcN P0.length (20 : Int).toNat = 4 := P0_pcN
    have h3 : jbad (rowL y2.2.2.1 0 (pcN P0.length (20 : Int).toNat)) := h3
    rw [e4] at h3
    exact absurd h3 F.j.1
  · exact ⟨Nat.le_refl _, Nat.le_refl _, by decide, fun _ => ⟨rfl, rfl⟩, (show Bys [] from fun x hx => nomatch hx), by decide⟩
  · rename_i y1 h1 y2 h2 d1 y3 h3 y4 h4 b4
    have F : Fst y1 y2 := fst_of h1.2 h2.2.2.2.1 h2.2.2.2.2
    have e4 : pcN P0.length (20 : Int).toNat = 4 := P0_pcN
    have h3 : ∀ a s, ¬ JOk (rowL y2.2.2.1 0 (pcN P0.length (20 : Int).toNat)) a s := h3.2
    rw [e4] at h3
    exact absurd F.j (h3 _ _)
  · rename_i y1 h1 y2 h2 d1 y3 h3 y4 h4 b4
    have F : Fst y1 y2 := fst_of h1.2 h2.2.2.2.1 h2.2.2.2.2
    have e4 : pcN P0.length (20 : Int).toNat = 4 := P0_pcN
    have h3 : ∀ a s, ¬ JOk (rowL y2.2.2.1 0 (pcN P0.length (20 : Int).toNat)) a s := h3.2
    rw [e4] at h3
    exact absurd F.j (h3 _ _)
  · rename_i y1 h1 y2 h2 d1 y3 h3
    have F : Fst y1 y2 := fst_of h1.2 h2.2.2.2.1 h2.2.2.2.2
    have e4 : pcN P0.length (20 : Int).toNat = 4 := P0_pcN
    have h3a : JOk (rowL y2.2.2.1 0 (pcN P0.length (20 : Int).toNat)) y3.1.1 y3.1.2 := h3.1
    have h3b : y3.1.2 ≤ y3.2.2.2.length := h3.2.1
    have h3c : y3.2.2.2.take y3.1.2 = (jout (rowL y2.2.2.1 0 (pcN P0.length (20 : Int).toNat))).take y3.1.2 := h3.2.2
    rw [e4] at h3a h3c
    obtain ⟨u1, u2⟩ := jok_uniq h3a F.j
    have u3 : y3.1.2 = 28 := by omega
    rw [u3, F.o] at h3c
    show y3.1.2 ≤ y3.1.2 ∧ 0 + y3.1.2 ≤ y3.2.2.2.length ∧ y3.1.2 < 140737488355000 ∧ (_ → _ ∧ _) ∧ Bys ((y3.2.2.2.drop 0).take y3.1.2) ∧ y3.1.2 ≤ 1000000
    rw [List.drop_zero, u3, h3c]
    exact ⟨Nat.le_refl _, by omega, by decide, fun h => Bool.noConfusion h, bytesP_byt _ _ _, by decide⟩
  · rename_i y1 h1 y2 h2 d1 y3 h3 y4 h4 b4 d4
    have F : Fst y1 y2 := fst_of h1.2 h2.2.2.2.1 h2.2.2.2.2
    have e4 : pcN P0.length (20 : Int).toNat = 4 := P0_pcN
    have h3a : JOk (rowL y2.2.2.1 0 (pcN P0.length (20 : Int).toNat)) y3.1.1 y3.1.2 := h3.1
    have h3b : y3.1.2 ≤ y3.2.2.2.length := h3.2.1
    have h3c : y3.2.2.2.take y3.1.2 = (jout (rowL y2.2.2.1 0 (pcN P0.length (20 : Int).toNat))).take y3.1.2 := h3.2.2
    rw [e4] at h3a h3c
    obtain ⟨u1, u2⟩ := jok_uniq h3a F.j
    have u3 : y3.1.2 = 28 := by omega
    rw [u3, F.o] at h3c
    exact absurd (show IsPt ((y3.2.2.2.drop 0).take y3.1.2) (0, 0, 0, 0) [] [] by rw [u3, List.drop_zero, h3c]; exact ⟨okP_none, rfl⟩) (h4 _ _ _)
  · rename_i y1 h1 y2 h2 d1 y3 h3 y4 h4 b4
    have F : Fst y1 y2 := fst_of h1.2 h2.2.2.2.1 h2.2.2.2.2
    have e4 : pcN P0.length (20 : Int).toNat = 4 := P0_pcN
    have h3a : JOk (rowL y2.2.2.1 0 (pcN P0.length (20 : Int).toNat)) y3.1.1 y3.1.2 := h3.1
    have h3b : y3.1.2 ≤ y3.2.2.2.length := h3.2.1
    have h3c : y3.2.2.2.take y3.1.2 = (jout (rowL y2.2.2.1 0 (pcN P0.length (20 : Int).toNat))).take y3.1.2 := h3.2.2
    rw [e4] at h3a h3c
    obtain ⟨u1, u2⟩ := jok_uniq h3a F.j
    have u3 : y3.1.2 = 28 := by omega
    rw [u3, F.o] at h3c
    exact absurd (show IsPt ((y3.2.2.2.drop 0).take y3.1.2) (0, 0, 0, 0) [] [] by rw [u3, List.drop_zero, h3c]; exact ⟨okP_none, rfl⟩) (h4 _ _ _)
  · rename_i y1 h1 y2 h2 d1 y3 h3 y4 h4 b4 d4
    have F : Fst y1 y2 := fst_of h1.2 h2.2.2.2.1 h2.2.2.2.2
    have e4 : pcN P0.length (20 : Int).toNat = 4 := P0_pcN
    have h3a : JOk (rowL y2.2.2.1 0 (pcN P0.length (20 : Int).toNat)) y3.1.1 y3.1.2 := h3.1
    have h3b : y3.1.2 ≤ y3.2.2.2.length := h3.2.1
    have h3c : y3.2.2.2.take y3.1.2 = (jout (rowL y2.2.2.1 0 (pcN P0.length (20 : Int).toNat))).take y3.1.2 := h3.2.2
    rw [e4] at h3a h3c
    obtain ⟨u1, u2⟩ := jok_uniq h3a F.j
    have u3 : y3.1.2 = 28 := by omega
    rw [u3, F.o] at h3c
    show 0 + P0.length ≤ y1.2.2.1.length ∧ 0 + y3.1.2 ≤ y3.2.2.2.length ∧ (_ → _ ∧ _) ∧ (_ → _ ∧ _) ∧ Bys ((y1.2.2.1.drop 0).take P0.length) ∧ Bys ((y3.2.2.2.drop 0).take y3.1.2)
    rw [List.drop_zero, List.drop_zero, u3, h3c, F.b]
    exact ⟨by have := F.c; omega, by omega, fun h => Bool.noConfusion h, fun h => Bool.noConfusion h, bytesP_byt _ _ _, bytesP_byt _ _ _⟩
  · rename_i y1 h1 y2 h2 d1 y3 h3 y4 h4 b4
    have F : Fst y1 y2 := fst_of h1.2 h2.2.2.2.1 h2.2.2.2.2
    have e4 : pcN P0.length (20 : Int).toNat = 4 := P0_pcN
    have h3a : JOk (rowL y2.2.2.1 0 (pcN P0.length (20 : Int).toNat)) y3.1.1 y3.1.2 := h3.1
    have h3b : y3.1.2 ≤ y3.2.2.2.length := h3.2.1
    have h3c : y3.2.2.2.take y3.1.2 = (jout (rowL y2.2.2.1 0 (pcN P0.length (20 : Int).toNat))).take y3.1.2 := h3.2.2
    rw [e4] at h3a h3c
    obtain ⟨u1, u2⟩ := jok_uniq h3a F.j
    have u3 : y3.1.2 = 28 := by omega
    rw [u3, F.o] at h3c
    show (decide (y3.1.1 = 7) && ieq (((y1.2.2.1.drop 0)).take P0.length) ((y3.2.2.2.drop 0).take y3.1.2)) = true
    rw [u1, u3, List.drop_zero, List.drop_zero, h3c, F.b]
    simp [ieq_yes]
def pcFirst : Pc Tryd.prog C0 where
  tg := .fn 8
  X := Unit
  args := fun _ => []
  mem := fun _ => []
  pre := fun _ => True
  res := fun _ => .bool .t
  mat vs m := some ((), [])
  ok := fun _ _ => first_ok
end Go.Vx
