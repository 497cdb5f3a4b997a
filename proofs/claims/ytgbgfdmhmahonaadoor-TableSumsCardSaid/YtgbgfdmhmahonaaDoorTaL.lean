/-
  Round 20: TableMoves: the walk.
  Conditions: none.
-/
import Derived.Test.YtgbgfdmhmahonaaDoorTaK
set_option linter.unusedSectionVars false
set_option maxRecDepth 100000
set_option linter.unusedVariables false
set_option linter.unusedSimpArgs false
namespace Go.Vx
open Go Go.Proofs
variable [Gl]

abbrev an (x m : Int) : Int := ibit .and .i64 x m
/-- The table's maps, wherever they lie. -/
abbrev tz (y : Ks × Nat × Ps × Nat) : Tb := ⟨0, 0, 8, 8, 0, y.1, y.2.1, 0, y.2.2.1, y.2.2.2⟩
theorem Rep.re {a b : Nat} {c d : Int} {e f a' b' : Nat} {c' d' : Int} {e' f' : Nat} {kl : Ks} {kc : Nat} {pl : Ps} {pc : Nat} (h : Rep ⟨a, b, c, d, e, kl, kc, f, pl, pc⟩) : Rep ⟨a', b', c', d', e', kl, kc, f', pl, pc⟩ := ⟨h.ks, h.pp, h.ok, h.bk, h.bp⟩
theorem Rep.of {x x' : Tb} (h : Rep x) (e1 : x'.kl = x.kl) (e2 : x'.kc = x.kc) (e3 : x'.pl = x.pl) (e4 : x'.pc = x.pc) : Rep x' := by
  obtain ⟨a, b, c, d, e⟩ := h
  exact ⟨by rw [e1]; exact a, by rw [e1, e3]; exact b, by rw [e1]; exact c, by rw [e1, e2]; exact d, by rw [e3, e4]; exact e⟩
structure Mv (K : Int) (n i : Nat) (y : Ks × Nat × Ps × Nat) (p : Pl) : Prop where
  le : i ≤ n
  rep : Rep (tz y)
  st : (i = 0 ∧ tl (tz y) = []) ∨ (0 < i ∧ ∃ m, tl (tz y) = [⟨K, p, m⟩] ∧ Sm ⟨K, p, m⟩ ∧ p.1 < 8 ∧ p.2 < 8)
def Mo (K : Int) (n : Nat) : Inv' C0 := ⟨10, Nat × (Ks × Nat × Ps × Nat) × Pl, fun (i, y, p) => [(12, .int .i64 (i : Int)), (11, .int .i64 (i : Int))],
  fun (i, y, p) m => match m with
    | [a, t, k, l, la] => [a, t, ⟨k.block, k.base, k.sz, k.wr, k.gl, .mp 3 53 y.1 y.2.1⟩, ⟨l.block, l.base, l.sz, l.wr, l.gl, .mp 30 3 y.2.2.1 y.2.2.2⟩, ⟨la.block, la.base, la.sz, la.wr, la.gl, .one [.int .i64 p.1, .int .i64 p.2]⟩]
    | m => m,
  fun (i, y, p) => Mv K n i y p, fun (i, _) => n - i⟩
theorem an_mod {x : Int} {m : Nat} (h0 : 0 ≤ x) (h1 : x < 2 ^ 63) (hm : m < 60) : an x ((2 : Int) ^ m - 1) = x % 2 ^ m := by
  obtain ⟨a, rfl⟩ := Int.eq_ofNat_of_zero_le h0
  have hp : (2 : Nat) ^ m ≤ 2 ^ 60 := Nat.pow_le_pow_right (by decide) (by omega)
  have hp1 : 1 ≤ (2 : Nat) ^ m := Nat.one_le_two_pow
  have ha : a < 2 ^ 63 := by
    have : ((a : Nat) : Int) < ((2 ^ 63 : Nat) : Int) := by simpa using h1
    exact Int.ofNat_lt.1 this
  have e1 : ((2 : Int) ^ m - 1) = ((2 ^ m - 1 : Nat) : Int) := by
    rw [Int.natCast_sub hp1]; simp
  show IntKind.i64.wrap ((BitVec.ofInt 64 (a : Int) &&& BitVec.ofInt 64 ((2 : Int) ^ m - 1)).toNat : Int) = _
  rw [e1]
  have e2 : (BitVec.ofInt 64 ((a : Nat) : Int)).toNat = a := by
    rw [BitVec.ofInt_natCast, BitVec.toNat_ofNat, Nat.mod_eq_of_lt (Nat.lt_of_lt_of_le ha (by decide))]
  have e3 : (BitVec.ofInt 64 ((2 ^ m - 1 : Nat) : Int)).toNat = 2 ^ m - 1 := by
    rw [BitVec.ofInt_natCast, BitVec.toNat_ofNat, Nat.mod_eq_of_lt]
    have : (2 : Nat) ^ 60 < 2 ^ 64 := by decide
    omega
  rw [BitVec.toNat_and, e2, e3, Nat.and_two_pow_sub_one_eq_mod]
  have hlt : a % 2 ^ m < 2 ^ m := Nat.mod_lt _ (by omega)
  have e4 : ((a : Int) % 2 ^ m) = ((a % 2 ^ m : Nat) : Int) := by simp
  rw [e4]
  generalize a % 2 ^ m = r at hlt
  have h60 : (2 : Nat) ^ 60 = 1152921504606846976 := by decide
  have hr : (r : Int) < 9223372036854775808 := by omega
  unfold IntKind.wrap
  simp [IntKind.bits, IntKind.signed]
  omega
theorem an_le (x : Int) (m : Nat) (hm : m < 60) : 0 ≤ an x ((2 : Int) ^ m - 1) ∧ an x ((2 : Int) ^ m - 1) < 2 ^ m := by
  have hp : (2 : Nat) ^ m ≤ 2 ^ 60 := Nat.pow_le_pow_right (by decide) (by omega)
  have hp1 : 1 ≤ (2 : Nat) ^ m := Nat.one_le_two_pow
  have e1 : ((2 : Int) ^ m - 1) = ((2 ^ m - 1 : Nat) : Int) := by
    rw [Int.natCast_sub hp1]; simp
  show 0 ≤ IntKind.i64.wrap ((BitVec.ofInt 64 x &&& BitVec.ofInt 64 ((2 : Int) ^ m - 1)).toNat : Int) ∧ IntKind.i64.wrap ((BitVec.ofInt 64 x &&& BitVec.ofInt 64 ((2 : Int) ^ m - 1)).toNat : Int) < 2 ^ m
  rw [e1]
  have e3 : (BitVec.ofInt 64 ((2 ^ m - 1 : Nat) : Int)).toNat = 2 ^ m - 1 := by
    rw [BitVec.ofInt_natCast, BitVec.toNat_ofNat, Nat.mod_eq_of_lt]
    have : (2 : Nat) ^ 60 < 2 ^ 64 := by decide
    omega
  rw [BitVec.toNat_and, e3, Nat.and_two_pow_sub_one_eq_mod]
  have hlt : (BitVec.ofInt 64 x).toNat % 2 ^ m < 2 ^ m := Nat.mod_lt _ (by omega)
  have e5 : ((2 : Int) ^ m) = ((2 ^ m : Nat) : Int) := by simp
  rw [e5]
  generalize (BitVec.ofInt 64 x).toNat % 2 ^ m = r at hlt
  have h60 : (2 : Nat) ^ 60 = 1152921504606846976 := by decide
  have hr : (r : Int) < 9223372036854775808 := by omega
  unfold IntKind.wrap
  simp [IntKind.bits, IntKind.signed]
  omega
theorem an7 (x : Int) : 0 ≤ an x 7 ∧ an x 7 < 8 := an_le x 3 (by decide)
theorem an1023 (x : Int) : 0 ≤ an x 1023 ∧ an x 1023 < 1024 := an_le x 10 (by decide)
theorem an7_mod {x : Int} (h0 : 0 ≤ x) (h1 : x < 100) : an x 7 = x % 8 := an_mod (m := 3) h0 (by omega) (by decide)
/-- A page that may be. -/
abbrev pg (p : Pl) : Pl := (an p.1 7, an p.2 7)
theorem Mv.fin {K : Int} {n i : Nat} {y : Ks × Nat × Ps × Nat} {p : Pl} (h : Mv K n i y p) (h0 : decide ((i : Int) = 0) = false) : ∃ m, tl (tz y) = [⟨K, p, m⟩] ∧ Sm ⟨K, p, m⟩ ∧ p.1 < 8 ∧ p.2 < 8 := by
  rcases h.st with ⟨rfl, _⟩ | ⟨_, h⟩
  · simp at h0
  · exact h
theorem Mv.free {K : Int} {n i : Nat} {y : Ks × Nat × Ps × Nat} {p : Pl} (h : Mv K n i y p) {x : Tb} (hx : x.kl = y.1) (q : Pl) : ¬ Taken x K q := by
  rintro ⟨h1, h2⟩
  have e : tl x = tl (tz y) := by show x.kl.map _ = y.1.map _; rw [hx]
  rw [e] at h1 h2
  rcases h.st with ⟨_, h0⟩ | ⟨_, m, h0, _⟩
  · rw [h0] at h1; cases h1
  · rw [h0] at h1 h2
    have : p = q := by simpa [lat] using h1
    exact h2 (by simp [lwho, this])
theorem fits_any {x : Tb} (hb : x.bs = 8) (hp : x.ps = 8) {k : Int} {q : Pl} (h0 : 0 ≤ k) (h1 : k < 4096) (h2 : 0 ≤ q.1) (h3 : q.1 < 8) (h4 : 0 ≤ q.2) (h5 : q.2 < 8) : Fits x k q := ⟨h0, by omega, h2, by omega, h4, by omega⟩
theorem Mv.had {K : Int} {n i : Nat} {y : Ks × Nat × Ps × Nat} {p : Pl} (h : Mv K n i y p) {L : List Slot} (hL : L = tl (tz y)) :
    ((!(SB.tm (lhas L K)).val == (SB.tm (decide (0 < (i : Int)))).val || (SB.tm (lhas L K && (SB.tm !(decide ((lget L K).pl.1 = p.1) && decide ((lget L K).pl.2 = p.2))).val)).val) = true) → False := by
  subst hL
  rcases h.st with ⟨rfl, h0⟩ | ⟨hi, m, h0, _⟩
  · rw [h0]; simp [lhas, SB.val]
  · rw [h0]
    simp [lhas, lget, SB.val]
    intro hc; omega
theorem Mv.had0 {K : Int} {n i : Nat} {y : Ks × Nat × Ps × Nat} {p : Pl} (h : Mv K n i y p) : tl (tz y) = [] ∨ ∃ m, tl (tz y) = [⟨K, p, m⟩] := by
  rcases h.st with ⟨_, h0⟩ | ⟨_, m, h0, _⟩
  · exact .inl h0
  · exact .inr ⟨m, h0⟩
/-- Behind a round's Set there is one. -/
theorem Mv.one {K : Int} {n i : Nat} {y : Ks × Nat × Ps × Nat} {p : Pl} (h : Mv K n i y p) {L L0 : List Slot} (hL : L0 = tl (tz y)) {q : Pl} {m : Me} (h1 : L = lset L0 ⟨K, q, m⟩) : L = [⟨K, q, m⟩] := by
  rw [h1, hL]
  rcases h.had0 with h0 | ⟨m', h0⟩
  · rw [h0]; rfl
  · rw [h0]; exact lset_one _ _ rfl
theorem one_key {K : Int} {q : Pl} {m : Me} {L : List Slot} (hL : L = [⟨K, q, m⟩]) :
    ((!lat L q || (SB.tm (decide (lwho L q ≠ K))).val || (SB.tm (decide ((L.length : Int) ≠ 1))).val || (SB.tm (decide (((L.filter (inBlk q.1)).length : Int) ≠ 1))).val) = true) → False := by
  subst hL
  simp [lat, lwho, SB.val, inBlk]
theorem two_keys {K W : Int} (h : K < W) {p q : Pl} {m m' : Me} : lset [⟨K, p, m⟩] ⟨W, q, m'⟩ = [⟨K, p, m⟩, ⟨W, q, m'⟩] := by
  have : ¬ K = W := by omega
  simp [lset, ldel, this]
theorem drop_first {K W : Int} (h : K < W) {p q : Pl} {m m' : Me} : ldel [⟨K, p, m⟩, ⟨W, q, m'⟩] K = [⟨W, q, m'⟩] := by
  have : ¬ W = K := by omega
  simp [ldel, this]
section
variable {K W : Int} {n i : Nat} {y : Ks × Nat × Ps × Nat} {p : Pl} (h : Mv K n i y p) (h0 : decide ((i : Int) = 0) = false) (hK : K < 1024) (hW : 1024 ≤ W) (hW' : W < 4096)
include h h0
theorem Mv.k1 (hK : K < 1024) (hW : 1024 ≤ W) {x : Tb} (hx : x.kl = y.1) (ht : ¬ Taken x W p) : False := by
  obtain ⟨m, e, _⟩ := h.fin h0
  refine ht ⟨?_, ?_⟩
  · rw [show tl x = [⟨K, p, m⟩] from (congrArg (List.map (·.2.1)) hx).trans e]; simp [lat]
  · rw [show tl x = [⟨K, p, m⟩] from (congrArg (List.map (·.2.1)) hx).trans e]; simp [lwho]; omega
theorem Mv.k2 (hW : 1024 ≤ W) (hW' : W < 4096) {x : Tb} (hb : x.bs = 8) (hp : x.ps = 8) (hf : ¬ Fits x W p) : False := by
  obtain ⟨m, e, hs, h1, h2⟩ := h.fin h0
  exact hf (fits_any hb hp (by omega) hW' hs.b0 h1 hs.p0 h2)
theorem Mv.k3 (hW : 1024 ≤ W) (hW' : W < 4096) {x : Tb} (hb : x.bs = 8) (hp : x.ps = 8) (hf : ¬ Fits x W (an (p.1 + 1) 7, p.2)) : False := by
  obtain ⟨m, e, hs, h1, h2⟩ := h.fin h0
  exact hf (fits_any hb hp (by omega) hW' (an7 _).1 (an7 _).2 hs.p0 h2)
theorem Mv.k4 {x : Tb} (hx : x.kl = y.1) (ht : Taken x W (an (p.1 + 1) 7, p.2)) : False := by
  obtain ⟨m, e, hs, h1, h2⟩ := h.fin h0
  obtain ⟨h3, _⟩ := ht
  rw [show tl x = [⟨K, p, m⟩] from (congrArg (List.map (·.2.1)) hx).trans e] at h3
  have h4 : p = (an (p.1 + 1) 7, p.2) := by simpa [lat] using h3
  have h4 := congrArg Prod.fst h4
  have hs0 : 0 ≤ p.1 := hs.b0
  rw [an7_mod (by omega) (by omega)] at h4
  simp only at h4
  omega
theorem Mv.two (hK : K < 1024) (hW : 1024 ≤ W) {L L0 : List Slot} (hL : L0 = tl (tz y)) {q : Pl} {m : Me} (h1 : L = lset L0 ⟨W, q, m⟩) : ∃ m', L = [⟨K, p, m'⟩, ⟨W, q, m⟩] := by
  obtain ⟨m', e, _⟩ := h.fin h0
  exact ⟨m', by rw [h1, hL, e]; exact two_keys (by omega)⟩
end
theorem inR_add {x : Int} (h0 : 0 ≤ x) (h1 : x < 100000) (d : Int) (h2 : 0 ≤ d) (h3 : d < 100000) : inR .i64 (x + d) := inR64 (by omega) (by omega)
theorem smK (key a b : Int) (m : Me) : Sm ⟨an key 1023, (an a 7, an b 7), m⟩ :=
  sm_of (an1023 key).1 (by have := (an1023 key).2; omega) (an7 _).1 (by have := (an7 a).2; omega) (an7 _).1 (by have := (an7 b).2; omega)
set_option maxHeartbeats 16000000 in
theorem moves_ok (b q : Nat) (l : List Pl) (key other : Int) (k n c : Nat) (hl : k + n ≤ l.length) (hc : n ≤ c) : Tells (C := C0) Tryd.prog (.fn 3) [⟨b, q, 2, false, none, .rows 30 l⟩] [.int .i64 key, .int .i64 other, .sl 0 k n c] (.bool .t) := by
  refine loc_pc (P := Tryd.prog) (E := ⟨[fcNewOk, fcSet3, fcDropL], [pcFirst, pcSamePlace, pcAtL, pcLenL, pcLive], 188, [(12, [0], [.p 0, .p 1, .p 2, .p 3, .p 4, .p 5, .p 6, .p 7, .p 8, .p 9, .p 10, .p 11, .p 12, .e 13, .e 14])]⟩) (L := [Mo (an key 1023) n]) mix Tryd.func3 rfl (by kernel_rfl) (by kernel_rfl) rfl rfl ?_
  ((conv => (arg 1; reduce)); with_reducible repeat' (first | exact Tr.yes_h | refine Tr.and_h ?_ ?_ | refine Tr.imp_h fun _ => ?_ | refine Tr.all_h fun _ => ?_ | refine Tr.lf_h ?_))
  all_goals try (first | first | (show Region.lexB _ _ = true; kernel_rfl) | (show planned _ _ = true; kernel_rfl) | exact rfl | exact True.intro | (first | exact key3 | exact key30 | exact zero3 | exact zero53 | exact eq30 | exact ⟨key3, zero53⟩ | exact ⟨key30, zero3⟩) | ((try dsimp only [imp, C0, cG, cInt, cPl, cSlot, cDo] at *); (try refine inR64 ?_ ?_) <;> (try simp only [List.length_set, List.length_append, List.length_take, List.length_drop]) <;> omega))
  · exact (by decide : 1 ≤ (8 : Int) ∧ (8 : Int) ≤ 64 ∧ 1 ≤ (8 : Int) ∧ (8 : Int) ≤ 64)
  · rename_i Y0 p0 h0
    exact inR_add (an1023 other).1 (by have := (an1023 other).2; omega) 1024 (by decide) (by decide)
  · rename_i Y0 p0 h0 b0
    refine Stands.one (0, ([], 0, [], 0), (0, 0)) ⟨⟨Nat.zero_le _, Rep.new .., .inl ⟨rfl, rfl⟩⟩, ?_⟩
    ((conv => (arg 1; reduce)); with_reducible repeat' (first | exact Tr.yes_h | refine Tr.and_h ?_ ?_ | refine Tr.imp_h fun _ => ?_ | refine Tr.all_h fun _ => ?_ | refine Tr.lf_h ?_))
    all_goals (first | first | (show Region.lexB _ _ = true; kernel_rfl) | (show planned _ _ = true; kernel_rfl) | exact rfl | exact True.intro | (first | exact key3 | exact key30 | exact zero3 | exact zero53 | exact eq30 | exact ⟨key3, zero53⟩ | exact ⟨key30, zero3⟩) | ((try dsimp only [imp, C0, cG, cInt, cPl, cSlot, cDo] at *); (try refine inR64 ?_ ?_) <;> (try simp only [List.length_set, List.length_append, List.length_take, List.length_drop]) <;> omega))
  · rename_i Y0 p0 h0 b0 v0 hv0 h1
    exact of_decide_eq_true h1
  · rename_i Y0 p0 h0 b0 v0 hv0 h1
    obtain ⟨i, y, p⟩ := v0
    have h1 : decide ((i : Int) < (n : Int)) = true := h1
    have h1 := of_decide_eq_true h1
    show (i : Int).toNat + k < l.length
    omega
  · rename_i Y0 p0 h0 b0 v0 hv0 h1
    exact of_decide_eq_true h1
  · rename_i Y0 p0 h0 b0 v0 hv0 h1
    obtain ⟨i, y, p⟩ := v0
    have h1 : decide ((i : Int) < (n : Int)) = true := h1
    have h1 := of_decide_eq_true h1
    show (i : Int).toNat + k < l.length
    omega
  · rename_i Y0 p0 h0 b0 v0 hv0 h1 b1
    exact hv0.rep.of rfl rfl rfl rfl
  · rename_i Y0 p0 h0 b0 v0 hv0 h1 b1 Y1 p1 b2 h2
    exact (hv0.had rfl h2).elim
  · rename_i Y0 p0 h0 b0 v0 hv0 h1 b1 Y1 p1 b2 h2
    obtain ⟨i, y, p⟩ := v0
    have h1 : decide ((i : Int) < (n : Int)) = true := h1
    have h1 := of_decide_eq_true h1
    have h0 : decide (60 < (n : Int)) = false := h0
    have h0 := of_decide_eq_false h0
    exact inR64 (by show _ ≤ (i : Int) + 1; omega) (by show (i : Int) + 1 ≤ _; omega)
  · rename_i Y0 p0 h0 b0 v0 hv0 h1 b1 Y1 p1 b2 h2
    exact p1.2.1
  · rename_i Y0 p0 h0 b0 v0 hv0 h1 b1 Y1 p1 b2 h2 h3
    exact tok_one p1.2.1 (hv0.one rfl p1.2.2) (smK key _ _ _)
  · rename_i Y0 p0 h0 b0 v0 hv0 h1 b1 Y1 p1 b2 h2 h3
    exact (one_key (hv0.one rfl p1.2.2) h3).elim
  · rename_i Y0 p0 h0 b0 v0 hv0 h1 b1 Y1 p1 b2 h2 h3
    obtain ⟨i, y, p⟩ := v0
    have h1 : decide ((i : Int) < (n : Int)) = true := h1
    have h1 := of_decide_eq_true h1
    have h0 : decide (60 < (n : Int)) = false := h0
    have h0 := of_decide_eq_false h0
    exact inR64 (by show _ ≤ (i : Int) + 1; omega) (by show (i : Int) + 1 ≤ _; omega)
  · rename_i Y0 p0 h0 b0 v0 hv0 h1 b1 Y1 p1 b2 h2 h3
    obtain ⟨i, y, p⟩ := v0
    have h1 : decide ((i : Int) < (n : Int)) = true := h1
    have h1 := of_decide_eq_true h1
    refine Stands.one (Nat.succ i, Y1, pg (l.getD ((i : Int).toNat + k) (0, 0))) ⟨⟨by omega, p1.2.1.of rfl rfl rfl rfl, .inr ⟨Nat.succ_pos _, _, hv0.one rfl p1.2.2, smK key _ _ _, (an7 _).2, (an7 _).2⟩⟩, ?_, ?_⟩
    · show n - (i + 1) < n - i
      omega
    ((conv => (arg 1; reduce)); with_reducible repeat' (first | exact Tr.yes_h | refine Tr.and_h ?_ ?_ | refine Tr.imp_h fun _ => ?_ | refine Tr.all_h fun _ => ?_ | refine Tr.lf_h ?_))
    all_goals (first | first | (show Region.lexB _ _ = true; kernel_rfl) | (show planned _ _ = true; kernel_rfl) | exact rfl | exact True.intro | (first | exact key3 | exact key30 | exact zero3 | exact zero53 | exact eq30 | exact ⟨key3, zero53⟩ | exact ⟨key30, zero3⟩) | ((try dsimp only [imp, C0, cG, cInt, cPl, cSlot, cDo] at *); (try refine inR64 ?_ ?_) <;> (try simp only [List.length_set, List.length_append, List.length_take, List.length_drop]) <;> omega))
  · rename_i Y0 p0 h0 b0 v0 hv0 h1 b1 Y1 p1 b2
    exact (p1 (fits_any (k := an key 1023) rfl rfl (an1023 key).1 (by have := (an1023 key).2; omega) (an7 _).1 (an7 _).2 (an7 _).1 (an7 _).2)).elim
  · rename_i Y0 p0 h0 b0 v0 hv0 h1 b1 Y1 p1 b2
    exact (hv0.free rfl _ p1.2).elim
  · rename_i Y0 p0 h0 b0 v0 hv0 h1 h2
    obtain ⟨i, y, p⟩ := v0
    rcases hv0.st with ⟨_, e⟩ | ⟨hi, _⟩
    · show decide (((tl (tz y)).length : Int) = 0) = true
      rw [e]; rfl
    · have h2 : decide ((i : Int) = 0) = true := h2
      have h2 := of_decide_eq_true h2
      omega
  · rename_i Y0 p0 h0 b0 v0 hv0 h1 h2
    exact hv0.rep.of rfl rfl rfl rfl
  · rename_i Y0 p0 h0 b0 v0 hv0 h1 h2 Y1 p1 b1
    obtain ⟨m', _, hs, g1, g2⟩ := hv0.fin h2
    exact inR_add hs.b0 (Int.lt_trans g1 (by decide)) 1 (by decide) (by decide)
  · rename_i Y0 p0 h0 b0 v0 hv0 h1 h2 Y1 p1 b1 b2
    exact p1.2.1
  · rename_i Y0 p0 h0 b0 v0 hv0 h1 h2 Y1 p1 b1 b2 Y2 p2 b3
    have hK := (an1023 key).2
    have hW := (an1023 other).1
    have hW' := (an1023 other).2
    exact (hv0.k1 h2 hK (W := an other 1023 + 1024) (by omega) rfl p1.1.2).elim
  · rename_i Y0 p0 h0 b0 v0 hv0 h1 h2 Y1 p1 b1 b2 Y2 p2 b3
    have hK := (an1023 key).2
    have hW := (an1023 other).1
    have hW' := (an1023 other).2
    exact (hv0.k1 h2 hK (W := an other 1023 + 1024) (by omega) rfl p1.1.2).elim
  · rename_i Y0 p0 h0 b0 v0 hv0 h1 h2 Y1 p1 b1 b2 Y2 p2 b3
    have hK := (an1023 key).2
    have hW := (an1023 other).1
    have hW' := (an1023 other).2
    exact (hv0.k1 h2 hK (W := an other 1023 + 1024) (by omega) rfl p1.1.2).elim
  · rename_i Y0 p0 h0 b0 v0 hv0 h1 h2 Y1 p1 b1
    obtain ⟨m', _, hs, g1, g2⟩ := hv0.fin h2
    exact inR_add hs.b0 (Int.lt_trans g1 (by decide)) 1 (by decide) (by decide)
  · rename_i Y0 p0 h0 b0 v0 hv0 h1 h2 Y1 p1 b1 b2
    exact hv0.rep.of rfl rfl rfl rfl
  · rename_i Y0 p0 h0 b0 v0 hv0 h1 h2 Y1 p1 b1 b2 Y2 p2 b3
    have hK := (an1023 key).2
    have hW := (an1023 other).1
    have hW' := (an1023 other).2
    exact (hv0.k2 h2 (W := an other 1023 + 1024) (by omega) (by omega) rfl rfl p1).elim
  · rename_i Y0 p0 h0 b0 v0 hv0 h1 h2 Y1 p1 b1 b2 Y2 p2 b3
    have hK := (an1023 key).2
    have hW := (an1023 other).1
    have hW' := (an1023 other).2
    exact (hv0.k2 h2 (W := an other 1023 + 1024) (by omega) (by omega) rfl rfl p1).elim
  · rename_i Y0 p0 h0 b0 v0 hv0 h1 h2 Y1 p1 b1 b2 Y2 p2 b3 h3
    have hK := (an1023 key).2
    have hW := (an1023 other).1
    have hW' := (an1023 other).2
    exact (hv0.k2 h2 (W := an other 1023 + 1024) (by omega) (by omega) rfl rfl p1).elim
  · rename_i Y0 p0 h0 b0 v0 hv0 h1 h2 Y1 p1 b1 b2 Y2 p2 b3 h3 Y3 p3 h4
    have hK := (an1023 key).2
    have hW := (an1023 other).1
    have hW' := (an1023 other).2
    exact (hv0.k2 h2 (W := an other 1023 + 1024) (by omega) (by omega) rfl rfl p1).elim
  · rename_i Y0 p0 h0 b0 v0 hv0 h1 h2 Y1 p1 b1 b2 Y2 p2 b3 h3 Y3 p3 h4 Y4 p4
    have hK := (an1023 key).2
    have hW := (an1023 other).1
    have hW' := (an1023 other).2
    exact (hv0.k2 h2 (W := an other 1023 + 1024) (by omega) (by omega) rfl rfl p1).elim
  · rename_i Y0 p0 h0 b0 v0 hv0 h1 h2 Y1 p1 b1 b2 Y2 p2 b3 h3 Y3 p3 h4
    have hK := (an1023 key).2
    have hW := (an1023 other).1
    have hW' := (an1023 other).2
    exact (hv0.k2 h2 (W := an other 1023 + 1024) (by omega) (by omega) rfl rfl p1).elim
  · rename_i Y0 p0 h0 b0 v0 hv0 h1 h2 Y1 p1 b1 b2 Y2 p2 b3 h3
    have hK := (an1023 key).2
    have hW := (an1023 other).1
    have hW' := (an1023 other).2
    exact (hv0.k2 h2 (W := an other 1023 + 1024) (by omega) (by omega) rfl rfl p1).elim
  · rename_i Y0 p0 h0 b0 v0 hv0 h1 h2 Y1 p1 b1 b2 Y2 p2 b3
    have hK := (an1023 key).2
    have hW := (an1023 other).1
    have hW' := (an1023 other).2
    exact (hv0.k2 h2 (W := an other 1023 + 1024) (by omega) (by omega) rfl rfl p1).elim
  · rename_i Y0 p0 h0 b0 v0 hv0 h1 h2 Y1 p1 b1 b2 Y2 p2 b3
    have hK := (an1023 key).2
    have hW := (an1023 other).1
    have hW' := (an1023 other).2
    exact (hv0.k2 h2 (W := an other 1023 + 1024) (by omega) (by omega) rfl rfl p1).elim
  · rename_i Y0 p0 h0 b0 v0 hv0 h1 h2 Y1 p1 b1 b2 Y2 p2 b3
    have hK := (an1023 key).2
    have hW := (an1023 other).1
    have hW' := (an1023 other).2
    exact (hv0.k2 h2 (W := an other 1023 + 1024) (by omega) (by omega) rfl rfl p1).elim
  · rename_i Y0 p0 h0 b0 v0 hv0 h1 h2 Y1 p1 b1 b2 Y2 p2 b3
    have hK := (an1023 key).2
    have hW := (an1023 other).1
    have hW' := (an1023 other).2
    exact (hv0.k2 h2 (W := an other 1023 + 1024) (by omega) (by omega) rfl rfl p1).elim
  · rename_i Y0 p0 h0 b0 v0 hv0 h1 h2 Y1 p1 b1 b2 Y2 p2 b3
    have hK := (an1023 key).2
    have hW := (an1023 other).1
    have hW' := (an1023 other).2
    exact (hv0.k2 h2 (W := an other 1023 + 1024) (by omega) (by omega) rfl rfl p1).elim
  · rename_i Y0 p0 h0 b0 v0 hv0 h1 h2 Y1 p1 b1 b2 Y2 p2 b3
    have hK := (an1023 key).2
    have hW := (an1023 other).1
    have hW' := (an1023 other).2
    exact (hv0.k2 h2 (W := an other 1023 + 1024) (by omega) (by omega) rfl rfl p1).elim
  · rename_i Y0 p0 h0 b0 v0 hv0 h1 h2 Y1 p1 b1
    obtain ⟨m', _, hs, g1, g2⟩ := hv0.fin h2
    exact inR_add hs.b0 (Int.lt_trans g1 (by decide)) 1 (by decide) (by decide)
  · rename_i Y0 p0 h0 b0 v0 hv0 h1 h2 Y1 p1 b1 b2
    exact hv0.rep.of rfl rfl rfl rfl
  · rename_i Y0 p0 h0 b0 v0 hv0 h1 h2 Y1 p1 b1 b2 Y2 p2 b3
    exact plainA 0 (by decide)
  · rename_i Y0 p0 h0 b0 v0 hv0 h1 h2 Y1 p1 b1 b2 Y2 p2 b3
    exact plainA 0 (by decide)
  · rename_i Y0 p0 h0 b0 v0 hv0 h1 h2 Y1 p1 b1 b2 Y2 p2 b3 h3
    exact p2.2.1
  · rename_i Y0 p0 h0 b0 v0 hv0 h1 h2 Y1 p1 b1 b2 Y2 p2 b3 h3 Y3 p3 h4
    exact p3.1
  · rename_i Y0 p0 h0 b0 v0 hv0 h1 h2 Y1 p1 b1 b2 Y2 p2 b3 h3 Y3 p3 h4 Y4 p4
    have hK := (an1023 key).2
    have hW := (an1023 other).1
    have hW' := (an1023 other).2
    obtain ⟨m', e2⟩ := hv0.two h2 hK (W := an other 1023 + 1024) (by omega) rfl p2.2.2
    have e3 := p3.2.trans ((congrArg (fun L => ldel L (an key 1023)) e2).trans (drop_first (by omega)))
    show (!lhas (tl _) (an key 1023)) = true
    rw [e3]
    have : ¬ an other 1023 + 1024 = an key 1023 := by omega
    simp [lhas, this]
  · rename_i Y0 p0 h0 b0 v0 hv0 h1 h2 Y1 p1 b1 b2 Y2 p2 b3 h3 Y3 p3 h4
    have hK := (an1023 key).2
    have hW := (an1023 other).1
    have hW' := (an1023 other).2
    obtain ⟨m', e2⟩ := hv0.two h2 hK (W := an other 1023 + 1024) (by omega) rfl p2.2.2
    have e3 := p3.2.trans ((congrArg (fun L => ldel L (an key 1023)) e2).trans (drop_first (by omega)))
    have h4 : (lhas (tl _) (an key 1023) && decide (((tl _).length : Int) = 1)) = false := h4
    rw [e2, e3] at h4
    simp [lhas] at h4
  · rename_i Y0 p0 h0 b0 v0 hv0 h1 h2 Y1 p1 b1 b2 Y2 p2 b3 h3
    have hK := (an1023 key).2
    have hW := (an1023 other).1
    have hW' := (an1023 other).2
    obtain ⟨m', e2⟩ := hv0.two h2 hK (W := an other 1023 + 1024) (by omega) rfl p2.2.2
    have h3 : (decide (Gl.A 0 = Gl.A 0) && decide (((tl _).length : Int) = 2)) = false := h3
    rw [e2] at h3
    simp at h3
  · rename_i Y0 p0 h0 b0 v0 hv0 h1 h2 Y1 p1 b1 b2 Y2 p2 b3
    have hK := (an1023 key).2
    have hW := (an1023 other).1
    have hW' := (an1023 other).2
    exact (hv0.k3 h2 (W := an other 1023 + 1024) (by omega) (by omega) rfl rfl p2).elim
  · rename_i Y0 p0 h0 b0 v0 hv0 h1 h2 Y1 p1 b1 b2 Y2 p2 b3
    have hK := (an1023 key).2
    have hW := (an1023 other).1
    have hW' := (an1023 other).2
    exact (hv0.k3 h2 (W := an other 1023 + 1024) (by omega) (by omega) rfl rfl p2).elim
  · rename_i Y0 p0 h0 b0 v0 hv0 h1 h2 Y1 p1 b1 b2 Y2 p2 b3
    have hK := (an1023 key).2
    have hW := (an1023 other).1
    have hW' := (an1023 other).2
    exact (hv0.k3 h2 (W := an other 1023 + 1024) (by omega) (by omega) rfl rfl p2).elim
  · rename_i Y0 p0 h0 b0 v0 hv0 h1 h2 Y1 p1 b1 b2 Y2 p2 b3
    exact (hv0.k4 h2 rfl p2.2).elim
  · rename_i Y0 p0 h0 b0 v0 hv0 h1 h2 Y1 p1 b1 b2 Y2 p2 b3
    exact (hv0.k4 h2 rfl p2.2).elim
  · rename_i Y0 p0 h0 b0 v0 hv0 h1 h2 Y1 p1 b1 b2 Y2 p2 b3
    exact (hv0.k4 h2 rfl p2.2).elim
end Go.Vx
