/-
  Round 22: a scan: the walk of Of.
  Round 22: the document's places and records.
  Round 22: lists that are the same.
  Round 22: what the law looks for.
  Round 22: copies of pages and slots.
  Round 22: the contract of Of; the chapter's examples.
  Round 22: ScanCommits: plain facts.
  Round 22: ScanCommits: what its scan says.
  Round 22: winners; blocks that do not count: plain facts.
  Round 22: lists that may be scanned; ScanHeads: plain facts.
  Round 22: ScanAlive: plain facts.
  Round 22: one more page that is not newer: plain facts.
  Round 22: ScanOlder: plain facts.
  Conditions: none.
-/
import Derived.Test.YtnihemjnhbickaaDoorM7
set_option linter.unusedVariables false
set_option linter.unusedSimpArgs false
set_option linter.unusedSectionVars false
set_option maxRecDepth 100000
namespace Go.Vx
open Go Go.Proofs
variable [Gl]

abbrev V5 (bs ps : Int) (n : Nat) (so : Bool) (sb : Nat) (lo : Bool) (lb : Nat) (sk : List Int) (L : List Pg) : Inv' C0 := ⟨5, Nat × List (Rw Pg), fun y => [(52, .int .i64 (y.1 : Int))],
  fun y m => match m with
    | c0 :: c1 :: c2 :: ⟨gb, gq, _, _, _, _⟩ :: c4 :: c5 :: _ => [c0, c1, c2, ⟨gb, gq, 1, true, none, .rows 33 y.2⟩, c4, c5]
    | _ => [],
  fun y => y.1 ≤ L.length ∧ GOK n so sb lo lb (L.take y.1) y.2 ∧ ∀ j, j < y.1 → pgBad bs ps sk L j = false, fun y => L.length - y.1⟩
abbrev resA (v : Nm) (S : Sq Slot) (F D B : Sq Int) (O : Sq Pl) : SV := .agg [svL 2 S, .int .i64 v.s, .int .i64 v.t, .int .i64 v.b, .int .i64 v.f, svI 3 F, svI 4 D, svI 5 B, svO 6 O]
abbrev resN : SV := .agg [.nils, .int .i64 0, .int .i64 0, .int .i64 0, .int .i64 0, .nils, .nils, .nils, .nils]
abbrev chK : Sq Int → Ck C0
  | (so, sb, sq, sl, sn, sc) => ⟨sb, sq, 1, false, some so, .rows 3 sl⟩
abbrev chP : Sq Pg → Ck C0
  | (so, sb, sq, sl, sn, sc) => ⟨sb, sq, 9, false, some so, .rows 55 sl⟩
abbrev svP (k : Nat) : Sq Pg → SV
  | (so, sb, sq, sl, sn, sc) => .sl k 0 sn sc
abbrev errSV (g : Nat) : SV := .ifc 142 (.val (.pointer (some (Gl.A g))))
/-- What a scan that is told says. -/
def OfS (g : Geo) (sk : List Int) (L : List Pg) (y : Sq Slot × Sq Int × Sq Int × Sq Int × Sq Pl) : Prop :=
  (∀ j, j < L.length → pgBad g.bs g.ps sk L j = false) ∧ Gth (sloS g g.bs.toNat (gridL g.bs.toNat L)) y.1 ∧ Gth (freS sk g.bs.toNat (gridL g.bs.toNat L)) y.2.1 ∧
  Gth (dirS g sk g.bs.toNat (gridL g.bs.toNat L)) y.2.2.1 ∧ Gth (badL g.bs.toNat (gridL g.bs.toNat L)) y.2.2.2.1 ∧ Gth (orfS g.bs.toNat (gridL g.bs.toNat L)) y.2.2.2.2
abbrev pl4 : List Tk := [.p 0, .p 1, .e 2, .p 3]
set_option maxHeartbeats 64000000 in
theorem of_ok (bs ps ss : Int) (hbs : 1 ≤ bs ∧ bs ≤ 64) (hps : 1 ≤ ps ∧ ps ≤ 64) (hss : 1 ≤ ss ∧ ss ≤ 536870912) (s : Sq Int) (l : Sq Pg)
    (hs : s.2.2.2.2.1 ≤ s.2.2.2.1.length ∧ s.2.2.2.2.1 < 1000000000 ∧ (s.1 = false → s.2.2.2.2.1 = 0 ∧ s.2.2.2.2.2 = 0))
    (hl : l.2.2.2.2.1 ≤ l.2.2.2.1.length ∧ l.2.2.2.2.1 < 1000000 ∧ (l.1 = false → l.2.2.2.2.1 = 0 ∧ l.2.2.2.2.2 = 0)) :
    Does (C := C0) Tryd.prog (.fn 9) [chK s, chP l] [.int .i64 bs, .int .i64 ps, .int .i64 ss, svI 0 s, svP 1 l]
    [⟨Sq Slot × Sq Int × Sq Int × Sq Int × Sq Pl, OfS ⟨bs, ps, ss⟩ s.li l.li,
      fun y => .tup [resA (nmOf bs.toNat (gridL bs.toNat l.li)) y.1 y.2.1 y.2.2.1 y.2.2.2.1 y.2.2.2.2, .nili],
      fun y => [chK s, chP l, chL y.1, chI y.2.1, chI y.2.2.1, chI y.2.2.2.1, chO y.2.2.2.2]⟩,
     ⟨Unit, fun _ => ∃ j, j < l.li.length ∧ pgBad bs ps s.li l.li j = true, fun _ => .tup [resN, errSV 0], fun _ => [chK s, chP l]⟩] := by
  obtain ⟨so, sb, sq, sl, sn, sc⟩ := s
  obtain ⟨lo, lb, lq, ll, ln, lc⟩ := l
  change sn ≤ sl.length ∧ sn < 1000000000 ∧ (so = false → sn = 0 ∧ sc = 0) at hs
  change ln ≤ ll.length ∧ ln < 1000000 ∧ (lo = false → ln = 0 ∧ lc = 0) at hl
  refine loc_fn (P := Tryd.prog) (E := ⟨[fcNumbers, fcSlots, fcRest], [pcPlaces, pcContains], 146, [(2, [], pl4), (10, [], pl4), (12, [1000012, 1000014, 1000015, 3], ofB)], [fG], []⟩) (L := [V5 bs ps bs.toNat so sb lo lb (sl.take sn) (ll.take ln)]) mix Tryd.func9 rfl (by kernel_rfl) (by kernel_rfl) rfl rfl ?_
  ((conv => (arg 1; reduce)); with_reducible repeat' (first | exact Tr.yes_h | refine Tr.and_h ?_ ?_ | refine Tr.imp_h fun _ => ?_ | refine Tr.all_h fun _ => ?_ | refine Tr.lf_h ?_))
  all_goals try (first | first | (show Region.lexB _ _ = true; kernel_rfl) | (show planned _ _ = true; kernel_rfl) | exact rfl | exact True.intro | (first | exact key3 | exact zeroB | exact zeroR | exact zeroS | exact ⟨key3, zeroB⟩ | exact ⟨key3, zeroR⟩ | exact ⟨key3, zeroS⟩) | ((try dsimp only [imp, C0, cG, cInt, cPl, cSlot, cPg, gwCodec] at *); (try refine inR64 ?_ ?_) <;> (try simp only [List.length_set, List.length_append, List.length_take, List.length_drop]) <;> omega))
  · rename_i u0 hg
    exfalso
    have hg : (decide (bs < 1) || decide (64 < bs) || decide (ps < 1) || decide (64 < ps) || decide (ss < 1) || decide (536870912 < ss)) = true := hg
    simp only [Bool.or_eq_true, decide_eq_true_eq] at hg
    omega
  · have e : Tryd.prog.types[33].bytes = 24 := by kernel_rfl
    rw [e]
    exact ⟨by omega, Int.le_refl _, by show (24 : Int) * bs ≤ _; omega, by omega⟩
  · refine Stands.one (0, List.replicate bs.toNat Rw.nil) ⟨⟨Nat.zero_le _, by show GOK _ _ _ _ _ ((ll.take ln).take 0) _; rw [List.take_zero]; exact GOK.nil, fun j hj => absurd hj (Nat.not_lt_zero j)⟩, ?_⟩
    ((conv => (arg 1; reduce)); with_reducible repeat' (first | exact Tr.yes_h | refine Tr.and_h ?_ ?_ | refine Tr.imp_h fun _ => ?_ | refine Tr.all_h fun _ => ?_ | refine Tr.lf_h ?_))
    all_goals (first | first | (show Region.lexB _ _ = true; kernel_rfl) | (show planned _ _ = true; kernel_rfl) | exact rfl | exact True.intro | (first | exact key3 | exact zeroB | exact zeroR | exact zeroS | exact ⟨key3, zeroB⟩ | exact ⟨key3, zeroR⟩ | exact ⟨key3, zeroS⟩) | ((try dsimp only [imp, C0, cG, cInt, cPl, cSlot, cPg, gwCodec] at *); (try refine inR64 ?_ ?_) <;> (try simp only [List.length_set, List.length_append, List.length_take, List.length_drop]) <;> omega))
  · rename_i u0 hg u1 u2 u3 y hy h1
    obtain ⟨i, R⟩ := y
    have hy : i ≤ (ll.take ln).length ∧ GOK bs.toNat so sb lo lb ((ll.take ln).take i) R ∧ ∀ j, j < i → pgBad bs ps (sl.take sn) (ll.take ln) j = false := hy
    have h1 : (i : Int) < (ln : Int) := of_decide_eq_true h1
    exact on_of hl.2.2 (by omega)
  · rename_i u0 hg u1 u2 u3 y hy h1
    obtain ⟨i, R⟩ := y
    have hy : i ≤ (ll.take ln).length ∧ GOK bs.toNat so sb lo lb ((ll.take ln).take i) R ∧ ∀ j, j < i → pgBad bs ps (sl.take sn) (ll.take ln) j = false := hy
    have h1 : (i : Int) < (ln : Int) := of_decide_eq_true h1
    exact h1
  · rename_i u0 hg u1 u2 u3 y hy h1
    obtain ⟨i, R⟩ := y
    have hy : i ≤ (ll.take ln).length ∧ GOK bs.toNat so sb lo lb ((ll.take ln).take i) R ∧ ∀ j, j < i → pgBad bs ps (sl.take sn) (ll.take ln) j = false := hy
    have h1 : (i : Int) < (ln : Int) := of_decide_eq_true h1
    exact on_of hl.2.2 (by omega)
  · rename_i u0 hg u1 u2 u3 y hy h1
    obtain ⟨i, R⟩ := y
    have hy : i ≤ (ll.take ln).length ∧ GOK bs.toNat so sb lo lb ((ll.take ln).take i) R ∧ ∀ j, j < i → pgBad bs ps (sl.take sn) (ll.take ln) j = false := hy
    have h1 : (i : Int) < (ln : Int) := of_decide_eq_true h1
    show i < ll.length
    omega
  · rename_i u0 hg u1 u2 u3 y hy h1 v1 v2 hin h0
    obtain ⟨i, R⟩ := y
    have hy : i ≤ (ll.take ln).length ∧ GOK bs.toNat so sb lo lb ((ll.take ln).take i) R ∧ ∀ j, j < i → pgBad bs ps (sl.take sn) (ll.take ln) j = false := hy
    have h1 : (i : Int) < (ln : Int) := of_decide_eq_true h1
    have h0 : (0 : Int) < (i : Int) := of_decide_eq_true h0
    exact inR64 (by show -9223372036854775808 ≤ (i : Int) - 1; omega) (by show (i : Int) - 1 ≤ 9223372036854775807; omega)
  · rename_i u0 hg u1 u2 u3 y hy h1 v1 v2 hin h0
    obtain ⟨i, R⟩ := y
    have hy : i ≤ (ll.take ln).length ∧ GOK bs.toNat so sb lo lb ((ll.take ln).take i) R ∧ ∀ j, j < i → pgBad bs ps (sl.take sn) (ll.take ln) j = false := hy
    have h1 : (i : Int) < (ln : Int) := of_decide_eq_true h1
    have h0 : (0 : Int) < (i : Int) := of_decide_eq_true h0
    exact on_of hl.2.2 (by omega)
  · rename_i u0 hg u1 u2 u3 y hy h1 v1 v2 hin h0
    obtain ⟨i, R⟩ := y
    have hy : i ≤ (ll.take ln).length ∧ GOK bs.toNat so sb lo lb ((ll.take ln).take i) R ∧ ∀ j, j < i → pgBad bs ps (sl.take sn) (ll.take ln) j = false := hy
    have h1 : (i : Int) < (ln : Int) := of_decide_eq_true h1
    have h0 : (0 : Int) < (i : Int) := of_decide_eq_true h0
    show (0 : Int) ≤ (i : Int) - 1
    omega
  · rename_i u0 hg u1 u2 u3 y hy h1 v1 v2 hin h0
    obtain ⟨i, R⟩ := y
    have hy : i ≤ (ll.take ln).length ∧ GOK bs.toNat so sb lo lb ((ll.take ln).take i) R ∧ ∀ j, j < i → pgBad bs ps (sl.take sn) (ll.take ln) j = false := hy
    have h1 : (i : Int) < (ln : Int) := of_decide_eq_true h1
    have h0 : (0 : Int) < (i : Int) := of_decide_eq_true h0
    show (i : Int) - 1 < (ln : Int)
    omega
  · rename_i u0 hg u1 u2 u3 y hy h1 v1 v2 hin h0
    obtain ⟨i, R⟩ := y
    have hy : i ≤ (ll.take ln).length ∧ GOK bs.toNat so sb lo lb ((ll.take ln).take i) R ∧ ∀ j, j < i → pgBad bs ps (sl.take sn) (ll.take ln) j = false := hy
    have h1 : (i : Int) < (ln : Int) := of_decide_eq_true h1
    have h0 : (0 : Int) < (i : Int) := of_decide_eq_true h0
    exact on_of hl.2.2 (by omega)
  · rename_i u0 hg u1 u2 u3 y hy h1 v1 v2 hin h0
    obtain ⟨i, R⟩ := y
    have hy : i ≤ (ll.take ln).length ∧ GOK bs.toNat so sb lo lb ((ll.take ln).take i) R ∧ ∀ j, j < i → pgBad bs ps (sl.take sn) (ll.take ln) j = false := hy
    have h1 : (i : Int) < (ln : Int) := of_decide_eq_true h1
    have h0 : (0 : Int) < (i : Int) := of_decide_eq_true h0
    show ((i : Int) - 1).toNat + 0 < ll.length
    omega
  · rename_i u0 hg u1 u2 u3 y hy h1 v1 v2 hc
    obtain ⟨i, R⟩ := y
    have hy : i ≤ (ll.take ln).length ∧ GOK bs.toNat so sb lo lb ((ll.take ln).take i) R ∧ ∀ j, j < i → pgBad bs ps (sl.take sn) (ll.take ln) j = false := hy
    have h1 : (i : Int) < (ln : Int) := of_decide_eq_true h1
    exact ⟨hs.1, by show sn < 4611686018427387904; omega, hs.2.2⟩
  · rename_i u0 hg u1 u2 u3 y hy h1 v1 v2 hc
    obtain ⟨i, R⟩ := y
    have hy : i ≤ (ll.take ln).length ∧ GOK bs.toNat so sb lo lb ((ll.take ln).take i) R ∧ ∀ j, j < i → pgBad bs ps (sl.take sn) (ll.take ln) j = false := hy
    have h1 : (i : Int) < (ln : Int) := of_decide_eq_true h1
    have e1 : ((i : Int) - 1).toNat + 0 = i - 1 := by omega
    have hb : pgBad bs ps (sl.take sn) (ll.take ln) i = true := by
      unfold pgBad
      rw [tk_get (by omega), tk_get (by omega), ← e1]
      exact hc
    refine Ends.next (Ends.one () ⟨i, by show i < (ll.take ln).length; rw [tk_len hl.1]; omega, hb⟩ ?_)
    ((conv => (arg 1; reduce)); with_reducible repeat' (first | exact Tr.yes_h | refine Tr.and_h ?_ ?_ | refine Tr.imp_h fun _ => ?_ | refine Tr.all_h fun _ => ?_ | refine Tr.lf_h ?_))
    all_goals (first | first | (show Region.lexB _ _ = true; kernel_rfl) | (show planned _ _ = true; kernel_rfl) | exact rfl | exact True.intro | (first | exact key3 | exact zeroB | exact zeroR | exact zeroS | exact ⟨key3, zeroB⟩ | exact ⟨key3, zeroR⟩ | exact ⟨key3, zeroS⟩) | ((try dsimp only [imp, C0, cG, cInt, cPl, cSlot, cPg, gwCodec] at *); (try refine inR64 ?_ ?_) <;> (try simp only [List.length_set, List.length_append, List.length_take, List.length_drop]) <;> omega))
  · rename_i u0 hg u1 u2 u3 y hy h1 v1 v2 hc hcl
    obtain ⟨i, R⟩ := y
    have hy : i ≤ (ll.take ln).length ∧ GOK bs.toNat so sb lo lb ((ll.take ln).take i) R ∧ ∀ j, j < i → pgBad bs ps (sl.take sn) (ll.take ln) j = false := hy
    have h1 : (i : Int) < (ln : Int) := of_decide_eq_true h1
    have e1 : ((i : Int) - 1).toNat + 0 = i - 1 := by omega
    have hb : pgBad bs ps (sl.take sn) (ll.take ln) i = false := by
      unfold pgBad
      rw [tk_get (by omega), tk_get (by omega), ← e1]
      exact hc
    have hf := pgBad_no hb
    rw [tk_get (by omega)] at hf
    have hLi : (ll.take ln).take (i + 1) = (ll.take ln).take i ++ [ll.getD i pg0] := by rw [take_snoc (d := pg0) (by rw [tk_len hl.1]; omega), tk_get (by omega)]
    have hbd : ∀ j, j < i + 1 → pgBad bs ps (sl.take sn) (ll.take ln) j = false := by
      intro j hj
      by_cases e : j = i
      · rw [e]; exact hb
      · exact hy.2.2 j (by omega)
    have hcl : ¬ (ll.getD i pg0).cl = 2 := of_decide_eq_true hcl
    exact hf.1
  · rename_i u0 hg u1 u2 u3 y hy h1 v1 v2 hc hcl
    obtain ⟨i, R⟩ := y
    have hy : i ≤ (ll.take ln).length ∧ GOK bs.toNat so sb lo lb ((ll.take ln).take i) R ∧ ∀ j, j < i → pgBad bs ps (sl.take sn) (ll.take ln) j = false := hy
    have h1 : (i : Int) < (ln : Int) := of_decide_eq_true h1
    have e1 : ((i : Int) - 1).toNat + 0 = i - 1 := by omega
    have hb : pgBad bs ps (sl.take sn) (ll.take ln) i = false := by
      unfold pgBad
      rw [tk_get (by omega), tk_get (by omega), ← e1]
      exact hc
    have hf := pgBad_no hb
    rw [tk_get (by omega)] at hf
    have hLi : (ll.take ln).take (i + 1) = (ll.take ln).take i ++ [ll.getD i pg0] := by rw [take_snoc (d := pg0) (by rw [tk_len hl.1]; omega), tk_get (by omega)]
    have hbd : ∀ j, j < i + 1 → pgBad bs ps (sl.take sn) (ll.take ln) j = false := by
      intro j hj
      by_cases e : j = i
      · rw [e]; exact hb
      · exact hy.2.2 j (by omega)
    have hcl : ¬ (ll.getD i pg0).cl = 2 := of_decide_eq_true hcl
    show (ll.getD i pg0).pl.1 < (bs.toNat : Int)
    omega
  · rename_i u0 hg u1 u2 u3 y hy h1 v1 v2 hc hcl
    obtain ⟨i, R⟩ := y
    have hy : i ≤ (ll.take ln).length ∧ GOK bs.toNat so sb lo lb ((ll.take ln).take i) R ∧ ∀ j, j < i → pgBad bs ps (sl.take sn) (ll.take ln) j = false := hy
    have h1 : (i : Int) < (ln : Int) := of_decide_eq_true h1
    have e1 : ((i : Int) - 1).toNat + 0 = i - 1 := by omega
    have hb : pgBad bs ps (sl.take sn) (ll.take ln) i = false := by
      unfold pgBad
      rw [tk_get (by omega), tk_get (by omega), ← e1]
      exact hc
    have hf := pgBad_no hb
    rw [tk_get (by omega)] at hf
    have hLi : (ll.take ln).take (i + 1) = (ll.take ln).take i ++ [ll.getD i pg0] := by rw [take_snoc (d := pg0) (by rw [tk_len hl.1]; omega), tk_get (by omega)]
    have hbd : ∀ j, j < i + 1 → pgBad bs ps (sl.take sn) (ll.take ln) j = false := by
      intro j hj
      by_cases e : j = i
      · rw [e]; exact hb
      · exact hy.2.2 j (by omega)
    have hcl : ¬ (ll.getD i pg0).cl = 2 := of_decide_eq_true hcl
    show (ll.getD i pg0).pl.1.toNat + 0 < R.length
    rw [hy.2.1.len]
    omega
  · rename_i u0 hg u1 u2 u3 y hy h1 v1 v2 hc hcl rA hrA u5
    obtain ⟨i, R⟩ := y
    have hy : i ≤ (ll.take ln).length ∧ GOK bs.toNat so sb lo lb ((ll.take ln).take i) R ∧ ∀ j, j < i → pgBad bs ps (sl.take sn) (ll.take ln) j = false := hy
    have h1 : (i : Int) < (ln : Int) := of_decide_eq_true h1
    have e1 : ((i : Int) - 1).toNat + 0 = i - 1 := by omega
    have hb : pgBad bs ps (sl.take sn) (ll.take ln) i = false := by
      unfold pgBad
      rw [tk_get (by omega), tk_get (by omega), ← e1]
      exact hc
    have hf := pgBad_no hb
    rw [tk_get (by omega)] at hf
    have hLi : (ll.take ln).take (i + 1) = (ll.take ln).take i ++ [ll.getD i pg0] := by rw [take_snoc (d := pg0) (by rw [tk_len hl.1]; omega), tk_get (by omega)]
    have hbd : ∀ j, j < i + 1 → pgBad bs ps (sl.take sn) (ll.take ln) j = false := by
      intro j hj
      by_cases e : j = i
      · rw [e]; exact hb
      · exact hy.2.2 j (by omega)
    have hcl : ¬ (ll.getD i pg0).cl = 2 := of_decide_eq_true hcl
    change Rw Pg at rA
    have hrA : R.getD (ll.getD i pg0).pl.1.toNat Rw.nil = rA := hrA
    have han : (ll.getD i pg0).pl.1.toNat < bs.toNat := by omega
    have hg1 := hy.2.1.row _ han
    have hg2 := hy.2.1.rok _ han
    rw [hrA] at hg1 hg2
    have hgl : rA.l.length < 1000000 := by
      rw [hg1]
      refine Nat.lt_of_le_of_lt blkL_len ?_
      rw [List.length_take, tk_len hl.1]
      omega
    show rA.l.length = rA.l.length ∧ rA.l.length ≤ rA.m ∧ 0 + 1 ≤ _ ∧ 1 = 1 ∧ (rA.l.length + 1) * Tryd.prog.types[55].bytes ≤ _
    rw [byP]
    exact ⟨rfl, hg2.2, (Nat.le_refl 1 : 0 + 1 ≤ 1), rfl, by omega⟩
  · rename_i u0 hg u1 u2 u3 y hy h1 v1 v2 hc hcl rA hrA u5
    obtain ⟨i, R⟩ := y
    have hy : i ≤ (ll.take ln).length ∧ GOK bs.toNat so sb lo lb ((ll.take ln).take i) R ∧ ∀ j, j < i → pgBad bs ps (sl.take sn) (ll.take ln) j = false := hy
    have h1 : (i : Int) < (ln : Int) := of_decide_eq_true h1
    have e1 : ((i : Int) - 1).toNat + 0 = i - 1 := by omega
    have hb : pgBad bs ps (sl.take sn) (ll.take ln) i = false := by
      unfold pgBad
      rw [tk_get (by omega), tk_get (by omega), ← e1]
      exact hc
    have hf := pgBad_no hb
    rw [tk_get (by omega)] at hf
    have hLi : (ll.take ln).take (i + 1) = (ll.take ln).take i ++ [ll.getD i pg0] := by rw [take_snoc (d := pg0) (by rw [tk_len hl.1]; omega), tk_get (by omega)]
    have hbd : ∀ j, j < i + 1 → pgBad bs ps (sl.take sn) (ll.take ln) j = false := by
      intro j hj
      by_cases e : j = i
      · rw [e]; exact hb
      · exact hy.2.2 j (by omega)
    have hcl : ¬ (ll.getD i pg0).cl = 2 := of_decide_eq_true hcl
    change Rw Pg at rA
    have hrA : R.getD (ll.getD i pg0).pl.1.toNat Rw.nil = rA := hrA
    have han : (ll.getD i pg0).pl.1.toNat < bs.toNat := by omega
    have hg1 := hy.2.1.row _ han
    have hg2 := hy.2.1.rok _ han
    rw [hrA] at hg1 hg2
    have hgl : rA.l.length < 1000000 := by
      rw [hg1]
      refine Nat.lt_of_le_of_lt blkL_len ?_
      rw [List.length_take, tk_len hl.1]
      omega
    exact hg2.1
  · rename_i u0 hg u1 u2 u3 y hy h1 v1 v2 hc hcl rA hrA u5
    obtain ⟨i, R⟩ := y
    have hy : i ≤ (ll.take ln).length ∧ GOK bs.toNat so sb lo lb ((ll.take ln).take i) R ∧ ∀ j, j < i → pgBad bs ps (sl.take sn) (ll.take ln) j = false := hy
    have h1 : (i : Int) < (ln : Int) := of_decide_eq_true h1
    have e1 : ((i : Int) - 1).toNat + 0 = i - 1 := by omega
    have hb : pgBad bs ps (sl.take sn) (ll.take ln) i = false := by
      unfold pgBad
      rw [tk_get (by omega), tk_get (by omega), ← e1]
      exact hc
    have hf := pgBad_no hb
    rw [tk_get (by omega)] at hf
    have hLi : (ll.take ln).take (i + 1) = (ll.take ln).take i ++ [ll.getD i pg0] := by rw [take_snoc (d := pg0) (by rw [tk_len hl.1]; omega), tk_get (by omega)]
    have hbd : ∀ j, j < i + 1 → pgBad bs ps (sl.take sn) (ll.take ln) j = false := by
      intro j hj
      by_cases e : j = i
      · rw [e]; exact hb
      · exact hy.2.2 j (by omega)
    have hcl : ¬ (ll.getD i pg0).cl = 2 := of_decide_eq_true hcl
    change Rw Pg at rA
    have hrA : R.getD (ll.getD i pg0).pl.1.toNat Rw.nil = rA := hrA
    have han : (ll.getD i pg0).pl.1.toNat < bs.toNat := by omega
    have hg1 := hy.2.1.row _ han
    have hg2 := hy.2.1.rok _ han
    rw [hrA] at hg1 hg2
    have hgl : rA.l.length < 1000000 := by
      rw [hg1]
      refine Nat.lt_of_le_of_lt blkL_len ?_
      rw [List.length_take, tk_len hl.1]
      omega
    intro hon hroom
    have hon : rA.on = true := hon
    have hfar := hy.2.1.far _ han (by rw [hrA]; exact hon)
    have hex := hy.2.1.excl han (by rw [hrA]; exact hon)
    rw [hrA] at hfar hex
    refine ⟨⟨(ll.getD i pg0).pl.1.toNat, by show _ < R.length; rw [hy.2.1.len]; exact han, ?_, hex⟩, And.intro (fun hso => Ne.symm (hfar.1 hso)) (And.intro (fun hlo => Ne.symm (hfar.2 hlo)) trivial)⟩
    refine Eq.trans (b := rA) hrA ?_
    show rA = ⟨true, rA.b, rA.base, rA.m, rA.l⟩
    rw [← hon]
  · rename_i u0 hg u1 u2 u3 y hy h1 v1 v2 hc hcl rA hrA u5 bA qA cA hcA hS
    obtain ⟨i, R⟩ := y
    have hy : i ≤ (ll.take ln).length ∧ GOK bs.toNat so sb lo lb ((ll.take ln).take i) R ∧ ∀ j, j < i → pgBad bs ps (sl.take sn) (ll.take ln) j = false := hy
    have h1 : (i : Int) < (ln : Int) := of_decide_eq_true h1
    have e1 : ((i : Int) - 1).toNat + 0 = i - 1 := by omega
    have hb : pgBad bs ps (sl.take sn) (ll.take ln) i = false := by
      unfold pgBad
      rw [tk_get (by omega), tk_get (by omega), ← e1]
      exact hc
    have hf := pgBad_no hb
    rw [tk_get (by omega)] at hf
    have hLi : (ll.take ln).take (i + 1) = (ll.take ln).take i ++ [ll.getD i pg0] := by rw [take_snoc (d := pg0) (by rw [tk_len hl.1]; omega), tk_get (by omega)]
    have hbd : ∀ j, j < i + 1 → pgBad bs ps (sl.take sn) (ll.take ln) j = false := by
      intro j hj
      by_cases e : j = i
      · rw [e]; exact hb
      · exact hy.2.2 j (by omega)
    have hcl : ¬ (ll.getD i pg0).cl = 2 := of_decide_eq_true hcl
    change Rw Pg at rA
    have hrA : R.getD (ll.getD i pg0).pl.1.toNat Rw.nil = rA := hrA
    have han : (ll.getD i pg0).pl.1.toNat < bs.toNat := by omega
    have hg1 := hy.2.1.row _ han
    have hg2 := hy.2.1.rok _ han
    rw [hrA] at hg1 hg2
    have hgl : rA.l.length < 1000000 := by
      rw [hg1]
      refine Nat.lt_of_le_of_lt blkL_len ?_
      rw [List.length_take, tk_len hl.1]
      omega
    exact hf.1
  · rename_i u0 hg u1 u2 u3 y hy h1 v1 v2 hc hcl rA hrA u5 bA qA cA hcA hS
    obtain ⟨i, R⟩ := y
    have hy : i ≤ (ll.take ln).length ∧ GOK bs.toNat so sb lo lb ((ll.take ln).take i) R ∧ ∀ j, j < i → pgBad bs ps (sl.take sn) (ll.take ln) j = false := hy
    have h1 : (i : Int) < (ln : Int) := of_decide_eq_true h1
    have e1 : ((i : Int) - 1).toNat + 0 = i - 1 := by omega
    have hb : pgBad bs ps (sl.take sn) (ll.take ln) i = false := by
      unfold pgBad
      rw [tk_get (by omega), tk_get (by omega), ← e1]
      exact hc
    have hf := pgBad_no hb
    rw [tk_get (by omega)] at hf
    have hLi : (ll.take ln).take (i + 1) = (ll.take ln).take i ++ [ll.getD i pg0] := by rw [take_snoc (d := pg0) (by rw [tk_len hl.1]; omega), tk_get (by omega)]
    have hbd : ∀ j, j < i + 1 → pgBad bs ps (sl.take sn) (ll.take ln) j = false := by
      intro j hj
      by_cases e : j = i
      · rw [e]; exact hb
      · exact hy.2.2 j (by omega)
    have hcl : ¬ (ll.getD i pg0).cl = 2 := of_decide_eq_true hcl
    change Rw Pg at rA
    have hrA : R.getD (ll.getD i pg0).pl.1.toNat Rw.nil = rA := hrA
    have han : (ll.getD i pg0).pl.1.toNat < bs.toNat := by omega
    have hg1 := hy.2.1.row _ han
    have hg2 := hy.2.1.rok _ han
    rw [hrA] at hg1 hg2
    have hgl : rA.l.length < 1000000 := by
      rw [hg1]
      refine Nat.lt_of_le_of_lt blkL_len ?_
      rw [List.length_take, tk_len hl.1]
      omega
    show (ll.getD i pg0).pl.1 < (bs.toNat : Int)
    omega
  · rename_i u0 hg u1 u2 u3 y hy h1 v1 v2 hc hcl rA hrA u5 bA qA cA hcA hS
    obtain ⟨i, R⟩ := y
    have hy : i ≤ (ll.take ln).length ∧ GOK bs.toNat so sb lo lb ((ll.take ln).take i) R ∧ ∀ j, j < i → pgBad bs ps (sl.take sn) (ll.take ln) j = false := hy
    have h1 : (i : Int) < (ln : Int) := of_decide_eq_true h1
    have e1 : ((i : Int) - 1).toNat + 0 = i - 1 := by omega
    have hb : pgBad bs ps (sl.take sn) (ll.take ln) i = false := by
      unfold pgBad
      rw [tk_get (by omega), tk_get (by omega), ← e1]
      exact hc
    have hf := pgBad_no hb
    rw [tk_get (by omega)] at hf
    have hLi : (ll.take ln).take (i + 1) = (ll.take ln).take i ++ [ll.getD i pg0] := by rw [take_snoc (d := pg0) (by rw [tk_len hl.1]; omega), tk_get (by omega)]
    have hbd : ∀ j, j < i + 1 → pgBad bs ps (sl.take sn) (ll.take ln) j = false := by
      intro j hj
      by_cases e : j = i
      · rw [e]; exact hb
      · exact hy.2.2 j (by omega)
    have hcl : ¬ (ll.getD i pg0).cl = 2 := of_decide_eq_true hcl
    change Rw Pg at rA
    have hrA : R.getD (ll.getD i pg0).pl.1.toNat Rw.nil = rA := hrA
    have han : (ll.getD i pg0).pl.1.toNat < bs.toNat := by omega
    have hg1 := hy.2.1.row _ han
    have hg2 := hy.2.1.rok _ han
    rw [hrA] at hg1 hg2
    have hgl : rA.l.length < 1000000 := by
      rw [hg1]
      refine Nat.lt_of_le_of_lt blkL_len ?_
      rw [List.length_take, tk_len hl.1]
      omega
    show (ll.getD i pg0).pl.1.toNat + 0 < R.length
    rw [hy.2.1.len]
    omega
  · rename_i u0 hg u1 u2 u3 y hy h1 v1 v2 hc hcl rA hrA u5 bA qA cA hcA hS
    obtain ⟨i, R⟩ := y
    have hy : i ≤ (ll.take ln).length ∧ GOK bs.toNat so sb lo lb ((ll.take ln).take i) R ∧ ∀ j, j < i → pgBad bs ps (sl.take sn) (ll.take ln) j = false := hy
    have h1 : (i : Int) < (ln : Int) := of_decide_eq_true h1
    have e1 : ((i : Int) - 1).toNat + 0 = i - 1 := by omega
    have hb : pgBad bs ps (sl.take sn) (ll.take ln) i = false := by
      unfold pgBad
      rw [tk_get (by omega), tk_get (by omega), ← e1]
      exact hc
    have hf := pgBad_no hb
    rw [tk_get (by omega)] at hf
    have hLi : (ll.take ln).take (i + 1) = (ll.take ln).take i ++ [ll.getD i pg0] := by rw [take_snoc (d := pg0) (by rw [tk_len hl.1]; omega), tk_get (by omega)]
    have hbd : ∀ j, j < i + 1 → pgBad bs ps (sl.take sn) (ll.take ln) j = false := by
      intro j hj
      by_cases e : j = i
      · rw [e]; exact hb
      · exact hy.2.2 j (by omega)
    have hcl : ¬ (ll.getD i pg0).cl = 2 := of_decide_eq_true hcl
    change Rw Pg at rA
    have hrA : R.getD (ll.getD i pg0).pl.1.toNat Rw.nil = rA := hrA
    have han : (ll.getD i pg0).pl.1.toNat < bs.toNat := by omega
    have hg1 := hy.2.1.row _ han
    have hg2 := hy.2.1.rok _ han
    rw [hrA] at hg1 hg2
    have hgl : rA.l.length < 1000000 := by
      rw [hg1]
      refine Nat.lt_of_le_of_lt blkL_len ?_
      rw [List.length_take, tk_len hl.1]
      omega
    show rA.l.length + 1 = (rA.l ++ [ll.getD i pg0]).length
    simp
  · rename_i u0 hg u1 u2 u3 y hy h1 v1 v2 hc hcl rA hrA u5 bA qA cA hcA hS
    obtain ⟨i, R⟩ := y
    have hy : i ≤ (ll.take ln).length ∧ GOK bs.toNat so sb lo lb ((ll.take ln).take i) R ∧ ∀ j, j < i → pgBad bs ps (sl.take sn) (ll.take ln) j = false := hy
    have h1 : (i : Int) < (ln : Int) := of_decide_eq_true h1
    have e1 : ((i : Int) - 1).toNat + 0 = i - 1 := by omega
    have hb : pgBad bs ps (sl.take sn) (ll.take ln) i = false := by
      unfold pgBad
      rw [tk_get (by omega), tk_get (by omega), ← e1]
      exact hc
    have hf := pgBad_no hb
    rw [tk_get (by omega)] at hf
    have hLi : (ll.take ln).take (i + 1) = (ll.take ln).take i ++ [ll.getD i pg0] := by rw [take_snoc (d := pg0) (by rw [tk_len hl.1]; omega), tk_get (by omega)]
    have hbd : ∀ j, j < i + 1 → pgBad bs ps (sl.take sn) (ll.take ln) j = false := by
      intro j hj
      by_cases e : j = i
      · rw [e]; exact hb
      · exact hy.2.2 j (by omega)
    have hcl : ¬ (ll.getD i pg0).cl = 2 := of_decide_eq_true hcl
    change Rw Pg at rA
    have hrA : R.getD (ll.getD i pg0).pl.1.toNat Rw.nil = rA := hrA
    have han : (ll.getD i pg0).pl.1.toNat < bs.toNat := by omega
    have hg1 := hy.2.1.row _ han
    have hg2 := hy.2.1.rok _ han
    rw [hrA] at hg1 hg2
    have hgl : rA.l.length < 1000000 := by
      rw [hg1]
      refine Nat.lt_of_le_of_lt blkL_len ?_
      rw [List.length_take, tk_len hl.1]
      omega
    exact inR64 (by show -9223372036854775808 ≤ (i : Int) + 1; omega) (by show (i : Int) + 1 ≤ 9223372036854775807; omega)
  · rename_i u0 hg u1 u2 u3 y hy h1 v1 v2 hc hcl rA hrA u5 bA qA cA hcA hS
    obtain ⟨i, R⟩ := y
    have hy : i ≤ (ll.take ln).length ∧ GOK bs.toNat so sb lo lb ((ll.take ln).take i) R ∧ ∀ j, j < i → pgBad bs ps (sl.take sn) (ll.take ln) j = false := hy
    have h1 : (i : Int) < (ln : Int) := of_decide_eq_true h1
    have e1 : ((i : Int) - 1).toNat + 0 = i - 1 := by omega
    have hb : pgBad bs ps (sl.take sn) (ll.take ln) i = false := by
      unfold pgBad
      rw [tk_get (by omega), tk_get (by omega), ← e1]
      exact hc
    have hf := pgBad_no hb
    rw [tk_get (by omega)] at hf
    have hLi : (ll.take ln).take (i + 1) = (ll.take ln).take i ++ [ll.getD i pg0] := by rw [take_snoc (d := pg0) (by rw [tk_len hl.1]; omega), tk_get (by omega)]
    have hbd : ∀ j, j < i + 1 → pgBad bs ps (sl.take sn) (ll.take ln) j = false := by
      intro j hj
      by_cases e : j = i
      · rw [e]; exact hb
      · exact hy.2.2 j (by omega)
    have hcl : ¬ (ll.getD i pg0).cl = 2 := of_decide_eq_true hcl
    change Rw Pg at rA
    have hrA : R.getD (ll.getD i pg0).pl.1.toNat Rw.nil = rA := hrA
    have han : (ll.getD i pg0).pl.1.toNat < bs.toNat := by omega
    have hg1 := hy.2.1.row _ han
    have hg2 := hy.2.1.rok _ han
    rw [hrA] at hg1 hg2
    have hgl : rA.l.length < 1000000 := by
      rw [hg1]
      refine Nat.lt_of_le_of_lt blkL_len ?_
      rw [List.length_take, tk_len hl.1]
      omega
    have hput : GOK bs.toNat so sb lo lb ((ll.take ln).take (i + 1)) (R.set (ll.getD i pg0).pl.1.toNat ⟨true, bA, qA, cA, rA.l ++ [ll.getD i pg0]⟩) := by
      rw [hLi, hg1]
      refine hy.2.1.put han (by omega) hcl (by rw [← hg1]; exact hcA) ?_
      rw [hrA]
      rcases hS with hS | hS
      · exact .inl ⟨hS.1, hS.2.2.1⟩
      · have hF := freshL_to hS
        exact .inr ⟨fun hso e => (hF 0 (show 0 < 10 by decide)).1 hso e.symm, fun hlo e => (hF 1 (show 1 < 10 by decide)).1 hlo e.symm, fun r hr => (hF 3 (show 3 < 10 by decide)).2 33 r (.rows hr)⟩
    refine Stands.one (i + 1, R.set (ll.getD i pg0).pl.1.toNat ⟨true, bA, qA, cA, rA.l ++ [ll.getD i pg0]⟩) ⟨⟨by show i + 1 ≤ (ll.take ln).length; rw [tk_len hl.1]; omega, hput, hbd⟩, by show (ll.take ln).length - (i + 1) < (ll.take ln).length - i; rw [tk_len hl.1]; omega, ?_⟩
    ((conv => (arg 1; reduce)); with_reducible repeat' (first | exact Tr.yes_h | refine Tr.and_h ?_ ?_ | refine Tr.imp_h fun _ => ?_ | refine Tr.all_h fun _ => ?_ | refine Tr.lf_h ?_))
    all_goals (first | first | (show Region.lexB _ _ = true; kernel_rfl) | (show planned _ _ = true; kernel_rfl) | exact rfl | exact True.intro | (first | exact key3 | exact zeroB | exact zeroR | exact zeroS | exact ⟨key3, zeroB⟩ | exact ⟨key3, zeroR⟩ | exact ⟨key3, zeroS⟩) | ((try dsimp only [imp, C0, cG, cInt, cPl, cSlot, cPg, gwCodec] at *); (try refine inR64 ?_ ?_) <;> (try simp only [List.length_set, List.length_append, List.length_take, List.length_drop]) <;> omega))
  · rename_i u0 hg u1 u2 u3 y hy h1 v1 v2 hc hcl
    obtain ⟨i, R⟩ := y
    have hy : i ≤ (ll.take ln).length ∧ GOK bs.toNat so sb lo lb ((ll.take ln).take i) R ∧ ∀ j, j < i → pgBad bs ps (sl.take sn) (ll.take ln) j = false := hy
    have h1 : (i : Int) < (ln : Int) := of_decide_eq_true h1
    have e1 : ((i : Int) - 1).toNat + 0 = i - 1 := by omega
    have hb : pgBad bs ps (sl.take sn) (ll.take ln) i = false := by
      unfold pgBad
      rw [tk_get (by omega), tk_get (by omega), ← e1]
      exact hc
    have hf := pgBad_no hb
    rw [tk_get (by omega)] at hf
    have hLi : (ll.take ln).take (i + 1) = (ll.take ln).take i ++ [ll.getD i pg0] := by rw [take_snoc (d := pg0) (by rw [tk_len hl.1]; omega), tk_get (by omega)]
    have hbd : ∀ j, j < i + 1 → pgBad bs ps (sl.take sn) (ll.take ln) j = false := by
      intro j hj
      by_cases e : j = i
      · rw [e]; exact hb
      · exact hy.2.2 j (by omega)
    have hcl : (ll.getD i pg0).cl = 2 := Decidable.of_not_not (of_decide_eq_false hcl)
    exact inR64 (by show -9223372036854775808 ≤ (i : Int) + 1; omega) (by show (i : Int) + 1 ≤ 9223372036854775807; omega)
  · rename_i u0 hg u1 u2 u3 y hy h1 v1 v2 hc hcl
    obtain ⟨i, R⟩ := y
    have hy : i ≤ (ll.take ln).length ∧ GOK bs.toNat so sb lo lb ((ll.take ln).take i) R ∧ ∀ j, j < i → pgBad bs ps (sl.take sn) (ll.take ln) j = false := hy
    have h1 : (i : Int) < (ln : Int) := of_decide_eq_true h1
    have e1 : ((i : Int) - 1).toNat + 0 = i - 1 := by omega
    have hb : pgBad bs ps (sl.take sn) (ll.take ln) i = false := by
      unfold pgBad
      rw [tk_get (by omega), tk_get (by omega), ← e1]
      exact hc
    have hf := pgBad_no hb
    rw [tk_get (by omega)] at hf
    have hLi : (ll.take ln).take (i + 1) = (ll.take ln).take i ++ [ll.getD i pg0] := by rw [take_snoc (d := pg0) (by rw [tk_len hl.1]; omega), tk_get (by omega)]
    have hbd : ∀ j, j < i + 1 → pgBad bs ps (sl.take sn) (ll.take ln) j = false := by
      intro j hj
      by_cases e : j = i
      · rw [e]; exact hb
      · exact hy.2.2 j (by omega)
    have hcl : (ll.getD i pg0).cl = 2 := Decidable.of_not_not (of_decide_eq_false hcl)
    refine Stands.one (i + 1, R) ⟨⟨by show i + 1 ≤ (ll.take ln).length; rw [tk_len hl.1]; omega, by show GOK _ _ _ _ _ ((ll.take ln).take (i + 1)) _; rw [hLi]; exact hy.2.1.no hcl, hbd⟩, by show (ll.take ln).length - (i + 1) < (ll.take ln).length - i; rw [tk_len hl.1]; omega, ?_⟩
    ((conv => (arg 1; reduce)); with_reducible repeat' (first | exact Tr.yes_h | refine Tr.and_h ?_ ?_ | refine Tr.imp_h fun _ => ?_ | refine Tr.all_h fun _ => ?_ | refine Tr.lf_h ?_))
    all_goals (first | first | (show Region.lexB _ _ = true; kernel_rfl) | (show planned _ _ = true; kernel_rfl) | exact rfl | exact True.intro | (first | exact key3 | exact zeroB | exact zeroR | exact zeroS | exact ⟨key3, zeroB⟩ | exact ⟨key3, zeroR⟩ | exact ⟨key3, zeroS⟩) | ((try dsimp only [imp, C0, cG, cInt, cPl, cSlot, cPg, gwCodec] at *); (try refine inR64 ?_ ?_) <;> (try simp only [List.length_set, List.length_append, List.length_take, List.length_drop]) <;> omega))
  · rename_i u0 hg u1 u2 u3 y hy h1
    obtain ⟨i, R⟩ := y
    have hy : i ≤ (ll.take ln).length ∧ GOK bs.toNat so sb lo lb ((ll.take ln).take i) R ∧ ∀ j, j < i → pgBad bs ps (sl.take sn) (ll.take ln) j = false := hy
    have h1 : ¬ (i : Int) < (ln : Int) := of_decide_eq_false h1
    have ei : i = (ll.take ln).length := by have := hy.1; rw [tk_len hl.1] at this ⊢; omega
    have hG : GOK bs.toNat so sb lo lb (ll.take ln) R := by
      have := hy.2.1
      rw [ei, List.take_of_length_le (Nat.le_refl _)] at this
      exact this
    have hM := hG.mem (by rw [tk_len hl.1]; exact hl.2.1)
    have hgr := hG.grid
    have hbn : bs = (bs.toNat : Int) := by omega
    have hx : Cx.ok ⟨u3, 0, bs, ps, ss, so, sb, sq, sl, sn, sc, u1, 0, R, bs.toNat, bs.toNat, u2⟩ :=
      ⟨hbn, hG.len.symm, by show bs.toNat ≤ 64; omega, ⟨by show 0 ≤ ps; omega, hps.2⟩, ⟨by show 0 ≤ ss; omega, hss.2⟩, fun r hr => (hM r hr).1, fun r hr => (hM r hr).2, hs⟩
    exact hx
  · rename_i u0 hg u1 u2 u3 y hy h1 Y1 hY1
    obtain ⟨i, R⟩ := y
    have hy : i ≤ (ll.take ln).length ∧ GOK bs.toNat so sb lo lb ((ll.take ln).take i) R ∧ ∀ j, j < i → pgBad bs ps (sl.take sn) (ll.take ln) j = false := hy
    have h1 : ¬ (i : Int) < (ln : Int) := of_decide_eq_false h1
    have ei : i = (ll.take ln).length := by have := hy.1; rw [tk_len hl.1] at this ⊢; omega
    have hG : GOK bs.toNat so sb lo lb (ll.take ln) R := by
      have := hy.2.1
      rw [ei, List.take_of_length_le (Nat.le_refl _)] at this
      exact this
    have hM := hG.mem (by rw [tk_len hl.1]; exact hl.2.1)
    have hgr := hG.grid
    have hbn : bs = (bs.toNat : Int) := by omega
    have hx : Cx.ok ⟨u3, 0, bs, ps, ss, so, sb, sq, sl, sn, sc, u1, 0, R, bs.toNat, bs.toNat, u2⟩ :=
      ⟨hbn, hG.len.symm, by show bs.toNat ≤ 64; omega, ⟨by show 0 ≤ ps; omega, hps.2⟩, ⟨by show 0 ≤ ss; omega, hss.2⟩, fun r hr => (hM r hr).1, fun r hr => (hM r hr).2, hs⟩
    exact ⟨hx, hY1.1⟩
  · rename_i u0 hg u1 u2 u3 y hy h1 Y1 hY1 Y2 hY2
    obtain ⟨i, R⟩ := y
    have hy : i ≤ (ll.take ln).length ∧ GOK bs.toNat so sb lo lb ((ll.take ln).take i) R ∧ ∀ j, j < i → pgBad bs ps (sl.take sn) (ll.take ln) j = false := hy
    have h1 : ¬ (i : Int) < (ln : Int) := of_decide_eq_false h1
    have ei : i = (ll.take ln).length := by have := hy.1; rw [tk_len hl.1] at this ⊢; omega
    have hG : GOK bs.toNat so sb lo lb (ll.take ln) R := by
      have := hy.2.1
      rw [ei, List.take_of_length_le (Nat.le_refl _)] at this
      exact this
    have hM := hG.mem (by rw [tk_len hl.1]; exact hl.2.1)
    have hgr := hG.grid
    have hbn : bs = (bs.toNat : Int) := by omega
    have hx : Cx.ok ⟨u3, 0, bs, ps, ss, so, sb, sq, sl, sn, sc, u1, 0, R, bs.toNat, bs.toNat, u2⟩ :=
      ⟨hbn, hG.len.symm, by show bs.toNat ≤ 64; omega, ⟨by show 0 ≤ ps; omega, hps.2⟩, ⟨by show 0 ≤ ss; omega, hss.2⟩, fun r hr => (hM r hr).1, fun r hr => (hM r hr).2, hs⟩
    refine ⟨hx, hY1.1, ?_, ?_⟩
    · have h9 := hY2.1
      have e : _ = _ := h9.1
      rw [← e] at h9
      exact h9
    · have e : _ = _ := hY2.1.1
      rw [e]
      exact Nat.le_trans sloL_len (keyL_len ⟨⟨by show 0 ≤ bs; omega, by show bs ≤ 64; omega⟩, ⟨by show 0 ≤ ps; omega, hps.2⟩, ⟨by show 0 ≤ ss; omega, hss.2⟩⟩)
  · rename_i u0 hg u1 u2 u3 y hy h1 Y1 hY1 Y2 hY2 Y3 hY3
    obtain ⟨i, R⟩ := y
    have hy : i ≤ (ll.take ln).length ∧ GOK bs.toNat so sb lo lb ((ll.take ln).take i) R ∧ ∀ j, j < i → pgBad bs ps (sl.take sn) (ll.take ln) j = false := hy
    have h1 : ¬ (i : Int) < (ln : Int) := of_decide_eq_false h1
    have ei : i = (ll.take ln).length := by have := hy.1; rw [tk_len hl.1] at this ⊢; omega
    have hG : GOK bs.toNat so sb lo lb (ll.take ln) R := by
      have := hy.2.1
      rw [ei, List.take_of_length_le (Nat.le_refl _)] at this
      exact this
    have hM := hG.mem (by rw [tk_len hl.1]; exact hl.2.1)
    have hgr := hG.grid
    have hbn : bs = (bs.toNat : Int) := by omega
    have hx : Cx.ok ⟨u3, 0, bs, ps, ss, so, sb, sq, sl, sn, sc, u1, 0, R, bs.toNat, bs.toNat, u2⟩ :=
      ⟨hbn, hG.len.symm, by show bs.toNat ≤ 64; omega, ⟨by show 0 ≤ ps; omega, hps.2⟩, ⟨by show 0 ≤ ss; omega, hss.2⟩, fun r hr => (hM r hr).1, fun r hr => (hM r hr).2, hs⟩
    have hbd : ∀ j, j < (ll.take ln).length → pgBad bs ps (sl.take sn) (ll.take ln) j = false := by
      intro j hj
      exact hy.2.2 j (by omega)
    have hA : Gth (sloS ⟨bs, ps, ss⟩ bs.toNat (R.map fun r => r.l)) Y2.1 ∧ Gth (orfS bs.toNat (R.map fun r => r.l)) Y2.2 := hY2
    have eA : _ = _ := hA.1.1
    have hB : Gth (freS (sl.take sn) bs.toNat (R.map fun r => r.l)) Y3.1 ∧ Gth (numL (dirP (sl.take sn) bs.toNat (R.map fun r => r.l) (nmOf bs.toNat (R.map fun r => r.l)).f (Y2.1.2.2.2.1.take Y2.1.2.2.2.2.1)) bs.toNat) Y3.2 := hY3
    rw [eA] at hB
    have hC : Gth (badL bs.toNat (R.map fun r => r.l)) Y1.2.2 := hY1.2
    have e1 : fTo (mxH Me.seq) allF (R.map fun r => r.l) bs.toNat = (nmOf bs.toNat (gridL bs.toNat (ll.take ln))).s := by rw [← hgr]; rfl
    have e2 : fTo (mxH Me.stamp) allF (R.map fun r => r.l) bs.toNat = (nmOf bs.toNat (gridL bs.toNat (ll.take ln))).t := by rw [← hgr]; rfl
    have e3 : max (fTo (mxH Me.batch) allF (R.map fun r => r.l) bs.toNat) (fTo flH (cntF bs.toNat (R.map fun r => r.l)) (R.map fun r => r.l) bs.toNat) = (nmOf bs.toNat (gridL bs.toNat (ll.take ln))).b := by rw [← hgr]; rfl
    have e4 : fTo flH (cntF bs.toNat (R.map fun r => r.l)) (R.map fun r => r.l) bs.toNat = (nmOf bs.toNat (gridL bs.toNat (ll.take ln))).f := by rw [← hgr]; rfl
    rw [hgr] at hA hB hC
    refine Ends.one (Y2.1, Y3.1, Y3.2, Y1.2.2, Y2.2) ⟨hbd, hA.1, hB.1, hB.2, hC, hA.2⟩ ?_
    ((conv => (arg 1; reduce)); with_reducible repeat' (first | exact Tr.yes_h | refine Tr.and_h ?_ ?_ | refine Tr.imp_h fun _ => ?_ | refine Tr.all_h fun _ => ?_ | refine Tr.lf_h ?_))
    all_goals first | (first | first | (show Region.lexB _ _ = true; kernel_rfl) | (show planned _ _ = true; kernel_rfl) | exact rfl | exact True.intro | (first | exact key3 | exact zeroB | exact zeroR | exact zeroS | exact ⟨key3, zeroB⟩ | exact ⟨key3, zeroR⟩ | exact ⟨key3, zeroS⟩) | ((try dsimp only [imp, C0, cG, cInt, cPl, cSlot, cPg, gwCodec] at *); (try refine inR64 ?_ ?_) <;> (try simp only [List.length_set, List.length_append, List.length_take, List.length_drop]) <;> omega)) | exact e1 | exact e1.symm | exact e2 | exact e2.symm | exact e3 | exact e3.symm | exact e4 | exact e4.symm
end Go.Vx
set_option maxRecDepth 100000
namespace Go.Vx
open Go Go.Proofs
variable [Gl]

theorem samePlace_ok (a b : Pl) : Tells (C := C0) Tryd.prog (.fn 14) [] [.agg (plE a), .agg (plE b)] (.bool (.tm (decide (a.1 = b.1) && decide (a.2 = b.2)))) := by
  refine loc_pc (P := Tryd.prog) (E := ⟨[], [], 17, [], [], []⟩) (L := []) mix Tryd.func14 rfl (by kernel_rfl) (by kernel_rfl) rfl rfl ?_
  ((conv => (arg 1; reduce)); with_reducible repeat' (first | exact Tr.yes_h | refine Tr.and_h ?_ ?_ | refine Tr.imp_h fun _ => ?_ | refine Tr.all_h fun _ => ?_ | refine Tr.lf_h ?_))
  all_goals (first | first | (show Region.lexB _ _ = true; kernel_rfl) | (show planned _ _ = true; kernel_rfl) | exact rfl | exact True.intro | (first | exact key3 | exact zeroB | exact zeroR | exact zeroS | exact ⟨key3, zeroB⟩ | exact ⟨key3, zeroR⟩ | exact ⟨key3, zeroS⟩) | ((try dsimp only [imp, C0, cG, cInt, cPl, cSlot, cPg, gwCodec] at *); (try refine inR64 ?_ ?_) <;> (try simp only [List.length_set, List.length_append, List.length_take, List.length_drop]) <;> omega))
def pcSamePlace : Pc Tryd.prog C0 where
  tg := .fn 14
  X := Pl × Pl
  args x := [.agg (plE x.1), .agg (plE x.2)]
  mem _ := []
  pre _ := True
  res x := .bool (.tm (decide (x.1.1 = x.2.1) && decide (x.1.2 = x.2.2)))
  mat vs _ := match vs with
    | [.agg [.int _ a1, .int _ a2], .agg [.int _ b1, .int _ b2]] => some (((a1, a2), (b1, b2)), [])
    | _ => none
  ok x _ := samePlace_ok x.1 x.2
theorem sameMeta_ok (a b : Me) : Tells (C := C0) Tryd.prog (.fn 16) [] [.agg (meE a), .agg (meE b)] (.bool (.tm (eqMe a b))) := by
  refine loc_pc (P := Tryd.prog) (E := ⟨[], [], 45, [], [], []⟩) (L := []) mix Tryd.func16 rfl (by kernel_rfl) (by kernel_rfl) rfl rfl ?_
  ((conv => (arg 1; reduce)); with_reducible repeat' (first | exact Tr.yes_h | refine Tr.and_h ?_ ?_ | refine Tr.imp_h fun _ => ?_ | refine Tr.all_h fun _ => ?_ | refine Tr.lf_h ?_))
  all_goals (first | first | (show Region.lexB _ _ = true; kernel_rfl) | (show planned _ _ = true; kernel_rfl) | exact rfl | exact True.intro | (first | exact key3 | exact zeroB | exact zeroR | exact zeroS | exact ⟨key3, zeroB⟩ | exact ⟨key3, zeroR⟩ | exact ⟨key3, zeroS⟩) | ((try dsimp only [imp, C0, cG, cInt, cPl, cSlot, cPg, gwCodec] at *); (try refine inR64 ?_ ?_) <;> (try simp only [List.length_set, List.length_append, List.length_take, List.length_drop]) <;> omega))
def pcSameMeta : Pc Tryd.prog C0 where
  tg := .fn 16
  X := Me × Me
  args x := [.agg (meE x.1), .agg (meE x.2)]
  mem _ := []
  pre _ := True
  res x := .bool (.tm (eqMe x.1 x.2))
  mat vs _ := match vs with
    | [.agg [.int _ a1, .int _ a2, .int _ a3, .int _ a4, .int _ a5, .int _ a6], .agg [.int _ b1, .int _ b2, .int _ b3, .int _ b4, .int _ b5, .int _ b6]] => some ((⟨a1, a2, a3, a4, a5, a6⟩, ⟨b1, b2, b3, b4, b5, b6⟩), [])
    | _ => none
  ok x _ := sameMeta_ok x.1 x.2
theorem rnewer_ok (a b : Me) : Tells (C := C0) Tryd.prog (.fn 17) [] [.agg (meE a), .agg (meE b)] (.bool (.tm (newer a b))) := by
  refine loc_pc (P := Tryd.prog) (E := ⟨[], [], 24, [], [], []⟩) (L := []) mix Tryd.func17 rfl (by kernel_rfl) (by kernel_rfl) rfl rfl ?_
  ((conv => (arg 1; reduce)); with_reducible repeat' (first | exact Tr.yes_h | refine Tr.and_h ?_ ?_ | refine Tr.imp_h fun _ => ?_ | refine Tr.all_h fun _ => ?_ | refine Tr.lf_h ?_))
  all_goals (first | first | (show Region.lexB _ _ = true; kernel_rfl) | (show planned _ _ = true; kernel_rfl) | exact rfl | exact True.intro | (first | exact key3 | exact zeroB | exact zeroR | exact zeroS | exact ⟨key3, zeroB⟩ | exact ⟨key3, zeroR⟩ | exact ⟨key3, zeroS⟩) | ((try dsimp only [imp, C0, cG, cInt, cPl, cSlot, cPg, gwCodec] at *); (try refine inR64 ?_ ?_) <;> (try simp only [List.length_set, List.length_append, List.length_take, List.length_drop]) <;> omega))
def pcRnewer : Pc Tryd.prog C0 where
  tg := .fn 17
  X := Me × Me
  args x := [.agg (meE x.1), .agg (meE x.2)]
  mem _ := []
  pre _ := True
  res x := .bool (.tm (newer x.1 x.2))
  mat vs _ := match vs with
    | [.agg [.int _ a1, .int _ a2, .int _ a3, .int _ a4, .int _ a5, .int _ a6], .agg [.int _ b1, .int _ b2, .int _ b3, .int _ b4, .int _ b5, .int _ b6]] => some ((⟨a1, a2, a3, a4, a5, a6⟩, ⟨b1, b2, b3, b4, b5, b6⟩), [])
    | _ => none
  ok x _ := rnewer_ok x.1 x.2
theorem ralive_ok (m : Me) (f : Int) : Tells (C := C0) Tryd.prog (.fn 15) [] [.agg (meE m), .int .i64 f] (.bool (.tm (alive m f))) := by
  refine loc_pc (P := Tryd.prog) (E := ⟨[], [], 14, [], [], []⟩) (L := []) mix Tryd.func15 rfl (by kernel_rfl) (by kernel_rfl) rfl rfl ?_
  ((conv => (arg 1; reduce)); with_reducible repeat' (first | exact Tr.yes_h | refine Tr.and_h ?_ ?_ | refine Tr.imp_h fun _ => ?_ | refine Tr.all_h fun _ => ?_ | refine Tr.lf_h ?_))
  all_goals (first | first | (show Region.lexB _ _ = true; kernel_rfl) | (show planned _ _ = true; kernel_rfl) | exact rfl | exact True.intro | (first | exact key3 | exact zeroB | exact zeroR | exact zeroS | exact ⟨key3, zeroB⟩ | exact ⟨key3, zeroR⟩ | exact ⟨key3, zeroS⟩) | ((try dsimp only [imp, C0, cG, cInt, cPl, cSlot, cPg, gwCodec] at *); (try refine inR64 ?_ ?_) <;> (try simp only [List.length_set, List.length_append, List.length_take, List.length_drop]) <;> omega))
def pcRalive : Pc Tryd.prog C0 where
  tg := .fn 15
  X := Me × Int
  args x := [.agg (meE x.1), .int .i64 x.2]
  mem _ := []
  pre _ := True
  res x := .bool (.tm (alive x.1 x.2))
  mat vs _ := match vs with
    | [.agg [.int _ a1, .int _ a2, .int _ a3, .int _ a4, .int _ a5, .int _ a6], .int _ f] => some ((⟨a1, a2, a3, a4, a5, a6⟩, f), [])
    | _ => none
  ok x _ := ralive_ok x.1 x.2
theorem page_ok (b a : Int) (m : Me) : Tells (C := C0) Tryd.prog (.fn 21) [] [.int .i64 b, .int .i64 a, .agg (meE m)] (.agg (pgE ⟨(b, a), 1, m⟩)) := by
  refine loc_pc (P := Tryd.prog) (E := ⟨[], [], 12, [], [], []⟩) (L := []) mix Tryd.func21 rfl (by kernel_rfl) (by kernel_rfl) rfl rfl ?_
  ((conv => (arg 1; reduce)); with_reducible repeat' (first | exact Tr.yes_h | refine Tr.and_h ?_ ?_ | refine Tr.imp_h fun _ => ?_ | refine Tr.all_h fun _ => ?_ | refine Tr.lf_h ?_))
  all_goals (first | first | (show Region.lexB _ _ = true; kernel_rfl) | (show planned _ _ = true; kernel_rfl) | exact rfl | exact True.intro | (first | exact key3 | exact zeroB | exact zeroR | exact zeroS | exact ⟨key3, zeroB⟩ | exact ⟨key3, zeroR⟩ | exact ⟨key3, zeroS⟩) | ((try dsimp only [imp, C0, cG, cInt, cPl, cSlot, cPg, gwCodec] at *); (try refine inR64 ?_ ?_) <;> (try simp only [List.length_set, List.length_append, List.length_take, List.length_drop]) <;> omega))
def pcPage : Pc Tryd.prog C0 where
  tg := .fn 21
  X := Int × Int × Me
  args x := [.int .i64 x.1, .int .i64 x.2.1, .agg (meE x.2.2)]
  mem _ := []
  pre _ := True
  res x := .agg (pgE ⟨(x.1, x.2.1), 1, x.2.2⟩)
  mat vs _ := match vs with
    | [.int _ b, .int _ a, .agg [.int _ a1, .int _ a2, .int _ a3, .int _ a4, .int _ a5, .int _ a6]] => some ((b, a, ⟨a1, a2, a3, a4, a5, a6⟩), [])
    | _ => none
  ok x _ := page_ok x.1 x.2.1 x.2.2
/-- A page's key, az the document tells it; -1: it has none. -/
@[irreducible] def rkey (bs ps ss : Int) (m : Me) : Int := if keyH bs ps ss m then keyV bs ps ss m else -1
theorem rkey_spec (m : Me) {bs ps ss : Int} (h : 0 ≤ bs ∧ bs ≤ 64 ∧ 0 ≤ ps ∧ ps ≤ 64 ∧ 0 ≤ ss ∧ ss ≤ 536870912) :
    rkey bs ps ss m = if m.kind = 4 then ss + bs + ps else if m.key < 0 then -1 else if m.kind = 2 ∨ m.kind = 3 then (if m.key < ss then m.key else -1)
      else if m.kind = 5 then (if m.key < bs then ss + m.key else -1) else if m.kind = 6 then (if m.key < ps then ss + bs + m.key else -1) else -1 := by
  have hw : ∀ a b : Int, 0 ≤ a → a ≤ 536871000 → 0 ≤ b → b ≤ 536871000 → IntKind.wrap .i64 (a + b) = a + b := fun a b h1 h2 h3 h4 => inR64 (by omega) (by omega)
  unfold rkey keyH keyV keyN
  by_cases h4 : m.kind = 4
  · simp [h4]
  by_cases h2 : m.kind = 2 ∨ m.kind = 3
  · simp only [if_neg h4, if_pos h2, Bool.and_eq_true, decide_eq_true_eq]
    (repeat' split) <;> first | omega | (rw [hw] <;> omega)
  by_cases h5 : m.kind = 5
  · simp only [if_neg h4, if_neg h2, if_pos h5, Bool.and_eq_true, decide_eq_true_eq]
    (repeat' split) <;> first | omega | (rw [hw] <;> omega)
  by_cases h6 : m.kind = 6
  · simp only [if_neg h4, if_neg h2, if_neg h5, if_pos h6, Bool.and_eq_true, decide_eq_true_eq]
    (repeat' split) <;> first | omega | (rw [hw] <;> omega)
  simp only [if_neg h4, if_neg h2, if_neg h5, if_neg h6, Bool.and_eq_true, decide_eq_true_eq]
  (repeat' split) <;> first | omega | (rw [hw] <;> omega)
theorem rkey_ok (m : Me) (bs ps ss : Int) (h : 0 ≤ bs ∧ bs ≤ 64 ∧ 0 ≤ ps ∧ ps ≤ 64 ∧ 0 ≤ ss ∧ ss ≤ 536870912) :
    Tells (C := C0) Tryd.prog (.fn 11) [] [.agg (meE m), .int .i64 bs, .int .i64 ps, .int .i64 ss] (.int .i64 (rkey bs ps ss m)) := by
  refine loc_pc (P := Tryd.prog) (E := ⟨[], [], 57, [], [], []⟩) (L := []) mix Tryd.func11 rfl (by kernel_rfl) (by kernel_rfl) rfl rfl ?_
  ((conv => (arg 1; reduce)); with_reducible repeat' (first | exact Tr.yes_h | refine Tr.and_h ?_ ?_ | refine Tr.imp_h fun _ => ?_ | refine Tr.all_h fun _ => ?_ | refine Tr.lf_h ?_))
  all_goals try (first | first | (show Region.lexB _ _ = true; kernel_rfl) | (show planned _ _ = true; kernel_rfl) | exact rfl | exact True.intro | (first | exact key3 | exact zeroB | exact zeroR | exact zeroS | exact ⟨key3, zeroB⟩ | exact ⟨key3, zeroR⟩ | exact ⟨key3, zeroS⟩) | ((try dsimp only [imp, C0, cG, cInt, cPl, cSlot, cPg, gwCodec] at *); (try refine inR64 ?_ ?_) <;> (try simp only [List.length_set, List.length_append, List.length_take, List.length_drop]) <;> omega))
  all_goals
    have hh := rkey_spec m h
    simp only [Bool.and_eq_true, Bool.and_eq_false_iff, decide_eq_true_eq, decide_eq_false_iff_not, SB.val] at *
    first
      | exact inR64 (by omega) (by omega)
      | (rw [hh]; (repeat' split) <;> omega)
def pcRkey : Pc Tryd.prog C0 where
  tg := .fn 11
  X := Me × Int × Int × Int
  args x := [.agg (meE x.1), .int .i64 x.2.1, .int .i64 x.2.2.1, .int .i64 x.2.2.2]
  mem _ := []
  pre x := 0 ≤ x.2.1 ∧ x.2.1 ≤ 64 ∧ 0 ≤ x.2.2.1 ∧ x.2.2.1 ≤ 64 ∧ 0 ≤ x.2.2.2 ∧ x.2.2.2 ≤ 536870912
  res x := .int .i64 (rkey x.2.1 x.2.2.1 x.2.2.2 x.1)
  mat vs _ := match vs with
    | [.agg [.int _ a1, .int _ a2, .int _ a3, .int _ a4, .int _ a5, .int _ a6], .int _ b, .int _ p, .int _ s] => some ((⟨a1, a2, a3, a4, a5, a6⟩, b, p, s), [])
    | _ => none
  ok x h := rkey_ok x.1 x.2.1 x.2.2.1 x.2.2.2 h
end Go.Vx
set_option maxRecDepth 100000
namespace Go.Vx
open Go Go.Proofs
variable [Gl]

@[irreducible] def ieq (a b : List Int) : Bool := decide (a = b)
theorem ieq_iff {a b : List Int} : ieq a b = true ↔ a = b := by unfold ieq; exact decide_eq_true_iff
theorem ieq_no {a b : List Int} (h : a ≠ b) : ieq a b = false := by unfold ieq; exact decide_eq_false h
theorem ieq_yes {a b : List Int} (h : a = b) : ieq a b = true := ieq_iff.2 h
theorem tk_at {α : Type} {l : List α} {n v : Nat} {d : α} (hv : v < n) : (l.take n).getD v d = l.getD v d := tk_get hv
/-- The first i are the same. -/
def Sm {α : Type} (A B : List α) (n : Nat) : Inv' C0 := ⟨4, Nat, fun i => [(5, .int .i64 (i : Int))], fun _ m => m, fun i => i ≤ n ∧ A.take i = B.take i, fun i => n - i⟩
set_option maxHeartbeats 8000000 in
theorem SameInts_ok (o : Bool) (b q : Nat) (l : List Int) (n c : Nat) (o' : Bool) (b' q' : Nat) (l' : List Int) (n' c' : Nat) (h : n ≤ l.length) (h' : n' ≤ l'.length) (hs : n < 140737488355000) (ho : o = false → n = 0 ∧ c = 0) (ho' : o' = false → n' = 0 ∧ c' = 0) :
    Tells (C := C0) Tryd.prog (.fn 22) [⟨b, q, 1, false, some o, .rows 3 l⟩, ⟨b', q', 1, false, some o', .rows 3 l'⟩] [.sl 0 0 n c, .sl 1 0 n' c'] (.bool (.tm (ieq (l.take n) (l'.take n')))) := by
  refine loc_pc (P := Tryd.prog) (E := ⟨[], [], 29, [], [], []⟩) (L := [Sm (l.take n) (l'.take n') n]) mix Tryd.func22 rfl (by kernel_rfl) (by kernel_rfl) rfl rfl ?_
  ((conv => (arg 1; reduce)); with_reducible repeat' (first | exact Tr.yes_h | refine Tr.and_h ?_ ?_ | refine Tr.imp_h fun _ => ?_ | refine Tr.all_h fun _ => ?_ | refine Tr.lf_h ?_))
  all_goals try (first | first | (show Region.lexB _ _ = true; kernel_rfl) | (show planned _ _ = true; kernel_rfl) | exact rfl | exact True.intro | (first | exact key3 | exact zeroB | exact zeroR | exact zeroS | exact ⟨key3, zeroB⟩ | exact ⟨key3, zeroR⟩ | exact ⟨key3, zeroS⟩) | ((try dsimp only [imp, C0, cG, cInt, cPl, cSlot, cPg, gwCodec] at *); (try refine inR64 ?_ ?_) <;> (try simp only [List.length_set, List.length_append, List.length_take, List.length_drop]) <;> omega))
  · rename_i h0
    have h0 := of_decide_eq_true h0
    refine (ieq_no fun he => h0 ?_).symm
    have := congrArg List.length he
    rw [tk_len h, tk_len h'] at this
    omega
  · rename_i h0
    refine Stands.one (0 : Nat) ⟨⟨Nat.zero_le _, rfl⟩, ?_⟩
    ((conv => (arg 1; reduce)); with_reducible repeat' (first | exact Tr.yes_h | refine Tr.and_h ?_ ?_ | refine Tr.imp_h fun _ => ?_ | refine Tr.all_h fun _ => ?_ | refine Tr.lf_h ?_))
    all_goals (first | first | (show Region.lexB _ _ = true; kernel_rfl) | (show planned _ _ = true; kernel_rfl) | exact rfl | exact True.intro | (first | exact key3 | exact zeroB | exact zeroR | exact zeroS | exact ⟨key3, zeroB⟩ | exact ⟨key3, zeroR⟩ | exact ⟨key3, zeroS⟩) | ((try dsimp only [imp, C0, cG, cInt, cPl, cSlot, cPg, gwCodec] at *); (try refine inR64 ?_ ?_) <;> (try simp only [List.length_set, List.length_append, List.length_take, List.length_drop]) <;> omega))
  all_goals try (
    rename_i h0 v hv h1
    change Nat at v
    have h0 := of_decide_eq_false h0
    have h1 := of_decide_eq_true h1
    first
      | (exact on_of ho (by omega))
      | (exact on_of ho' (by omega))
      | (show (v : Int) < (n : Int); omega)
      | (show (v : Int) < (n' : Int); omega)
      | (show (v : Int).toNat < l.length; omega)
      | (show (v : Int).toNat < l'.length; omega)
      | (show (v : Int).toNat + 0 < l.length; omega)
      | (show (v : Int).toNat + 0 < l'.length; omega))
  · rename_i h0 v hv h1 h2
    change Nat at v
    have h1' := of_decide_eq_true h1
    have h0' := of_decide_eq_false h0
    refine (ieq_no fun he => ?_).symm
    have hc := congrArg (fun L : List Int => L.getD v 0) he
    simp only [tk_at (l := l) (n := n) (v := v) (by omega), tk_at (l := l') (n := n') (v := v) (by omega)] at hc
    have h2 : (!decide (l.getD v 0 = l'.getD v 0)) = true := h2
    rw [decide_eq_true hc] at h2
    cases h2
  · rename_i h0 v hv h1 h2
    change Nat at v
    have h1' := of_decide_eq_true h1
    have h0' := of_decide_eq_false h0
    exact inR64 (by show _ ≤ (v : Int) + 1; omega) (by show (v : Int) + 1 ≤ _; omega)
  · rename_i h0 v hv h1 h2
    change Nat at v
    have h1' := of_decide_eq_true h1
    have h0' := of_decide_eq_false h0
    have h2 : (!decide (l.getD v 0 = l'.getD v 0)) = false := h2
    have h2 := of_decide_eq_true (by simpa using h2 : decide (l.getD v 0 = l'.getD v 0) = true)
    refine Stands.one (Nat.succ v) ⟨⟨by show v + 1 ≤ n; omega, ?_⟩, ?_, ?_⟩
    · show (l.take n).take (v + 1) = (l'.take n').take (v + 1)
      rw [take_snoc (d := 0) (by rw [tk_len h]; omega), take_snoc (d := 0) (by rw [tk_len h']; omega), tk_at (by omega), tk_at (by omega), h2, hv.2]
    · show n - (v + 1) < n - v
      omega
    ((conv => (arg 1; reduce)); with_reducible repeat' (first | exact Tr.yes_h | refine Tr.and_h ?_ ?_ | refine Tr.imp_h fun _ => ?_ | refine Tr.all_h fun _ => ?_ | refine Tr.lf_h ?_))
    all_goals (first | first | (show Region.lexB _ _ = true; kernel_rfl) | (show planned _ _ = true; kernel_rfl) | exact rfl | exact True.intro | (first | exact key3 | exact zeroB | exact zeroR | exact zeroS | exact ⟨key3, zeroB⟩ | exact ⟨key3, zeroR⟩ | exact ⟨key3, zeroS⟩) | ((try dsimp only [imp, C0, cG, cInt, cPl, cSlot, cPg, gwCodec] at *); (try refine inR64 ?_ ?_) <;> (try simp only [List.length_set, List.length_append, List.length_take, List.length_drop]) <;> omega))
  · rename_i h0 v hv h1
    change Nat at v
    have h1' := of_decide_eq_false h1
    have h0' := of_decide_eq_false h0
    have hn : n = n' := by omega
    subst hn
    have he := hv.2
    have e1 : (l.take n).take v = l.take n := List.take_of_length_le (by rw [tk_len h]; omega)
    have e2 : (l'.take n).take v = l'.take n := List.take_of_length_le (by rw [tk_len h']; omega)
    exact (ieq_yes (e1.symm.trans (he.trans e2))).symm
def pcSameInts : Pc Tryd.prog C0 where
  tg := .fn 22
  X := (Bool × Nat × Nat × List Int × Nat × Nat) × (Bool × Nat × Nat × List Int × Nat × Nat)
  args := fun ((o, b, q, l, n, c), (o', b', q', l', n', c')) => [.sl 0 0 n c, .sl 1 0 n' c']
  mem := fun ((o, b, q, l, n, c), (o', b', q', l', n', c')) => [⟨b, q, 1, false, some o, .rows 3 l⟩, ⟨b', q', 1, false, some o', .rows 3 l'⟩]
  pre := fun ((o, b, q, l, n, c), (o', b', q', l', n', c')) => n ≤ l.length ∧ n' ≤ l'.length ∧ n < 140737488355000 ∧ (o = false → n = 0 ∧ c = 0) ∧ (o' = false → n' = 0 ∧ c' = 0)
  res := fun ((o, b, q, l, n, c), (o', b', q', l', n', c')) => .bool (.tm (ieq (l.take n) (l'.take n')))
  mat vs m := match vs with
    | [.sl a 0 n c, .sl a' 0 n' c'] => match nth m a, nth m a' with
      | ⟨b, q, _, _, g, .rows 3 l⟩, ⟨b', q', _, _, g', .rows 3 l'⟩ => some (((onOf g, b, q, l, n, c), (onOf g', b', q', l', n', c')), [a, a'])
      | _, _ => none
    | [.nils, .sl a' 0 n' c'] => match nth m a' with
      | ⟨b', q', _, _, g', .rows 3 l'⟩ => some (((false, 0, 0, [], 0, 0), (onOf g', b', q', l', n', c')), [m.length, a'])
      | _ => none
    | [.sl a 0 n c, .nils] => match nth m a with
      | ⟨b, q, _, _, g, .rows 3 l⟩ => some (((onOf g, b, q, l, n, c), (false, 0, 0, [], 0, 0)), [a, m.length])
      | _ => none
    | _ => none
  ok := fun ((o, b, q, l, n, c), (o', b', q', l', n', c')) h => SameInts_ok o b q l n c o' b' q' l' n' c' h.1 h.2.1 h.2.2.1 h.2.2.2.1 h.2.2.2.2
def eqSlot (a b : Slot) : Bool := decide (a.key = b.key) && (decide (a.pl.1 = b.pl.1) && decide (a.pl.2 = b.pl.2)) && eqMe a.me b.me
theorem eqMe_iff {a b : Me} : eqMe a b = true ↔ a = b := by
  obtain ⟨a1, a2, a3, a4, a5, a6⟩ := a
  obtain ⟨b1, b2, b3, b4, b5, b6⟩ := b
  simp [eqMe, and_assoc]
theorem eqSlot_iff {a b : Slot} : eqSlot a b = true ↔ a = b := by
  obtain ⟨a1, ⟨a2, a3⟩, a4⟩ := a
  obtain ⟨b1, ⟨b2, b3⟩, b4⟩ := b
  simp [eqSlot, eqMe_iff, and_assoc]
/-- Are they one list. -/
def lEqB : List Slot → List Slot → Bool
  | [], [] => true
  | a :: r, b :: s => eqSlot a b && lEqB r s
  | _, _ => false
theorem lEqB_iff : ∀ {a b : List Slot}, lEqB a b = true ↔ a = b
  | [], [] => by simp [lEqB]
  | [], _ :: _ => by simp [lEqB]
  | _ :: _, [] => by simp [lEqB]
  | a :: r, b :: s => by
    rw [lEqB, Bool.and_eq_true, eqSlot_iff, lEqB_iff, List.cons.injEq]
@[irreducible] def lEq (a b : List Slot) : Bool := lEqB a b
theorem lEq_iff {a b : List Slot} : lEq a b = true ↔ a = b := by unfold lEq; exact lEqB_iff
theorem lEq_no {a b : List Slot} (h : a ≠ b) : lEq a b = false := by
  cases hh : lEq a b with
  | false => rfl
  | true => exact (h (lEq_iff.1 hh)).elim
theorem lEq_yes {a b : List Slot} (h : a = b) : lEq a b = true := lEq_iff.2 h
/-- The test of one round. -/
theorem ne_slot {a b : Slot} : (decide (a.key ≠ b.key) || (!(decide (a.pl.1 = b.pl.1) && decide (a.pl.2 = b.pl.2))) || (!eqMe a.me b.me)) = !eqSlot a b := by
  unfold eqSlot
  by_cases h : a.key = b.key <;> simp [h, Bool.not_and]
set_option maxHeartbeats 8000000 in
theorem SameSlots_ok (o : Bool) (b q : Nat) (l : List Slot) (n c : Nat) (o' : Bool) (b' q' : Nat) (l' : List Slot) (n' c' : Nat) (h : n ≤ l.length) (h' : n' ≤ l'.length) (hs : n < 140737488355000) (ho : o = false → n = 0 ∧ c = 0) (ho' : o' = false → n' = 0 ∧ c' = 0) :
    Tells (C := C0) Tryd.prog (.fn 20) [⟨b, q, 9, false, some o, .rows 59 l⟩, ⟨b', q', 9, false, some o', .rows 59 l'⟩] [.sl 0 0 n c, .sl 1 0 n' c'] (.bool (.tm (lEq (l.take n) (l'.take n')))) := by
  refine loc_pc (P := Tryd.prog) (E := ⟨[], [pcSamePlace, pcSameMeta], 60, [(6, [0, 1], [.p 0, .p 1, .p 2, .p 3, .p 4, .p 5, .p 6, .p 7, .p 8, .p 9, .e 10, .p 11]), (7, [0, 1], [.p 0, .p 1, .p 2, .p 3, .p 4, .p 5, .p 6, .p 7, .p 8, .p 9, .e 10, .p 11])], [], []⟩) (L := [Sm (l.take n) (l'.take n') n]) mix Tryd.func20 rfl (by kernel_rfl) (by kernel_rfl) rfl rfl ?_
  ((conv => (arg 1; reduce)); with_reducible repeat' (first | exact Tr.yes_h | refine Tr.and_h ?_ ?_ | refine Tr.imp_h fun _ => ?_ | refine Tr.all_h fun _ => ?_ | refine Tr.lf_h ?_))
  all_goals try (first | first | (show Region.lexB _ _ = true; kernel_rfl) | (show planned _ _ = true; kernel_rfl) | exact rfl | exact True.intro | (first | exact key3 | exact zeroB | exact zeroR | exact zeroS | exact ⟨key3, zeroB⟩ | exact ⟨key3, zeroR⟩ | exact ⟨key3, zeroS⟩) | ((try dsimp only [imp, C0, cG, cInt, cPl, cSlot, cPg, gwCodec] at *); (try refine inR64 ?_ ?_) <;> (try simp only [List.length_set, List.length_append, List.length_take, List.length_drop]) <;> omega))
  · rename_i h0
    have h0 := of_decide_eq_true h0
    refine (lEq_no fun he => h0 ?_).symm
    have := congrArg List.length he
    rw [tk_len h, tk_len h'] at this
    omega
  · rename_i h0
    refine Stands.one (0 : Nat) ⟨⟨Nat.zero_le _, rfl⟩, ?_⟩
    ((conv => (arg 1; reduce)); with_reducible repeat' (first | exact Tr.yes_h | refine Tr.and_h ?_ ?_ | refine Tr.imp_h fun _ => ?_ | refine Tr.all_h fun _ => ?_ | refine Tr.lf_h ?_))
    all_goals (first | first | (show Region.lexB _ _ = true; kernel_rfl) | (show planned _ _ = true; kernel_rfl) | exact rfl | exact True.intro | (first | exact key3 | exact zeroB | exact zeroR | exact zeroS | exact ⟨key3, zeroB⟩ | exact ⟨key3, zeroR⟩ | exact ⟨key3, zeroS⟩) | ((try dsimp only [imp, C0, cG, cInt, cPl, cSlot, cPg, gwCodec] at *); (try refine inR64 ?_ ?_) <;> (try simp only [List.length_set, List.length_append, List.length_take, List.length_drop]) <;> omega))
  all_goals try (
    rename_i h0 v hv h1
    change Nat at v
    have h0 := of_decide_eq_false h0
    have h1 := of_decide_eq_true h1
    first
      | (exact on_of ho (by omega))
      | (exact on_of ho' (by omega))
      | (show (v : Int) < (n : Int); omega)
      | (show (v : Int) < (n' : Int); omega)
      | (show (v : Int).toNat < l.length; omega)
      | (show (v : Int).toNat < l'.length; omega)
      | (show (v : Int).toNat + 0 < l.length; omega)
      | (show (v : Int).toNat + 0 < l'.length; omega))
  · rename_i h0 v hv h1 h2
    change Nat at v
    have h1' := of_decide_eq_true h1
    have h0' := of_decide_eq_false h0
    refine (lEq_no fun he => ?_).symm
    have hc := congrArg (fun L : List Slot => L.getD v slot0) he
    simp only [tk_at (l := l) (n := n) (v := v) (by omega), tk_at (l := l') (n := n') (v := v) (by omega)] at hc
    have h2 := ne_slot.symm.trans h2
    have h2 : (!eqSlot (l.getD v slot0) (l'.getD v slot0)) = true := h2
    rw [eqSlot_iff.2 hc] at h2
    cases h2
  · rename_i h0 v hv h1 h2
    change Nat at v
    have h1' := of_decide_eq_true h1
    have h0' := of_decide_eq_false h0
    exact inR64 (by show _ ≤ (v : Int) + 1; omega) (by show (v : Int) + 1 ≤ _; omega)
  · rename_i h0 v hv h1 h2
    change Nat at v
    have h1' := of_decide_eq_true h1
    have h0' := of_decide_eq_false h0
    have h2 := ne_slot.symm.trans h2
    have h2 : (!eqSlot (l.getD v slot0) (l'.getD v slot0)) = false := h2
    have h2 := eqSlot_iff.1 (by simpa using h2 : eqSlot (l.getD v slot0) (l'.getD v slot0) = true)
    refine Stands.one (Nat.succ v) ⟨⟨by show v + 1 ≤ n; omega, ?_⟩, ?_, ?_⟩
    · show (l.take n).take (v + 1) = (l'.take n').take (v + 1)
      rw [take_snoc (d := slot0) (by rw [tk_len h]; omega), take_snoc (d := slot0) (by rw [tk_len h']; omega), tk_at (by omega), tk_at (by omega), h2, hv.2]
    · show n - (v + 1) < n - v
      omega
    ((conv => (arg 1; reduce)); with_reducible repeat' (first | exact Tr.yes_h | refine Tr.and_h ?_ ?_ | refine Tr.imp_h fun _ => ?_ | refine Tr.all_h fun _ => ?_ | refine Tr.lf_h ?_))
    all_goals (first | first | (show Region.lexB _ _ = true; kernel_rfl) | (show planned _ _ = true; kernel_rfl) | exact rfl | exact True.intro | (first | exact key3 | exact zeroB | exact zeroR | exact zeroS | exact ⟨key3, zeroB⟩ | exact ⟨key3, zeroR⟩ | exact ⟨key3, zeroS⟩) | ((try dsimp only [imp, C0, cG, cInt, cPl, cSlot, cPg, gwCodec] at *); (try refine inR64 ?_ ?_) <;> (try simp only [List.length_set, List.length_append, List.length_take, List.length_drop]) <;> omega))
  · rename_i h0 v hv h1
    change Nat at v
    have h1' := of_decide_eq_false h1
    have h0' := of_decide_eq_false h0
    have hn : n = n' := by omega
    subst hn
    have he := hv.2
    have e1 : (l.take n).take v = l.take n := List.take_of_length_le (by rw [tk_len h]; omega)
    have e2 : (l'.take n).take v = l'.take n := List.take_of_length_le (by rw [tk_len h']; omega)
    exact (lEq_yes (e1.symm.trans (he.trans e2))).symm
def pcSameSlots : Pc Tryd.prog C0 where
  tg := .fn 20
  X := (Bool × Nat × Nat × List Slot × Nat × Nat) × (Bool × Nat × Nat × List Slot × Nat × Nat)
  args := fun ((o, b, q, l, n, c), (o', b', q', l', n', c')) => [.sl 0 0 n c, .sl 1 0 n' c']
  mem := fun ((o, b, q, l, n, c), (o', b', q', l', n', c')) => [⟨b, q, 9, false, some o, .rows 59 l⟩, ⟨b', q', 9, false, some o', .rows 59 l'⟩]
  pre := fun ((o, b, q, l, n, c), (o', b', q', l', n', c')) => n ≤ l.length ∧ n' ≤ l'.length ∧ n < 140737488355000 ∧ (o = false → n = 0 ∧ c = 0) ∧ (o' = false → n' = 0 ∧ c' = 0)
  res := fun ((o, b, q, l, n, c), (o', b', q', l', n', c')) => .bool (.tm (lEq (l.take n) (l'.take n')))
  mat vs m := match vs with
    | [.sl a 0 n c, .sl a' 0 n' c'] => match nth m a, nth m a' with
      | ⟨b, q, _, _, g, .rows 59 l⟩, ⟨b', q', _, _, g', .rows 59 l'⟩ => some (((onOf g, b, q, l, n, c), (onOf g', b', q', l', n', c')), [a, a'])
      | _, _ => none
    | [.nils, .sl a' 0 n' c'] => match nth m a' with
      | ⟨b', q', _, _, g', .rows 59 l'⟩ => some (((false, 0, 0, [], 0, 0), (onOf g', b', q', l', n', c')), [m.length, a'])
      | _ => none
    | [.sl a 0 n c, .nils] => match nth m a with
      | ⟨b, q, _, _, g, .rows 59 l⟩ => some (((onOf g, b, q, l, n, c), (false, 0, 0, [], 0, 0)), [a, m.length])
      | _ => none
    | _ => none
  ok := fun ((o, b, q, l, n, c), (o', b', q', l', n', c')) h => SameSlots_ok o b q l n c o' b' q' l' n' c' h.1 h.2.1 h.2.2.1 h.2.2.2.1 h.2.2.2.2
end Go.Vx
set_option maxRecDepth 100000
namespace Go.Vx
open Go Go.Proofs
variable [Gl]

/-- The first place where it holds is looked for. -/
def Iz {α : Type} (f : α → Bool) (A : List α) : Inv' C0 := ⟨2, Nat, fun i => [(5, .int .i64 (i : Int))], fun _ m => m, fun i => i ≤ A.length ∧ anyF f (A.take i) = false, fun i => A.length - i⟩
theorem anyF_at {α : Type} {f : α → Bool} {A : List α} {i : Nat} {d : α} (h : i < A.length) (h2 : f (A.getD i d) = true) : anyF f A = true := anyF_iff.2 ⟨_, getD_mem h, h2⟩
theorem among_ok (o : Bool) (b q : Nat) (l : List Int) (n c : Nat) (x : Int) (h : n ≤ l.length) (hn : n < 4611686018427387904) (ho : o = false → n = 0 ∧ c = 0) :
    Tells (C := C0) Tryd.prog (.fn 13) [⟨b, q, 1, false, some o, .rows 3 l⟩] [.sl 0 0 n c, .int .i64 x] (.bool (.tm (anyF (eqI x) (l.take n)))) := by
  have hL := tk_len h
  refine loc_pc (P := Tryd.prog) (E := ⟨[], [], 18, [], [], []⟩) (L := [Iz (eqI x) (l.take n)]) mix Tryd.func13 rfl (by kernel_rfl) (by kernel_rfl) rfl rfl ?_
  ((conv => (arg 1; reduce)); with_reducible repeat' (first | exact Tr.yes_h | refine Tr.and_h ?_ ?_ | refine Tr.imp_h fun _ => ?_ | refine Tr.all_h fun _ => ?_ | refine Tr.lf_h ?_))
  all_goals try (first | (first | first | (show Region.lexB _ _ = true; kernel_rfl) | (show planned _ _ = true; kernel_rfl) | exact rfl | exact True.intro | (first | exact key3 | exact zeroB | exact zeroR | exact zeroS | exact ⟨key3, zeroB⟩ | exact ⟨key3, zeroR⟩ | exact ⟨key3, zeroS⟩) | ((try dsimp only [imp, C0, cG, cInt, cPl, cSlot, cPg, gwCodec] at *); (try refine inR64 ?_ ?_) <;> (try simp only [List.length_set, List.length_append, List.length_take, List.length_drop]) <;> omega)) | ((try dsimp only [imp, C0, cG, cInt, cPl, cSlot, cPg, gwCodec, Iz] at *); (try simp only [decide_eq_true_eq, decide_eq_false_iff_not, Bool.and_eq_true, Bool.or_eq_true, Bool.or_eq_false_iff, Bool.and_eq_false_iff, Bool.not_eq_true', Bool.not_eq_false', SB.val, List.length_append, List.length_cons, List.length_nil, List.length_take, List.length_drop] at *); (first | omega | exact inR64 (by omega) (by omega) | (refine inR64 ?_ ?_ <;> omega))) | (refine on_of ho ?_; ((try dsimp only [imp, C0, cG, cInt, cPl, cSlot, cPg, gwCodec, Iz] at *); (try simp only [decide_eq_true_eq, decide_eq_false_iff_not, Bool.and_eq_true, Bool.or_eq_true, Bool.or_eq_false_iff, Bool.and_eq_false_iff, Bool.not_eq_true', Bool.not_eq_false', SB.val, List.length_append, List.length_cons, List.length_nil, List.length_take, List.length_drop] at *); (first | omega | exact inR64 (by omega) (by omega) | (refine inR64 ?_ ?_ <;> omega)))))
  · refine Stands.one (0 : Nat) ⟨⟨Nat.zero_le _, anyF_zero⟩, ?_⟩
    ((conv => (arg 1; reduce)); with_reducible repeat' (first | exact Tr.yes_h | refine Tr.and_h ?_ ?_ | refine Tr.imp_h fun _ => ?_ | refine Tr.all_h fun _ => ?_ | refine Tr.lf_h ?_))
    all_goals (first | first | (show Region.lexB _ _ = true; kernel_rfl) | (show planned _ _ = true; kernel_rfl) | exact rfl | exact True.intro | (first | exact key3 | exact zeroB | exact zeroR | exact zeroS | exact ⟨key3, zeroB⟩ | exact ⟨key3, zeroR⟩ | exact ⟨key3, zeroS⟩) | ((try dsimp only [imp, C0, cG, cInt, cPl, cSlot, cPg, gwCodec] at *); (try refine inR64 ?_ ?_) <;> (try simp only [List.length_set, List.length_append, List.length_take, List.length_drop]) <;> omega))
  · rename_i v hv h1 h2
    change Nat at v
    have h1 : v < n := by have := of_decide_eq_true h1; omega
    have h2 : l.getD v 0 = x := of_decide_eq_true h2
    refine (anyF_at (i := v) (d := 0) (by rw [hL]; exact h1) ?_).symm
    rw [tk_get h1, h2]
    exact decide_eq_true rfl
  · rename_i v hv h1 h2
    change Nat at v
    obtain ⟨e1, e2⟩ := hv
    have h1 : v < n := by have := of_decide_eq_true h1; omega
    have h2 : ¬ l.getD v 0 = x := of_decide_eq_false h2
    refine Stands.one (v + 1 : Nat) ⟨⟨by rw [hL]; exact h1, ?_⟩, ?_, ?_⟩
    · show anyF _ ((l.take n).take (v + 1)) = false
      rw [anyF_snoc (d := 0) (by rw [hL]; exact h1), e2, tk_get h1]
      exact decide_eq_false fun e => h2 e.symm
    · show (l.take n).length - (v + 1) < (l.take n).length - v
      rw [hL]; omega
    ((conv => (arg 1; reduce)); with_reducible repeat' (first | exact Tr.yes_h | refine Tr.and_h ?_ ?_ | refine Tr.imp_h fun _ => ?_ | refine Tr.all_h fun _ => ?_ | refine Tr.lf_h ?_))
    all_goals (first | first | (show Region.lexB _ _ = true; kernel_rfl) | (show planned _ _ = true; kernel_rfl) | exact rfl | exact True.intro | (first | exact key3 | exact zeroB | exact zeroR | exact zeroS | exact ⟨key3, zeroB⟩ | exact ⟨key3, zeroR⟩ | exact ⟨key3, zeroS⟩) | ((try dsimp only [imp, C0, cG, cInt, cPl, cSlot, cPg, gwCodec] at *); (try refine inR64 ?_ ?_) <;> (try simp only [List.length_set, List.length_append, List.length_take, List.length_drop]) <;> omega))
  · rename_i v hv h1
    change Nat at v
    obtain ⟨e1, e2⟩ := hv
    have h1 : ¬ v < n := by have := of_decide_eq_false h1; omega
    rw [List.take_of_length_le (by rw [hL]; omega)] at e2
    exact e2.symm
def pcAmong : Pc Tryd.prog C0 where
  tg := .fn 13
  X := Bool × Nat × Nat × List Int × Nat × Nat × Int
  args := fun (o, b, q, l, n, c, x) => [.sl 0 0 n c, .int .i64 x]
  mem := fun (o, b, q, l, n, c, x) => [⟨b, q, 1, false, some o, .rows 3 l⟩]
  pre := fun (o, b, q, l, n, c, x) => n ≤ l.length ∧ n < 4611686018427387904 ∧ (o = false → n = 0 ∧ c = 0)
  res := fun (o, b, q, l, n, c, x) => .bool (.tm (anyF (eqI x) (l.take n)))
  mat vs m := match vs with
    | [.sl a 0 n c, .int _ x] => match nth m a with
      | ⟨b, q, _, _, g, .rows 3 l⟩ => some ((onOf g, b, q, l, n, c, x), [a])
      | _ => none
    | [.nils, .int _ x] => some ((false, 0, 0, [], 0, 0, x), [m.length])
    | _ => none
  ok := fun (o, b, q, l, n, c, x) h => among_ok o b q l n c x h.1 h.2.1 h.2.2
def keyIs (k : Int) (s : Slot) : Bool := decide (s.key = k)
theorem find_ok (o : Bool) (b q : Nat) (l : List Slot) (n c : Nat) (x : Int) (h : n ≤ l.length) (hn : n < 4611686018427387904) (ho : o = false → n = 0 ∧ c = 0) :
    Tells (C := C0) Tryd.prog (.fn 18) [⟨b, q, 9, false, some o, .rows 59 l⟩] [.sl 0 0 n c, .int .i64 x] (.int .i64 (ixF (keyIs x) (l.take n))) := by
  have hL := tk_len h
  refine loc_pc (P := Tryd.prog) (E := ⟨[], [], 20, [], [], []⟩) (L := [Iz (keyIs x) (l.take n)]) mix Tryd.func18 rfl (by kernel_rfl) (by kernel_rfl) rfl rfl ?_
  ((conv => (arg 1; reduce)); with_reducible repeat' (first | exact Tr.yes_h | refine Tr.and_h ?_ ?_ | refine Tr.imp_h fun _ => ?_ | refine Tr.all_h fun _ => ?_ | refine Tr.lf_h ?_))
  all_goals try (first | (first | first | (show Region.lexB _ _ = true; kernel_rfl) | (show planned _ _ = true; kernel_rfl) | exact rfl | exact True.intro | (first | exact key3 | exact zeroB | exact zeroR | exact zeroS | exact ⟨key3, zeroB⟩ | exact ⟨key3, zeroR⟩ | exact ⟨key3, zeroS⟩) | ((try dsimp only [imp, C0, cG, cInt, cPl, cSlot, cPg, gwCodec] at *); (try refine inR64 ?_ ?_) <;> (try simp only [List.length_set, List.length_append, List.length_take, List.length_drop]) <;> omega)) | ((try dsimp only [imp, C0, cG, cInt, cPl, cSlot, cPg, gwCodec, Iz] at *); (try simp only [decide_eq_true_eq, decide_eq_false_iff_not, Bool.and_eq_true, Bool.or_eq_true, Bool.or_eq_false_iff, Bool.and_eq_false_iff, Bool.not_eq_true', Bool.not_eq_false', SB.val, List.length_append, List.length_cons, List.length_nil, List.length_take, List.length_drop] at *); (first | omega | exact inR64 (by omega) (by omega) | (refine inR64 ?_ ?_ <;> omega))) | (refine on_of ho ?_; ((try dsimp only [imp, C0, cG, cInt, cPl, cSlot, cPg, gwCodec, Iz] at *); (try simp only [decide_eq_true_eq, decide_eq_false_iff_not, Bool.and_eq_true, Bool.or_eq_true, Bool.or_eq_false_iff, Bool.and_eq_false_iff, Bool.not_eq_true', Bool.not_eq_false', SB.val, List.length_append, List.length_cons, List.length_nil, List.length_take, List.length_drop] at *); (first | omega | exact inR64 (by omega) (by omega) | (refine inR64 ?_ ?_ <;> omega)))))
  · refine Stands.one (0 : Nat) ⟨⟨Nat.zero_le _, anyF_zero⟩, ?_⟩
    ((conv => (arg 1; reduce)); with_reducible repeat' (first | exact Tr.yes_h | refine Tr.and_h ?_ ?_ | refine Tr.imp_h fun _ => ?_ | refine Tr.all_h fun _ => ?_ | refine Tr.lf_h ?_))
    all_goals (first | first | (show Region.lexB _ _ = true; kernel_rfl) | (show planned _ _ = true; kernel_rfl) | exact rfl | exact True.intro | (first | exact key3 | exact zeroB | exact zeroR | exact zeroS | exact ⟨key3, zeroB⟩ | exact ⟨key3, zeroR⟩ | exact ⟨key3, zeroS⟩) | ((try dsimp only [imp, C0, cG, cInt, cPl, cSlot, cPg, gwCodec] at *); (try refine inR64 ?_ ?_) <;> (try simp only [List.length_set, List.length_append, List.length_take, List.length_drop]) <;> omega))
  · rename_i v hv h1 h2
    change Nat at v
    obtain ⟨e1, e2⟩ := hv
    have h1 : v < n := by have := of_decide_eq_true h1; omega
    refine (ixF_at (d := slot0) (by rw [hL]; exact h1) e2 ?_).symm
    rw [tk_get h1]
    exact h2
  · rename_i v hv h1 h2
    change Nat at v
    obtain ⟨e1, e2⟩ := hv
    have h1 : v < n := by have := of_decide_eq_true h1; omega
    refine Stands.one (v + 1 : Nat) ⟨⟨by rw [hL]; exact h1, ?_⟩, ?_, ?_⟩
    · show anyF _ ((l.take n).take (v + 1)) = false
      rw [anyF_snoc (d := slot0) (by rw [hL]; exact h1), e2, tk_get h1]
      exact h2
    · show (l.take n).length - (v + 1) < (l.take n).length - v
      rw [hL]; omega
    ((conv => (arg 1; reduce)); with_reducible repeat' (first | exact Tr.yes_h | refine Tr.and_h ?_ ?_ | refine Tr.imp_h fun _ => ?_ | refine Tr.all_h fun _ => ?_ | refine Tr.lf_h ?_))
    all_goals (first | first | (show Region.lexB _ _ = true; kernel_rfl) | (show planned _ _ = true; kernel_rfl) | exact rfl | exact True.intro | (first | exact key3 | exact zeroB | exact zeroR | exact zeroS | exact ⟨key3, zeroB⟩ | exact ⟨key3, zeroR⟩ | exact ⟨key3, zeroS⟩) | ((try dsimp only [imp, C0, cG, cInt, cPl, cSlot, cPg, gwCodec] at *); (try refine inR64 ?_ ?_) <;> (try simp only [List.length_set, List.length_append, List.length_take, List.length_drop]) <;> omega))
  · rename_i v hv h1
    change Nat at v
    obtain ⟨e1, e2⟩ := hv
    have h1 : ¬ v < n := by have := of_decide_eq_false h1; omega
    rw [List.take_of_length_le (by rw [hL]; omega)] at e2
    exact (ixF_no e2).symm
def pcFind : Pc Tryd.prog C0 where
  tg := .fn 18
  X := Bool × Nat × Nat × List Slot × Nat × Nat × Int
  args := fun (o, b, q, l, n, c, x) => [.sl 0 0 n c, .int .i64 x]
  mem := fun (o, b, q, l, n, c, x) => [⟨b, q, 9, false, some o, .rows 59 l⟩]
  pre := fun (o, b, q, l, n, c, x) => n ≤ l.length ∧ n < 4611686018427387904 ∧ (o = false → n = 0 ∧ c = 0)
  res := fun (o, b, q, l, n, c, x) => .int .i64 (ixF (keyIs x) (l.take n))
  mat vs m := match vs with
    | [.sl a 0 n c, .int _ x] => match nth m a with
      | ⟨b, q, _, _, g, .rows 59 l⟩ => some ((onOf g, b, q, l, n, c, x), [a])
      | _ => none
    | _ => none
  ok := fun (o, b, q, l, n, c, x) h => find_ok o b q l n c x h.1 h.2.1 h.2.2
/-- The first page of a block. -/
def fstP (b : Int) (p : Pg) : Bool := decide (p.pl.1 = b) && decide (p.pl.2 = 0)
def hdQ (b : Int) (p : Pg) : Bool := decide (p.cl = 1) && decide (p.me.kind = 1) && decide (p.me.key = b)
@[irreducible] def headB (L : List Pg) (b : Int) : Bool := match L.find? (fstP b) with
  | some p => hdQ b p
  | none => false
theorem find_at {α : Type} {f : α → Bool} {d : α} : ∀ {A : List α} {i : Nat}, i < A.length → anyF f (A.take i) = false → f (A.getD i d) = true → A.find? f = some (A.getD i d)
  | [], _, h, _, _ => absurd h (Nat.not_lt_zero _)
  | a :: r, 0, _, _, h => by
    rw [List.find?_cons]
    have h : f a = true := h
    rw [h]; rfl
  | a :: r, i + 1, h, h1, h2 => by
    have h3 : f a = false ∧ anyF f (r.take i) = false := by
      unfold anyF at h1 ⊢
      rw [List.take_succ_cons, List.any_cons, Bool.or_eq_false_iff] at h1
      exact h1
    rw [List.find?_cons, h3.1]
    exact find_at (A := r) (i := i) (by simpa using h) h3.2 h2
theorem find_no {α : Type} {f : α → Bool} {A : List α} (h : anyF f A = false) : A.find? f = none := by
  unfold anyF at h
  rw [List.find?_eq_none]
  intro x hx e
  have := List.any_eq_false.1 h x hx
  exact this e
theorem head_ok (o : Bool) (b q : Nat) (l : List Pg) (n c : Nat) (x : Int) (h : n ≤ l.length) (hn : n < 4611686018427387904) (ho : o = false → n = 0 ∧ c = 0) :
    Tells (C := C0) Tryd.prog (.fn 12) [⟨b, q, 9, false, some o, .rows 42 l⟩] [.sl 0 0 n c, .int .i64 x] (.bool (.tm (headB (l.take n) x))) := by
  have hL := tk_len h
  refine loc_pc (P := Tryd.prog) (E := ⟨[], [], 54, [], [], []⟩) (L := [Iz (fstP x) (l.take n)]) mix Tryd.func12 rfl (by kernel_rfl) (by kernel_rfl) rfl rfl ?_
  ((conv => (arg 1; reduce)); with_reducible repeat' (first | exact Tr.yes_h | refine Tr.and_h ?_ ?_ | refine Tr.imp_h fun _ => ?_ | refine Tr.all_h fun _ => ?_ | refine Tr.lf_h ?_))
  all_goals try (first | (first | first | (show Region.lexB _ _ = true; kernel_rfl) | (show planned _ _ = true; kernel_rfl) | exact rfl | exact True.intro | (first | exact key3 | exact zeroB | exact zeroR | exact zeroS | exact ⟨key3, zeroB⟩ | exact ⟨key3, zeroR⟩ | exact ⟨key3, zeroS⟩) | ((try dsimp only [imp, C0, cG, cInt, cPl, cSlot, cPg, gwCodec] at *); (try refine inR64 ?_ ?_) <;> (try simp only [List.length_set, List.length_append, List.length_take, List.length_drop]) <;> omega)) | ((try dsimp only [imp, C0, cG, cInt, cPl, cSlot, cPg, gwCodec, Iz] at *); (try simp only [decide_eq_true_eq, decide_eq_false_iff_not, Bool.and_eq_true, Bool.or_eq_true, Bool.or_eq_false_iff, Bool.and_eq_false_iff, Bool.not_eq_true', Bool.not_eq_false', SB.val, List.length_append, List.length_cons, List.length_nil, List.length_take, List.length_drop] at *); (first | omega | exact inR64 (by omega) (by omega) | (refine inR64 ?_ ?_ <;> omega))) | (refine on_of ho ?_; ((try dsimp only [imp, C0, cG, cInt, cPl, cSlot, cPg, gwCodec, Iz] at *); (try simp only [decide_eq_true_eq, decide_eq_false_iff_not, Bool.and_eq_true, Bool.or_eq_true, Bool.or_eq_false_iff, Bool.and_eq_false_iff, Bool.not_eq_true', Bool.not_eq_false', SB.val, List.length_append, List.length_cons, List.length_nil, List.length_take, List.length_drop] at *); (first | omega | exact inR64 (by omega) (by omega) | (refine inR64 ?_ ?_ <;> omega)))))
  · refine Stands.one (0 : Nat) ⟨⟨Nat.zero_le _, anyF_zero⟩, ?_⟩
    ((conv => (arg 1; reduce)); with_reducible repeat' (first | exact Tr.yes_h | refine Tr.and_h ?_ ?_ | refine Tr.imp_h fun _ => ?_ | refine Tr.all_h fun _ => ?_ | refine Tr.lf_h ?_))
    all_goals (first | first | (show Region.lexB _ _ = true; kernel_rfl) | (show planned _ _ = true; kernel_rfl) | exact rfl | exact True.intro | (first | exact key3 | exact zeroB | exact zeroR | exact zeroS | exact ⟨key3, zeroB⟩ | exact ⟨key3, zeroR⟩ | exact ⟨key3, zeroS⟩) | ((try dsimp only [imp, C0, cG, cInt, cPl, cSlot, cPg, gwCodec] at *); (try refine inR64 ?_ ?_) <;> (try simp only [List.length_set, List.length_append, List.length_take, List.length_drop]) <;> omega))
  · rename_i v hv h1 h2
    change Nat at v
    obtain ⟨e1, e2⟩ := hv
    have h1 : v < n := by have := of_decide_eq_true h1; omega
    have h3 := find_at (d := pg0) (by rw [hL]; exact h1) e2 (by rw [tk_get h1]; exact h2)
    rw [tk_get h1] at h3
    show _ = headB (l.take n) x
    unfold headB
    rw [h3]; rfl
  · rename_i v hv h1 h2
    change Nat at v
    obtain ⟨e1, e2⟩ := hv
    have h1 : v < n := by have := of_decide_eq_true h1; omega
    refine Stands.one (v + 1 : Nat) ⟨⟨by rw [hL]; exact h1, ?_⟩, ?_, ?_⟩
    · show anyF _ ((l.take n).take (v + 1)) = false
      rw [anyF_snoc (d := pg0) (by rw [hL]; exact h1), e2, tk_get h1]
      exact h2
    · show (l.take n).length - (v + 1) < (l.take n).length - v
      rw [hL]; omega
    ((conv => (arg 1; reduce)); with_reducible repeat' (first | exact Tr.yes_h | refine Tr.and_h ?_ ?_ | refine Tr.imp_h fun _ => ?_ | refine Tr.all_h fun _ => ?_ | refine Tr.lf_h ?_))
    all_goals (first | first | (show Region.lexB _ _ = true; kernel_rfl) | (show planned _ _ = true; kernel_rfl) | exact rfl | exact True.intro | (first | exact key3 | exact zeroB | exact zeroR | exact zeroS | exact ⟨key3, zeroB⟩ | exact ⟨key3, zeroR⟩ | exact ⟨key3, zeroS⟩) | ((try dsimp only [imp, C0, cG, cInt, cPl, cSlot, cPg, gwCodec] at *); (try refine inR64 ?_ ?_) <;> (try simp only [List.length_set, List.length_append, List.length_take, List.length_drop]) <;> omega))
  · rename_i v hv h1
    change Nat at v
    obtain ⟨e1, e2⟩ := hv
    have h1 : ¬ v < n := by have := of_decide_eq_false h1; omega
    rw [List.take_of_length_le (by rw [hL]; omega)] at e2
    show false = headB (l.take n) x
    unfold headB
    rw [find_no e2]
def pcHead : Pc Tryd.prog C0 where
  tg := .fn 12
  X := Bool × Nat × Nat × List Pg × Nat × Nat × Int
  args := fun (o, b, q, l, n, c, x) => [.sl 0 0 n c, .int .i64 x]
  mem := fun (o, b, q, l, n, c, x) => [⟨b, q, 9, false, some o, .rows 42 l⟩]
  pre := fun (o, b, q, l, n, c, x) => n ≤ l.length ∧ n < 4611686018427387904 ∧ (o = false → n = 0 ∧ c = 0)
  res := fun (o, b, q, l, n, c, x) => .bool (.tm (headB (l.take n) x))
  mat vs m := match vs with
    | [.sl a 0 n c, .int _ x] => match nth m a with
      | ⟨b, q, _, _, g, .rows 42 l⟩ => some ((onOf g, b, q, l, n, c, x), [a])
      | _ => none
    | _ => none
  ok := fun (o, b, q, l, n, c, x) h => head_ok o b q l n c x h.1 h.2.1 h.2.2
end Go.Vx
set_option maxRecDepth 100000
namespace Go.Vx
open Go Go.Proofs
variable [Gl]

theorem byMade : Tryd.prog.types[55].bytes = 72 := by kernel_rfl
def MadeI (L : List Pg) : Inv' C0 := ⟨3, Nat × Sq Pg, fun y => [(4, .int .i64 (y.1 : Int)), (3, .sl 1 0 y.2.2.2.2.2.1 y.2.2.2.2.2.2)], fun y m => match m with
  | a :: _ => [a, ⟨y.2.2.1, y.2.2.2.1, 9, true, some y.2.1, .rows 55 y.2.2.2.2.1⟩]
  | m => m, fun y => y.1 ≤ L.length ∧ Gth (L.take y.1) y.2, fun y => L.length - y.1⟩
set_option maxHeartbeats 4000000 in
theorem made_ok (o : Bool) (b q : Nat) (l : List Pg) (n c : Nat) (h : n ≤ l.length) (hn : n < 1000000000) (ho : o = false → n = 0 ∧ c = 0) :
    Does (C := C0) Tryd.prog (.fn 10) [⟨b, q, 9, false, some o, .rows 42 l⟩] [.sl 0 0 n c]
    [⟨Sq Pg, fun y => Gth (l.take n) y, fun y => .sl 1 0 y.2.2.2.2.1 y.2.2.2.2.2, fun y => [⟨b, q, 9, false, some o, .rows 42 l⟩, ⟨y.2.1, y.2.2.1, 9, true, some y.1, .rows 55 y.2.2.2.1⟩]⟩] := by
  have hL := tk_len h
  refine loc_fn (P := Tryd.prog) (E := ⟨[], [], 31, [(5, [0], [.p 0, .p 1, .p 2, .p 3, .p 4, .p 5, .p 6, .p 7, .p 8, .p 9, .p 10, .p 11, .p 12, .p 13, .p 14, .p 15, .p 16, .e 17, .e 18, .p 19])], [], []⟩) (L := [MadeI (l.take n)]) mix Tryd.func10 rfl (by kernel_rfl) (by kernel_rfl) rfl rfl ?_
  ((conv => (arg 1; reduce)); with_reducible repeat' (first | exact Tr.yes_h | refine Tr.and_h ?_ ?_ | refine Tr.imp_h fun _ => ?_ | refine Tr.all_h fun _ => ?_ | refine Tr.lf_h ?_))
  all_goals try (first | first | (show Region.lexB _ _ = true; kernel_rfl) | (show planned _ _ = true; kernel_rfl) | exact rfl | exact True.intro | (first | exact key3 | exact zeroB | exact zeroR | exact zeroS | exact ⟨key3, zeroB⟩ | exact ⟨key3, zeroR⟩ | exact ⟨key3, zeroS⟩) | ((try dsimp only [imp, C0, cG, cInt, cPl, cSlot, cPg, gwCodec] at *); (try refine inR64 ?_ ?_) <;> (try simp only [List.length_set, List.length_append, List.length_take, List.length_drop]) <;> omega))
  · refine Stands.one (0, (false, 0, 0, [], 0, 0)) ⟨⟨Nat.zero_le _, Gth.nil⟩, ?_⟩
    ((conv => (arg 1; reduce)); with_reducible repeat' (first | exact Tr.yes_h | refine Tr.and_h ?_ ?_ | refine Tr.imp_h fun _ => ?_ | refine Tr.all_h fun _ => ?_ | refine Tr.lf_h ?_))
    all_goals (first | first | (show Region.lexB _ _ = true; kernel_rfl) | (show planned _ _ = true; kernel_rfl) | exact rfl | exact True.intro | (first | exact key3 | exact zeroB | exact zeroR | exact zeroS | exact ⟨key3, zeroB⟩ | exact ⟨key3, zeroR⟩ | exact ⟨key3, zeroS⟩) | ((try dsimp only [imp, C0, cG, cInt, cPl, cSlot, cPg, gwCodec] at *); (try refine inR64 ?_ ?_) <;> (try simp only [List.length_set, List.length_append, List.length_take, List.length_drop]) <;> omega))
  all_goals try (
    rename_i y hy h1
    have h1 : (y.1 : Int) < (n : Int) := of_decide_eq_true h1
    first
      | exact on_of ho (by omega)
      | exact h1
      | (show y.1 < l.length; omega))
  · rename_i y hy h1 b2
    obtain ⟨v, o', b', q', l', n', c'⟩ := y
    have h1 : (v : Int) < (n : Int) := of_decide_eq_true h1
    have hG := hy.2.room
    have hnv : n' = v := by
      have e : n' = ((l.take n).take v).length := hG.2.2.1
      rw [List.length_take, hL] at e
      omega
    rw [byMade]
    exact ⟨hG.1, by show 0 + c' ≤ l'.length; have := hG.2.1; omega, by simp, by show (n' + 1) * 72 ≤ _; omega⟩
  · rename_i y hy h1 b2
    exact hy.2.room.2.2.2
  · rename_i y hy h1 b2 b3 b4 sp c' h3 h4
    obtain ⟨v, o', b', q', l', n', c0⟩ := y
    have h1 : (v : Int) < (n : Int) := of_decide_eq_true h1
    exact inR64 (by show -9223372036854775808 ≤ (v : Int) + 1; omega) (by show (v : Int) + 1 ≤ 9223372036854775807; omega)
  · rename_i y hy h1 b2 b3 b4 sp c' h3 h4
    obtain ⟨v, o', b', q', l', n', c0⟩ := y
    obtain ⟨e1, hG⟩ := hy
    have h1 : (v : Int) < (n : Int) := of_decide_eq_true h1
    change List Pg at sp
    refine Stands.one ((v + 1, (true, b3, b4, l'.take n' ++ [l.getD v pg0] ++ sp, n' + 1, c')) : Nat × Sq Pg) ⟨⟨by show v + 1 ≤ (l.take n).length; omega, ?_⟩, ?_, ?_⟩
    · show Gth ((l.take n).take (v + 1)) _
      rw [take_snoc (d := pg0) (by omega), tk_get (by omega)]
      exact hG.snoc h3 h4
    · show (l.take n).length - (v + 1) < (l.take n).length - v
      omega
    ((conv => (arg 1; reduce)); with_reducible repeat' (first | exact Tr.yes_h | refine Tr.and_h ?_ ?_ | refine Tr.imp_h fun _ => ?_ | refine Tr.all_h fun _ => ?_ | refine Tr.lf_h ?_))
    all_goals (first | first | (show Region.lexB _ _ = true; kernel_rfl) | (show planned _ _ = true; kernel_rfl) | exact rfl | exact True.intro | (first | exact key3 | exact zeroB | exact zeroR | exact zeroS | exact ⟨key3, zeroB⟩ | exact ⟨key3, zeroR⟩ | exact ⟨key3, zeroS⟩) | ((try dsimp only [imp, C0, cG, cInt, cPl, cSlot, cPg, gwCodec] at *); (try refine inR64 ?_ ?_) <;> (try simp only [List.length_set, List.length_append, List.length_take, List.length_drop]) <;> omega))
  · rename_i y hy h1
    obtain ⟨v, o', b', q', l', n', c0⟩ := y
    obtain ⟨e1, hG⟩ := hy
    have h1 : ¬ (v : Int) < (n : Int) := of_decide_eq_false h1
    have e1 : v ≤ (l.take n).length := e1
    have hG : Gth ((l.take n).take v) (o', b', q', l', n', c0) := hG
    rw [List.take_of_length_le (by omega)] at hG
    refine Ends.one ((o', b', q', l', n', c0) : Sq Pg) hG ?_
    ((conv => (arg 1; reduce)); with_reducible repeat' (first | exact Tr.yes_h | refine Tr.and_h ?_ ?_ | refine Tr.imp_h fun _ => ?_ | refine Tr.all_h fun _ => ?_ | refine Tr.lf_h ?_))
    all_goals (first | first | (show Region.lexB _ _ = true; kernel_rfl) | (show planned _ _ = true; kernel_rfl) | exact rfl | exact True.intro | (first | exact key3 | exact zeroB | exact zeroR | exact zeroS | exact ⟨key3, zeroB⟩ | exact ⟨key3, zeroR⟩ | exact ⟨key3, zeroS⟩) | ((try dsimp only [imp, C0, cG, cInt, cPl, cSlot, cPg, gwCodec] at *); (try refine inR64 ?_ ?_) <;> (try simp only [List.length_set, List.length_append, List.length_take, List.length_drop]) <;> omega))
def fcMade : Fc Tryd.prog C0 where
  tg := .fn 10
  X := Bool × Nat × Nat × List Pg × Nat × Nat
  args := fun (o, b, q, l, n, c) => [.sl 0 0 n c]
  mem := fun (o, b, q, l, n, c) => [⟨b, q, 9, false, some o, .rows 42 l⟩]
  pre := fun (o, b, q, l, n, c) => n ≤ l.length ∧ n < 1000000000 ∧ (o = false → n = 0 ∧ c = 0)
  alts := fun (o, b, q, l, n, c) => [⟨Sq Pg, fun y => Gth (l.take n) y, fun y => .sl 1 0 y.2.2.2.2.1 y.2.2.2.2.2, fun y => [⟨b, q, 9, false, some o, .rows 42 l⟩, ⟨y.2.1, y.2.2.1, 9, true, some y.1, .rows 55 y.2.2.2.1⟩]⟩]
  mat vs m := match vs with
    | [.sl a 0 n c] => match nth m a with
      | ⟨b, q, _, _, g, .rows 42 l⟩ => some ((onOf g, b, q, l, n, c), [a])
      | _ => none
    | [.nils] => some ((false, 0, 0, [], 0, 0), [m.length])
    | _ => none
  ok := fun (o, b, q, l, n, c) h => made_ok o b q l n c h.1 h.2.1 h.2.2
theorem bySlotsC : Tryd.prog.types[59].bytes = 72 := by kernel_rfl
def SlotscI (L : List Slot) : Inv' C0 := ⟨3, Nat × Sq Slot, fun y => [(4, .int .i64 (y.1 : Int)), (3, .sl 1 0 y.2.2.2.2.2.1 y.2.2.2.2.2.2)], fun y m => match m with
  | a :: _ => [a, ⟨y.2.2.1, y.2.2.2.1, 9, true, some y.2.1, .rows 59 y.2.2.2.2.1⟩]
  | m => m, fun y => y.1 ≤ L.length ∧ Gth (L.take y.1) y.2, fun y => L.length - y.1⟩
set_option maxHeartbeats 4000000 in
theorem slotsC_ok (o : Bool) (b q : Nat) (l : List Slot) (n c : Nat) (h : n ≤ l.length) (hn : n < 1000000000) (ho : o = false → n = 0 ∧ c = 0) :
    Does (C := C0) Tryd.prog (.fn 19) [⟨b, q, 9, false, some o, .rows 40 l⟩] [.sl 0 0 n c]
    [⟨Sq Slot, fun y => Gth (l.take n) y, fun y => .sl 1 0 y.2.2.2.2.1 y.2.2.2.2.2, fun y => [⟨b, q, 9, false, some o, .rows 40 l⟩, ⟨y.2.1, y.2.2.1, 9, true, some y.1, .rows 59 y.2.2.2.1⟩]⟩] := by
  have hL := tk_len h
  refine loc_fn (P := Tryd.prog) (E := ⟨[], [], 31, [(5, [0], [.p 0, .p 1, .p 2, .p 3, .p 4, .p 5, .p 6, .p 7, .p 8, .p 9, .p 10, .p 11, .p 12, .p 13, .p 14, .p 15, .p 16, .e 17, .e 18, .p 19])], [], []⟩) (L := [SlotscI (l.take n)]) mix Tryd.func19 rfl (by kernel_rfl) (by kernel_rfl) rfl rfl ?_
  ((conv => (arg 1; reduce)); with_reducible repeat' (first | exact Tr.yes_h | refine Tr.and_h ?_ ?_ | refine Tr.imp_h fun _ => ?_ | refine Tr.all_h fun _ => ?_ | refine Tr.lf_h ?_))
  all_goals try (first | first | (show Region.lexB _ _ = true; kernel_rfl) | (show planned _ _ = true; kernel_rfl) | exact rfl | exact True.intro | (first | exact key3 | exact zeroB | exact zeroR | exact zeroS | exact ⟨key3, zeroB⟩ | exact ⟨key3, zeroR⟩ | exact ⟨key3, zeroS⟩) | ((try dsimp only [imp, C0, cG, cInt, cPl, cSlot, cPg, gwCodec] at *); (try refine inR64 ?_ ?_) <;> (try simp only [List.length_set, List.length_append, List.length_take, List.length_drop]) <;> omega))
  · refine Stands.one (0, (false, 0, 0, [], 0, 0)) ⟨⟨Nat.zero_le _, Gth.nil⟩, ?_⟩
    ((conv => (arg 1; reduce)); with_reducible repeat' (first | exact Tr.yes_h | refine Tr.and_h ?_ ?_ | refine Tr.imp_h fun _ => ?_ | refine Tr.all_h fun _ => ?_ | refine Tr.lf_h ?_))
    all_goals (first | first | (show Region.lexB _ _ = true; kernel_rfl) | (show planned _ _ = true; kernel_rfl) | exact rfl | exact True.intro | (first | exact key3 | exact zeroB | exact zeroR | exact zeroS | exact ⟨key3, zeroB⟩ | exact ⟨key3, zeroR⟩ | exact ⟨key3, zeroS⟩) | ((try dsimp only [imp, C0, cG, cInt, cPl, cSlot, cPg, gwCodec] at *); (try refine inR64 ?_ ?_) <;> (try simp only [List.length_set, List.length_append, List.length_take, List.length_drop]) <;> omega))
  all_goals try (
    rename_i y hy h1
    have h1 : (y.1 : Int) < (n : Int) := of_decide_eq_true h1
    first
      | exact on_of ho (by omega)
      | exact h1
      | (show y.1 < l.length; omega))
  · rename_i y hy h1 b2
    obtain ⟨v, o', b', q', l', n', c'⟩ := y
    have h1 : (v : Int) < (n : Int) := of_decide_eq_true h1
    have hG := hy.2.room
    have hnv : n' = v := by
      have e : n' = ((l.take n).take v).length := hG.2.2.1
      rw [List.length_take, hL] at e
      omega
    rw [bySlotsC]
    exact ⟨hG.1, by show 0 + c' ≤ l'.length; have := hG.2.1; omega, by simp, by show (n' + 1) * 72 ≤ _; omega⟩
  · rename_i y hy h1 b2
    exact hy.2.room.2.2.2
  · rename_i y hy h1 b2 b3 b4 sp c' h3 h4
    obtain ⟨v, o', b', q', l', n', c0⟩ := y
    have h1 : (v : Int) < (n : Int) := of_decide_eq_true h1
    exact inR64 (by show -9223372036854775808 ≤ (v : Int) + 1; omega) (by show (v : Int) + 1 ≤ 9223372036854775807; omega)
  · rename_i y hy h1 b2 b3 b4 sp c' h3 h4
    obtain ⟨v, o', b', q', l', n', c0⟩ := y
    obtain ⟨e1, hG⟩ := hy
    have h1 : (v : Int) < (n : Int) := of_decide_eq_true h1
    change List Slot at sp
    refine Stands.one ((v + 1, (true, b3, b4, l'.take n' ++ [l.getD v slot0] ++ sp, n' + 1, c')) : Nat × Sq Slot) ⟨⟨by show v + 1 ≤ (l.take n).length; omega, ?_⟩, ?_, ?_⟩
    · show Gth ((l.take n).take (v + 1)) _
      rw [take_snoc (d := slot0) (by omega), tk_get (by omega)]
      exact hG.snoc h3 h4
    · show (l.take n).length - (v + 1) < (l.take n).length - v
      omega
    ((conv => (arg 1; reduce)); with_reducible repeat' (first | exact Tr.yes_h | refine Tr.and_h ?_ ?_ | refine Tr.imp_h fun _ => ?_ | refine Tr.all_h fun _ => ?_ | refine Tr.lf_h ?_))
    all_goals (first | first | (show Region.lexB _ _ = true; kernel_rfl) | (show planned _ _ = true; kernel_rfl) | exact rfl | exact True.intro | (first | exact key3 | exact zeroB | exact zeroR | exact zeroS | exact ⟨key3, zeroB⟩ | exact ⟨key3, zeroR⟩ | exact ⟨key3, zeroS⟩) | ((try dsimp only [imp, C0, cG, cInt, cPl, cSlot, cPg, gwCodec] at *); (try refine inR64 ?_ ?_) <;> (try simp only [List.length_set, List.length_append, List.length_take, List.length_drop]) <;> omega))
  · rename_i y hy h1
    obtain ⟨v, o', b', q', l', n', c0⟩ := y
    obtain ⟨e1, hG⟩ := hy
    have h1 : ¬ (v : Int) < (n : Int) := of_decide_eq_false h1
    have e1 : v ≤ (l.take n).length := e1
    have hG : Gth ((l.take n).take v) (o', b', q', l', n', c0) := hG
    rw [List.take_of_length_le (by omega)] at hG
    refine Ends.one ((o', b', q', l', n', c0) : Sq Slot) hG ?_
    ((conv => (arg 1; reduce)); with_reducible repeat' (first | exact Tr.yes_h | refine Tr.and_h ?_ ?_ | refine Tr.imp_h fun _ => ?_ | refine Tr.all_h fun _ => ?_ | refine Tr.lf_h ?_))
    all_goals (first | first | (show Region.lexB _ _ = true; kernel_rfl) | (show planned _ _ = true; kernel_rfl) | exact rfl | exact True.intro | (first | exact key3 | exact zeroB | exact zeroR | exact zeroS | exact ⟨key3, zeroB⟩ | exact ⟨key3, zeroR⟩ | exact ⟨key3, zeroS⟩) | ((try dsimp only [imp, C0, cG, cInt, cPl, cSlot, cPg, gwCodec] at *); (try refine inR64 ?_ ?_) <;> (try simp only [List.length_set, List.length_append, List.length_take, List.length_drop]) <;> omega))
def fcSlotsc : Fc Tryd.prog C0 where
  tg := .fn 19
  X := Bool × Nat × Nat × List Slot × Nat × Nat
  args := fun (o, b, q, l, n, c) => [.sl 0 0 n c]
  mem := fun (o, b, q, l, n, c) => [⟨b, q, 9, false, some o, .rows 40 l⟩]
  pre := fun (o, b, q, l, n, c) => n ≤ l.length ∧ n < 1000000000 ∧ (o = false → n = 0 ∧ c = 0)
  alts := fun (o, b, q, l, n, c) => [⟨Sq Slot, fun y => Gth (l.take n) y, fun y => .sl 1 0 y.2.2.2.2.1 y.2.2.2.2.2, fun y => [⟨b, q, 9, false, some o, .rows 40 l⟩, ⟨y.2.1, y.2.2.1, 9, true, some y.1, .rows 59 y.2.2.2.1⟩]⟩]
  mat vs m := match vs with
    | [.sl a 0 n c] => match nth m a with
      | ⟨b, q, _, _, g, .rows 40 l⟩ => some ((onOf g, b, q, l, n, c), [a])
      | _ => none
    | [.nils] => some ((false, 0, 0, [], 0, 0), [m.length])
    | _ => none
  ok := fun (o, b, q, l, n, c) h => slotsC_ok o b q l n c h.1 h.2.1 h.2.2
end Go.Vx
set_option maxRecDepth 100000
namespace Go.Vx
open Go Go.Proofs
variable [Gl]

abbrev sqN {α : Type} : Sq α := (false, 0, 0, [], 0, 0)
def OfPre : Int × Int × Int × Sq Int × Sq Pg → Prop
  | (bs, ps, ss, s, l) => (1 ≤ bs ∧ bs ≤ 64) ∧ (1 ≤ ps ∧ ps ≤ 64) ∧ (1 ≤ ss ∧ ss ≤ 536870912) ∧
    (s.2.2.2.2.1 ≤ s.2.2.2.1.length ∧ s.2.2.2.2.1 < 1000000000 ∧ (s.1 = false → s.2.2.2.2.1 = 0 ∧ s.2.2.2.2.2 = 0)) ∧
    (l.2.2.2.2.1 ≤ l.2.2.2.1.length ∧ l.2.2.2.2.1 < 1000000 ∧ (l.1 = false → l.2.2.2.2.1 = 0 ∧ l.2.2.2.2.2 = 0))
noncomputable def fcOf : Fc Tryd.prog C0 where
  tg := .fn 9
  X := Int × Int × Int × Sq Int × Sq Pg
  args := fun (bs, ps, ss, s, l) => [.int .i64 bs, .int .i64 ps, .int .i64 ss, svI 0 s, svP 1 l]
  mem := fun (bs, ps, ss, s, l) => [chK s, chP l]
  pre := OfPre
  alts := fun (bs, ps, ss, s, l) => [⟨Sq Slot × Sq Int × Sq Int × Sq Int × Sq Pl, OfS ⟨bs, ps, ss⟩ s.li l.li,
      fun y => .tup [resA (nmOf bs.toNat (gridL bs.toNat l.li)) y.1 y.2.1 y.2.2.1 y.2.2.2.1 y.2.2.2.2, .nili],
      fun y => [chK s, chP l, chL y.1, chI y.2.1, chI y.2.2.1, chI y.2.2.2.1, chO y.2.2.2.2]⟩,
     ⟨Unit, fun _ => ∃ j, j < l.li.length ∧ pgBad bs ps s.li l.li j = true, fun _ => .tup [resN, errSV 0], fun _ => [chK s, chP l]⟩]
  mat vs m := match vs with
    | [.int _ bs, .int _ ps, .int _ ss, .nils, .sl a 0 n c] => match nth m a with
      | ⟨b, q, _, _, g, .rows 55 l⟩ => some ((bs, ps, ss, sqN, (onOf g, b, q, l, n, c)), [m.length, a])
      | _ => none
    | [.int _ bs, .int _ ps, .int _ ss, .nils, .nils] => some ((bs, ps, ss, sqN, sqN), [m.length, m.length + 1])
    | _ => none
  ok := fun (bs, ps, ss, s, l) h => of_ok bs ps ss h.1 h.2.1 h.2.2.1 s l h.2.2.2.1 h.2.2.2.2
abbrev fl1 : List Pg := [⟨(0, 0), 1, ⟨1, 0, 0, 1, 0, 0⟩⟩, ⟨(0, 1), 1, ⟨2, 2, 5, 2, 0, 0⟩⟩, ⟨(0, 2), 1, ⟨2, 2, 6, 3, 1, 0⟩⟩]
abbrev fl2 : List Pg := fl1 ++ [⟨(1, 0), 1, ⟨1, 1, 0, 4, 0, 0⟩⟩, ⟨(1, 1), 1, ⟨4, 1, 7, 5, 1, 0⟩⟩]
theorem bad_all {bs ps : Int} {L : List Pg} (h : (List.range L.length).all (fun j => !pgBad bs ps [] L j) = true) : ∀ j, j < L.length → pgBad bs ps [] L j = false := by
  intro j hj
  exact not_t (List.all_eq_true.1 h j (List.mem_range.2 hj))
theorem fl1_bad : ∀ j, j < fl1.length → pgBad 2 3 [] fl1 j = false := bad_all (by kernel_rfl)
theorem fl2_bad : ∀ j, j < fl2.length → pgBad 2 3 [] fl2 j = false := bad_all (by kernel_rfl)
theorem fl1_S : sloS ⟨2, 3, 4⟩ 2 (gridL 2 fl1) = [⟨2, (0, 1), ⟨2, 2, 5, 2, 0, 0⟩⟩] := by kernel_rfl
theorem fl1_F : freS [] 2 (gridL 2 fl1) = [1] := by kernel_rfl
theorem fl1_D : dirS ⟨2, 3, 4⟩ [] 2 (gridL 2 fl1) = [0] := by kernel_rfl
theorem fl1_O : orfS 2 (gridL 2 fl1) = [(0, 2)] := by kernel_rfl
theorem fl2_S : sloS ⟨2, 3, 4⟩ 2 (gridL 2 fl2) = [⟨2, (0, 2), ⟨2, 2, 6, 3, 1, 0⟩⟩, ⟨9, (1, 1), ⟨4, 1, 7, 5, 1, 0⟩⟩] := by kernel_rfl
theorem fl2_D : dirS ⟨2, 3, 4⟩ [] 2 (gridL 2 fl2) = [] := by kernel_rfl
theorem fl2_f : (nmOf 2 (gridL 2 fl2)).f = 1 := by kernel_rfl
theorem Gth.n {α : Type} {A : List α} {y : Sq α} (h : Gth A y) : y.2.2.2.2.1 = A.length := h.2.1.symm
theorem Gth.tk {α : Type} {A : List α} {y : Sq α} (h : Gth A y) : y.2.2.2.1.take y.2.2.2.2.1 = A := h.1
theorem Gth.le {α : Type} {A : List α} {y : Sq α} (h : Gth A y) : y.2.2.2.2.1 ≤ y.2.2.2.1.length := Nat.le_trans h.2.2.1 h.2.2.2.1
theorem Gth.off {α : Type} {A : List α} {y : Sq α} (h : Gth A y) : y.1 = false → y.2.2.2.2.1 = 0 ∧ y.2.2.2.2.2 = 0 := h.2.2.2.2
theorem Gth.on {α : Type} {A : List α} {y : Sq α} (h : Gth A y) (hA : 0 < A.length) : y.1 = true := on_of h.off (by rw [h.n]; exact hA)
theorem Gth.get {α : Type} {A : List α} {y : Sq α} (h : Gth A y) {i : Nat} {d : α} (hi : i < A.length) : y.2.2.2.1.getD i d = A.getD i d := by
  rw [← h.tk, tk_get (by rw [h.n]; exact hi)]
theorem Gth.same {α : Type} {A : List α} {y : Sq α} (h : Gth A y) (hA : A.length < 140737488355000) : y.2.2.2.2.1 ≤ y.2.2.2.1.length ∧ y.2.2.2.2.1 < 140737488355000 ∧ (y.1 = false → y.2.2.2.2.1 = 0 ∧ y.2.2.2.2.2 = 0) := ⟨h.le, by rw [h.n]; exact hA, h.off⟩
structure F1 (y : Sq Slot × Sq Int × Sq Int × Sq Int × Sq Pl) : Prop where
  S : Gth [⟨2, (0, 1), ⟨2, 2, 5, 2, 0, 0⟩⟩] y.1
  F : Gth [1] y.2.1
  D : Gth [0] y.2.2.1
  O : Gth [(0, 2)] y.2.2.2.2
theorem F1.of {y : Sq Slot × Sq Int × Sq Int × Sq Int × Sq Pl} (h : OfS ⟨2, 3, 4⟩ [] fl1 y) : F1 y := ⟨by rw [← fl1_S]; exact h.2.1, by rw [← fl1_F]; exact h.2.2.1, by rw [← fl1_D]; exact h.2.2.2.1, by rw [← fl1_O]; exact h.2.2.2.2.2⟩
structure F2 (y : Sq Slot × Sq Int × Sq Int × Sq Int × Sq Pl) : Prop where
  S : Gth [⟨2, (0, 2), ⟨2, 2, 6, 3, 1, 0⟩⟩, ⟨9, (1, 1), ⟨4, 1, 7, 5, 1, 0⟩⟩] y.1
  D : Gth [] y.2.2.1
theorem F2.of {y : Sq Slot × Sq Int × Sq Int × Sq Int × Sq Pl} (h : OfS ⟨2, 3, 4⟩ [] fl2 y) : F2 y := ⟨by rw [← fl2_S]; exact h.2.1, by rw [← fl2_D]; exact h.2.2.2.1⟩
theorem first_ok : Tells (C := C0) Tryd.prog (.fn 8) [] [] (.bool .t) := by
  refine loc_pc (P := Tryd.prog) (E := ⟨[fcOf], [pcPage, pcSameInts], 103, [], [], []⟩) (L := []) mix Tryd.func8 rfl (by kernel_rfl) (by kernel_rfl) rfl rfl ?_
  ((conv => (arg 1; reduce)); with_reducible repeat' (first | exact Tr.yes_h | refine Tr.and_h ?_ ?_ | refine Tr.imp_h fun _ => ?_ | refine Tr.all_h fun _ => ?_ | refine Tr.lf_h ?_))
  all_goals try (first | first | (show Region.lexB _ _ = true; kernel_rfl) | (show planned _ _ = true; kernel_rfl) | exact rfl | exact True.intro | (first | exact key3 | exact zeroB | exact zeroR | exact zeroS | exact ⟨key3, zeroB⟩ | exact ⟨key3, zeroR⟩ | exact ⟨key3, zeroS⟩) | ((try dsimp only [imp, C0, cG, cInt, cPl, cSlot, cPg, gwCodec] at *); (try refine inR64 ?_ ?_) <;> (try simp only [List.length_set, List.length_append, List.length_take, List.length_drop]) <;> omega))
  · exact ⟨by decide, by decide, by decide, ⟨Nat.le_refl 0, by decide, fun _ => ⟨rfl, rfl⟩⟩, (Nat.le_refl 3 : 3 ≤ 3), (by decide : 3 < 1000000), fun h => Bool.noConfusion h⟩
  · rename_i b0 y1 h1 c1 d1
    exact (F1.of h1).S.on (by decide)
  · rename_i b0 y1 h1 c1 d1
    show (0 : Int) < ((y1.1.2.2.2.2.1 : Nat) : Int)
    rw [(F1.of h1).S.n]; decide
  · rename_i b0 y1 h1 c1 d1
    exact (F1.of h1).S.on (by decide)
  · rename_i b0 y1 h1 c1 d1
    exact Nat.lt_of_lt_of_le (by rw [(F1.of h1).S.n]; decide : 0 < y1.1.2.2.2.2.1) (F1.of h1).S.le
  · rename_i b0 y1 h1 c1 d1
    have f1 : F1 y1 := F1.of h1
    have d1 : (decide (((y1.1.2.2.2.2.1 : Nat) : Int) ≠ 1) || decide ((y1.1.2.2.2.1.getD 0 slot0).pl.2 ≠ 1)) = true := d1
    rw [f1.S.n, f1.S.get (d := slot0) (by decide)] at d1
    exact absurd d1 (by decide)
  · rename_i b0 y1 h1 c1 d1 u1
    have f1 : F1 y1 := F1.of h1
    exact ⟨f1.D.le, Nat.le_refl 1, by rw [f1.D.n]; decide, f1.D.off, fun h => Bool.noConfusion h⟩
  · rename_i b0 y1 h1 c1 d1 u1 d2
    have f1 : F1 y1 := F1.of h1
    have d2 : (!ieq (y1.2.2.1.2.2.2.1.take y1.2.2.1.2.2.2.2.1) [0] || decide (((y1.2.2.2.2.2.2.2.2.1 : Nat) : Int) ≠ 1)) = true := d2
    rw [f1.D.tk, f1.O.n, ieq_yes rfl] at d2
    exact absurd d2 (by decide)
  · rename_i b0 y1 h1 c1 d1 u1 d2 u2
    have f1 : F1 y1 := F1.of h1
    exact ⟨f1.F.le, Nat.le_refl 1, by rw [f1.F.n]; decide, f1.F.off, fun h => Bool.noConfusion h⟩
  · rename_i b0 y1 h1 c1 d1 u1 d2 u2 d3
    have f1 : F1 y1 := F1.of h1
    have d3 : (!ieq (y1.2.1.2.2.2.1.take y1.2.1.2.2.2.2.1) [1]) = true := d3
    rw [f1.F.tk, ieq_yes rfl] at d3
    exact absurd d3 (by decide)
  · refine ⟨Nat.le_refl 3, (Nat.le_refl 3 : 0 + 3 ≤ 3), (Nat.le_refl 2 : 0 + 2 ≤ 2), ?_⟩
    show (3 + 2) * Tryd.prog.types[55].bytes ≤ _
    rw [byP]; decide
  · rename_i b0 y1 h1 c1 d1 u1 d2 u2 d3 u3 b9 q9 sp cp e1 e2
    exact ⟨by decide, by decide, by decide, ⟨Nat.le_refl 0, by decide, fun _ => ⟨rfl, rfl⟩⟩, (by show 5 ≤ (fl2 ++ sp).length; rw [List.length_append]; exact Nat.le_add_right 5 _), (by decide : 5 < 1000000), fun h => Bool.noConfusion h⟩
  · rename_i b0 y1 h1 c1 d1 u1 d2 u2 d3 u3 b9 q9 sp cp e1 e2 y2 h2 c2 d4
    exact (F2.of h2).S.on (by decide)
  · rename_i b0 y1 h1 c1 d1 u1 d2 u2 d3 u3 b9 q9 sp cp e1 e2 y2 h2 c2 d4
    show (0 : Int) < ((y2.1.2.2.2.2.1 : Nat) : Int)
    rw [(F2.of h2).S.n]; decide
  · rename_i b0 y1 h1 c1 d1 u1 d2 u2 d3 u3 b9 q9 sp cp e1 e2 y2 h2 c2 d4
    exact (F2.of h2).S.on (by decide)
  · rename_i b0 y1 h1 c1 d1 u1 d2 u2 d3 u3 b9 q9 sp cp e1 e2 y2 h2 c2 d4
    exact Nat.lt_of_lt_of_le (by rw [(F2.of h2).S.n]; decide : 0 < y2.1.2.2.2.2.1) (F2.of h2).S.le
  · rename_i b0 y1 h1 c1 d1 u1 d2 u2 d3 u3 b9 q9 sp cp e1 e2 y2 h2 c2 d4
    exact (F2.of h2).S.on (by decide)
  · rename_i b0 y1 h1 c1 d1 u1 d2 u2 d3 u3 b9 q9 sp cp e1 e2 y2 h2 c2 d4
    show (1 : Int) < ((y2.1.2.2.2.2.1 : Nat) : Int)
    rw [(F2.of h2).S.n]; decide
  · rename_i b0 y1 h1 c1 d1 u1 d2 u2 d3 u3 b9 q9 sp cp e1 e2 y2 h2 c2 d4
    exact (F2.of h2).S.on (by decide)
  · rename_i b0 y1 h1 c1 d1 u1 d2 u2 d3 u3 b9 q9 sp cp e1 e2 y2 h2 c2 d4
    exact Nat.lt_of_lt_of_le (by rw [(F2.of h2).S.n]; decide : 1 < y2.1.2.2.2.2.1) (F2.of h2).S.le
  · rename_i b0 y1 h1 c1 d1 u1 d2 u2 d3 u3 b9 q9 sp cp e1 e2 y2 h2 c2
    have f2 : F2 y2 := F2.of h2
    show (decide ((nmOf 2 (gridL 2 fl2)).f = 1) && decide (((y2.1.2.2.2.2.1 : Nat) : Int) = 2) && decide ((y2.1.2.2.2.1.getD 0 slot0).pl.2 = 2) && decide ((y2.1.2.2.2.1.getD 1 slot0).key = 9) && decide (((y2.2.2.1.2.2.2.2.1 : Nat) : Int) = 0)) = true
    rw [fl2_f, f2.S.n, f2.D.n, f2.S.get (d := slot0) (by decide), f2.S.get (d := slot0) (by decide)]
    decide
  · rename_i b0 y1 h1 c1 d1 u1 d2 u2 d3 u3 b9 q9 sp cp e1 e2 y2 h2 c2
    obtain ⟨j, hj, hb⟩ := h2
    exact absurd ((fl2_bad j hj).symm.trans hb) (by decide)
  · rename_i b0 y1 h1 c1
    obtain ⟨j, hj, hb⟩ := h1
    exact absurd ((fl1_bad j hj).symm.trans hb) (by decide)
def pcFirst : Pc Tryd.prog C0 where
  tg := .fn 8
  X := Unit
  args _ := []
  mem _ := []
  pre _ := True
  res _ := .bool .t
  mat vs m := match vs with
    | [] => some ((), [])
    | _ => none
  ok _ _ := first_ok
end Go.Vx
set_option maxRecDepth 100000
namespace Go.Vx
open Go Go.Proofs
variable [Gl]

theorem and_le (x : Int) (N : Nat) (h : N < 9223372036854775808) : 0 ≤ ibit .and .i64 x (N : Int) ∧ ibit .and .i64 x (N : Int) ≤ (N : Int) := by
  unfold ibit
  simp only
  have h0 : (BitVec.ofInt IntKind.i64.bits (N : Int)).toNat ≤ N := by
    rw [BitVec.toNat_ofInt]
    have e : ((N : Int) % ((2 ^ IntKind.i64.bits : Nat) : Int)) = (N : Int) := Int.emod_eq_of_lt (by omega) (by show (N : Int) < ((18446744073709551616 : Nat) : Int); omega)
    rw [e]; exact Nat.le_refl _
  have h1 : (BitVec.ofInt IntKind.i64.bits x &&& BitVec.ofInt IntKind.i64.bits (N : Int)).toNat ≤ N := by
    rw [BitVec.toNat_and]
    exact Nat.le_trans Nat.and_le_right h0
  have hw : IntKind.wrap .i64 (((BitVec.ofInt IntKind.i64.bits x &&& BitVec.ofInt IntKind.i64.bits (N : Int)).toNat : Nat) : Int) = _ := inR64 (by omega) (by omega)
  rw [hw]
  omega
/-- A batch's page. -/
abbrev lcP (b : Int) (j : Nat) : Pg := ⟨(0, (j : Int) + 1), 1, ⟨2, (j : Int), (j : Int) + 1, (j : Int) + 2, b, 0⟩⟩
def lc (b : Int) (k : Nat) : List Pg := ⟨(0, 0), 1, ⟨1, 0, 0, 1, 0, 0⟩⟩ :: (List.range k).map (lcP b)
theorem lc_succ (b : Int) (k : Nat) : lc b (k + 1) = lc b k ++ [lcP b k] := by
  unfold lc
  rw [List.range_succ, List.map_append]; rfl
def lc1 (b : Int) (k : Nat) (cm : Bool) : List Pg := lc b k ++ if cm then [⟨(0, (k : Int) + 1), 1, ⟨4, b, 20, 20, b, 0⟩⟩] else []
def lc2 (b : Int) (k : Nat) (cm la : Bool) : List Pg := lc1 b k cm ++ if la then [⟨(1, 0), 1, ⟨1, 1, 0, 30, 0, b⟩⟩] else []
/-- The same, where the second has nothing. -/
def pcSameIntsN : Pc Tryd.prog C0 := { pcSameInts with
  mat := fun vs m => match vs with
    | [.nils, .nils] => some (((false, 0, 0, [], 0, 0), (false, 0, 0, [], 0, 0)), [m.length, m.length + 1])
    | _ => none }
end Go.Vx
set_option maxRecDepth 100000
namespace Go.Vx
open Go Go.Proofs
variable [Gl]

theorem foldl_max {α : Type} (v : α → Int) : ∀ (L : List α) (a : Int), a ≤ L.foldl (fun a p => max a (v p)) a ∧ (∀ p ∈ L, v p ≤ L.foldl (fun a p => max a (v p)) a) ∧ (L.foldl (fun a p => max a (v p)) a = a ∨ ∃ p ∈ L, L.foldl (fun a p => max a (v p)) a = v p)
  | [], a => ⟨Int.le_refl _, fun p hp => (by cases hp), .inl rfl⟩
  | q :: r, a => by
    obtain ⟨h1, h2, h3⟩ := foldl_max v r (max a (v q))
    rw [List.foldl_cons]
    refine ⟨by omega, fun p hp => ?_, ?_⟩
    · rcases List.mem_cons.1 hp with rfl | hp
      · omega
      · exact h2 p hp
    · rcases h3 with h3 | ⟨p, hp, h3⟩
      · rw [h3]
        rcases Int.le_total a (v q) with h | h
        · exact .inr ⟨q, List.mem_cons_self .., by omega⟩
        · exact .inl (by omega)
      · exact .inr ⟨p, List.mem_cons_of_mem _ hp, h3⟩
/-- What a page says of the floor. -/
def flv (p : Pg) : Int := if p.me.kind = 4 then max p.me.floor p.me.key else p.me.floor
theorem flH_eq : flH = fun a p => max a (flv p) := by
  funext a p
  show (if p.me.kind = 4 then max (max a p.me.floor) p.me.key else max a p.me.floor) = max a (flv p)
  unfold flv
  by_cases h : p.me.kind = 4
  · rw [if_pos h, if_pos h]; exact Int.max_assoc ..
  · rw [if_neg h, if_neg h]
theorem fTo_max {g : Me → Int} {f : Nat → List Pg → Bool} {Q : List (List Pg)} {n : Nat} {x : Int} (h0 : 0 ≤ x) (h1 : ∀ p ∈ pgsTo f Q n, p.cl = 1 → g p.me ≤ x) (h2 : x = 0 ∨ ∃ p ∈ pgsTo f Q n, p.cl = 1 ∧ g p.me = x) : fTo (mxH g) f Q n = x := by
  unfold fTo
  obtain ⟨a, b, c⟩ := foldl_max (fun p : Pg => g p.me) ((pgsTo f Q n).filter fun p => decide (p.cl = 1)) 0
  have e : ((pgsTo f Q n).filter fun p => decide (p.cl = 1)).foldl (mxH g) 0 = ((pgsTo f Q n).filter fun p => decide (p.cl = 1)).foldl (fun a p => max a (g p.me)) 0 := rfl
  rw [e]
  have hle : ((pgsTo f Q n).filter fun p => decide (p.cl = 1)).foldl (fun a p => max a (g p.me)) 0 ≤ x := by
    rcases c with c | ⟨p, hp, c⟩
    · rw [c]; exact h0
    · rw [c]
      obtain ⟨hp, hc⟩ := List.mem_filter.1 hp
      exact h1 p hp (of_decide_eq_true hc)
  rcases h2 with rfl | ⟨p, hp, hc, h2⟩
  · omega
  · have := b p (List.mem_filter.2 ⟨hp, decide_eq_true hc⟩)
    omega
theorem fTo_fl {f : Nat → List Pg → Bool} {Q : List (List Pg)} {n : Nat} {x : Int} (h0 : 0 ≤ x) (h1 : ∀ p ∈ pgsTo f Q n, p.cl = 1 → flv p ≤ x) (h2 : x = 0 ∨ ∃ p ∈ pgsTo f Q n, p.cl = 1 ∧ flv p = x) : fTo flH f Q n = x := by
  unfold fTo
  rw [flH_eq]
  obtain ⟨a, b, c⟩ := foldl_max flv ((pgsTo f Q n).filter fun p => decide (p.cl = 1)) 0
  have hle : ((pgsTo f Q n).filter fun p => decide (p.cl = 1)).foldl (fun a p => max a (flv p)) 0 ≤ x := by
    rcases c with c | ⟨p, hp, c⟩
    · rw [c]; exact h0
    · rw [c]
      obtain ⟨hp, hc⟩ := List.mem_filter.1 hp
      exact h1 p hp (of_decide_eq_true hc)
  rcases h2 with rfl | ⟨p, hp, hc, h2⟩
  · omega
  · have := b p (List.mem_filter.2 ⟨hp, decide_eq_true hc⟩)
    omega
theorem winB_iff {f : Int} {L : List Pg} : winB f L = true ↔ ∃ p ∈ L, okP f p = true := by
  unfold winB winL
  rw [decide_eq_true_eq]
  constructor
  · intro h
    obtain ⟨p, hp⟩ := List.exists_mem_of_length_pos h
    exact ⟨p, (List.mem_filter.1 hp).1, (List.mem_filter.1 hp).2⟩
  · rintro ⟨p, h1, h2⟩
    exact List.length_pos_of_mem (List.mem_filter.2 ⟨h1, h2⟩)
theorem mem_lc2 {b : Int} {k : Nat} {cm la : Bool} {p : Pg} : p ∈ lc2 b k cm la ↔ p = ⟨(0, 0), 1, ⟨1, 0, 0, 1, 0, 0⟩⟩ ∨ (∃ j, j < k ∧ p = lcP b j) ∨ (cm = true ∧ p = ⟨(0, (k : Int) + 1), 1, ⟨4, b, 20, 20, b, 0⟩⟩) ∨ (la = true ∧ p = ⟨(1, 0), 1, ⟨1, 1, 0, 30, 0, b⟩⟩) := by
  unfold lc2 lc1 lc
  rw [List.mem_append, List.mem_append, List.mem_cons, List.mem_map]
  constructor
  · rintro ((( h | ⟨j, hj, rfl⟩) | h) | h)
    · exact .inl h
    · exact .inr (.inl ⟨j, List.mem_range.1 hj, rfl⟩)
    · cases cm with
      | true => exact .inr (.inr (.inl ⟨rfl, List.mem_singleton.1 h⟩))
      | false => cases h
    · cases la with
      | true => exact .inr (.inr (.inr ⟨rfl, List.mem_singleton.1 h⟩))
      | false => cases h
  · rintro (h | ⟨j, hj, rfl⟩ | ⟨rfl, rfl⟩ | ⟨rfl, rfl⟩)
    · exact .inl (.inl (.inl h))
    · exact .inl (.inl (.inr ⟨j, List.mem_range.2 hj, rfl⟩))
    · exact .inl (.inr (List.mem_singleton.2 rfl))
    · exact .inr (List.mem_singleton.2 rfl)
theorem lc_len (b : Int) (k : Nat) : (lc b k).length = k + 1 := by unfold lc; simp
theorem lc1_len (b : Int) (k : Nat) (cm : Bool) : (lc1 b k cm).length ≤ k + 2 := by
  unfold lc1
  rw [List.length_append, lc_len]
  cases cm
  · exact Nat.le_succ _
  · exact Nat.le_refl _
theorem lc2_len (b : Int) (k : Nat) (cm la : Bool) : (lc2 b k cm la).length ≤ k + 3 := by
  have := lc1_len b k cm
  unfold lc2
  rw [List.length_append]
  cases la
  · exact Nat.le_trans this (Nat.le_succ _)
  · exact Nat.succ_le_succ this
abbrev cQ (b : Int) (k : Nat) (cm la : Bool) : List (List Pg) := gridL 3 (lc2 b k cm la)
/-- What can be worked out. -/
structure CmK (b : Int) (k : Nat) (cm la : Bool) : Prop where
  all : pgsTo allF (cQ b k cm la) 3 = lc2 b k cm la
  cnt : cntP 3 (cQ b k cm la) = lc2 b k cm la
  bad : badL 3 (cQ b k cm la) = []
  key : (keyL ⟨3, 8, 6⟩ (lc2 b k cm la)).filter (fun j => decide (j < 6)) = upTo k
  ok : (List.range (lc2 b k cm la).length).all (fun j => !pgBad 3 8 [] (lc2 b k cm la) j) = true
  dat : (List.range k).all (fun j => kyF ⟨3, 8, 6⟩ (lcP b j) && decide (gKey ⟨3, 8, 6⟩ (lcP b j) = (j : Int))) = true
theorem cmk1ff (b : Int) : CmK b 1 false false := ⟨by kernel_rfl, by kernel_rfl, by kernel_rfl, by kernel_rfl, by kernel_rfl, by kernel_rfl⟩
theorem cmk1ft (b : Int) : CmK b 1 false true := ⟨by kernel_rfl, by kernel_rfl, by kernel_rfl, by kernel_rfl, by kernel_rfl, by kernel_rfl⟩
theorem cmk1tf (b : Int) : CmK b 1 true false := ⟨by kernel_rfl, by kernel_rfl, by kernel_rfl, by kernel_rfl, by kernel_rfl, by kernel_rfl⟩
theorem cmk1tt (b : Int) : CmK b 1 true true := ⟨by kernel_rfl, by kernel_rfl, by kernel_rfl, by kernel_rfl, by kernel_rfl, by kernel_rfl⟩
theorem cmk2ff (b : Int) : CmK b 2 false false := ⟨by kernel_rfl, by kernel_rfl, by kernel_rfl, by kernel_rfl, by kernel_rfl, by kernel_rfl⟩
theorem cmk2ft (b : Int) : CmK b 2 false true := ⟨by kernel_rfl, by kernel_rfl, by kernel_rfl, by kernel_rfl, by kernel_rfl, by kernel_rfl⟩
theorem cmk2tf (b : Int) : CmK b 2 true false := ⟨by kernel_rfl, by kernel_rfl, by kernel_rfl, by kernel_rfl, by kernel_rfl, by kernel_rfl⟩
theorem cmk2tt (b : Int) : CmK b 2 true true := ⟨by kernel_rfl, by kernel_rfl, by kernel_rfl, by kernel_rfl, by kernel_rfl, by kernel_rfl⟩
theorem cmk3ff (b : Int) : CmK b 3 false false := ⟨by kernel_rfl, by kernel_rfl, by kernel_rfl, by kernel_rfl, by kernel_rfl, by kernel_rfl⟩
theorem cmk3ft (b : Int) : CmK b 3 false true := ⟨by kernel_rfl, by kernel_rfl, by kernel_rfl, by kernel_rfl, by kernel_rfl, by kernel_rfl⟩
theorem cmk3tf (b : Int) : CmK b 3 true false := ⟨by kernel_rfl, by kernel_rfl, by kernel_rfl, by kernel_rfl, by kernel_rfl, by kernel_rfl⟩
theorem cmk3tt (b : Int) : CmK b 3 true true := ⟨by kernel_rfl, by kernel_rfl, by kernel_rfl, by kernel_rfl, by kernel_rfl, by kernel_rfl⟩
theorem cmk4ff (b : Int) : CmK b 4 false false := ⟨by kernel_rfl, by kernel_rfl, by kernel_rfl, by kernel_rfl, by kernel_rfl, by kernel_rfl⟩
theorem cmk4ft (b : Int) : CmK b 4 false true := ⟨by kernel_rfl, by kernel_rfl, by kernel_rfl, by kernel_rfl, by kernel_rfl, by kernel_rfl⟩
theorem cmk4tf (b : Int) : CmK b 4 true false := ⟨by kernel_rfl, by kernel_rfl, by kernel_rfl, by kernel_rfl, by kernel_rfl, by kernel_rfl⟩
theorem cmk4tt (b : Int) : CmK b 4 true true := ⟨by kernel_rfl, by kernel_rfl, by kernel_rfl, by kernel_rfl, by kernel_rfl, by kernel_rfl⟩
theorem cmk (b : Int) {k : Nat} (h1 : 1 ≤ k) (h4 : k ≤ 4) (cm la : Bool) : CmK b k cm la := by
  have : k = 1 ∨ k = 2 ∨ k = 3 ∨ k = 4 := by omega
  rcases this with rfl | rfl | rfl | rfl <;> cases cm <;> cases la
  · exact cmk1ff b
  · exact cmk1ft b
  · exact cmk1tf b
  · exact cmk1tt b
  · exact cmk2ff b
  · exact cmk2ft b
  · exact cmk2tf b
  · exact cmk2tt b
  · exact cmk3ff b
  · exact cmk3ft b
  · exact cmk3tf b
  · exact cmk3tt b
  · exact cmk4ff b
  · exact cmk4ft b
  · exact cmk4tf b
  · exact cmk4tt b
theorem cm_f {b : Int} {k : Nat} {cm la : Bool} (hb : 1 ≤ b) (h : CmK b k cm la) : (nmOf 3 (cQ b k cm la)).f = if cm || la then b else 0 := by
  show fTo flH (cntF 3 (cQ b k cm la)) (cQ b k cm la) 3 = _
  have hP : pgsTo (cntF 3 (cQ b k cm la)) (cQ b k cm la) 3 = lc2 b k cm la := h.cnt
  refine fTo_fl (by split <;> omega) ?_ ?_
  · rw [hP]
    intro p hp _
    rcases mem_lc2.1 hp with rfl | ⟨j, hj, rfl⟩ | ⟨rfl, rfl⟩ | ⟨rfl, rfl⟩
    · show (0 : Int) ≤ _; split <;> omega
    · show (0 : Int) ≤ _; split <;> omega
    · show max (0 : Int) b ≤ b; omega
    · rw [Bool.or_true, if_pos rfl]; exact Int.le_refl b
  · rw [hP]
    cases la with
    | true =>
      rw [Bool.or_true, if_pos rfl]
      exact .inr ⟨_, mem_lc2.2 (.inr (.inr (.inr ⟨rfl, rfl⟩))), rfl, rfl⟩
    | false =>
      cases cm with
      | true => exact .inr ⟨_, mem_lc2.2 (.inr (.inr (.inl ⟨rfl, rfl⟩))), rfl, by show max (0 : Int) b = b; omega⟩
      | false => exact .inl rfl
theorem cm_b {b : Int} {k : Nat} {cm la : Bool} (hb : 1 ≤ b) (hk : 1 ≤ k) (h : CmK b k cm la) : (nmOf 3 (cQ b k cm la)).b = b := by
  show max (fTo (mxH Me.batch) allF (cQ b k cm la) 3) (nmOf 3 (cQ b k cm la)).f = b
  rw [cm_f hb h]
  have : fTo (mxH Me.batch) allF (cQ b k cm la) 3 = b := by
    refine fTo_max (by omega) ?_ ?_
    · rw [h.all]
      intro p hp _
      rcases mem_lc2.1 hp with rfl | ⟨j, hj, rfl⟩ | ⟨rfl, rfl⟩ | ⟨rfl, rfl⟩
      · show (0 : Int) ≤ b; omega
      · exact Int.le_refl b
      · exact Int.le_refl b
      · show (0 : Int) ≤ b; omega
    · rw [h.all]
      exact .inr ⟨_, mem_lc2.2 (.inr (.inl ⟨0, hk, rfl⟩)), rfl, rfl⟩
  rw [this]
  split <;> omega
theorem cm_alive {b f : Int} {w : Bool} (hb : 1 ≤ b) (hf : f = if w then b else 0) (m : Me) (hm : m.batch = b) : alive m f = w := by
  unfold alive
  rw [hm, decide_eq_false (by omega), Bool.false_or]
  cases w with
  | true => rw [hf, if_pos rfl]; exact decide_eq_true (Int.le_refl b)
  | false => rw [hf]; exact decide_eq_false (by show ¬ b ≤ 0; omega)
theorem cm_o {b : Int} {k : Nat} {cm la : Bool} (hb : 1 ≤ b) (h : CmK b k cm la) : (orfS 3 (cQ b k cm la)).length = if cm || la then 0 else k := by
  have hf := cm_f hb h
  show (orfL (nmOf 3 (cQ b k cm la)).f (cntP 3 (cQ b k cm la))).length = _
  rw [h.cnt]
  unfold orfL
  rw [List.length_map]
  cases hw : cm || la with
  | true =>
    rw [hw] at hf
    rw [if_pos rfl, List.length_eq_zero_iff, List.filter_eq_nil_iff]
    intro p hp e
    have e : orF (nmOf 3 (cQ b k cm la)).f p = true := e
    unfold orF at e
    have : alive p.me (nmOf 3 (cQ b k cm la)).f = true := by
      rcases mem_lc2.1 hp with rfl | ⟨j, hj, rfl⟩ | ⟨rfl, rfl⟩ | ⟨rfl, rfl⟩
      · rfl
      · exact cm_alive hb hf _ rfl
      · exact cm_alive hb hf _ rfl
      · rfl
    rw [this] at e
    exact absurd (and_r e) (by decide)
  | false =>
    rw [hw] at hf
    have hcm : cm = false ∧ la = false := by cases cm <;> cases la <;> first | exact ⟨rfl, rfl⟩ | cases hw
    obtain ⟨rfl, rfl⟩ := hcm
    have e : lc2 b k false false = lc b k := by unfold lc2 lc1; simp
    rw [e, if_neg Bool.false_ne_true]
    unfold lc
    rw [List.filter_cons_of_neg (by unfold orF; show ¬ (_ && !(true || _)) = true; simp), List.filter_eq_self.2, List.length_map, List.length_range]
    intro p hp
    obtain ⟨j, hj, rfl⟩ := List.mem_map.1 hp
    unfold orF
    rw [cm_alive hb hf (lcP b j).me rfl]; rfl
theorem cm_n {b : Int} {k : Nat} {cm la : Bool} (hb : 1 ≤ b) (h : CmK b k cm la) : ((sloS ⟨3, 8, 6⟩ 3 (cQ b k cm la)).filter fun s => decide (s.key < 6)).length = if cm || la then k else 0 := by
  have hf := cm_f hb h
  show ((sloL ⟨3, 8, 6⟩ (nmOf 3 (cQ b k cm la)).f (cntP 3 (cQ b k cm la)) (keyL ⟨3, 8, 6⟩ (cntP 3 (cQ b k cm la)))).filter fun s => decide (s.key < 6)).length = _
  rw [h.cnt]
  generalize hF : (nmOf 3 (cQ b k cm la)).f = f at hf
  unfold sloL
  rw [List.filter_map, List.length_map]
  have e1 : ((keyL ⟨3, 8, 6⟩ (lc2 b k cm la)).filter fun k' => winB f (grpL ⟨3, 8, 6⟩ (lc2 b k cm la) k')).filter ((fun s : Slot => decide (s.key < 6)) ∘ sloOf ⟨3, 8, 6⟩ f (lc2 b k cm la)) = (upTo k).filter fun k' => winB f (grpL ⟨3, 8, 6⟩ (lc2 b k cm la) k') := by
    rw [← h.key, List.filter_filter, List.filter_filter]
    refine List.filter_congr fun j _ => ?_
    show (decide (j < 6) && _) = (_ && decide (j < 6))
    rw [Bool.and_comm]
  rw [e1]
  have hj : ∀ j ∈ upTo k, winB f (grpL ⟨3, 8, 6⟩ (lc2 b k cm la) j) = (cm || la) := by
    intro j hj
    obtain ⟨hj0, hjk⟩ := mem_upTo.1 hj
    have hj6 : j < 6 := by
      have : j ∈ (keyL ⟨3, 8, 6⟩ (lc2 b k cm la)).filter (fun j => decide (j < 6)) := by rw [h.key]; exact hj
      exact of_decide_eq_true (List.mem_filter.1 this).2
    cases hw : cm || la with
    | true =>
      rw [hw] at hf
      rw [winB_iff]
      have hd := List.all_eq_true.1 h.dat j.toNat (List.mem_range.2 (by omega))
      refine ⟨lcP b j.toNat, mem_grpL.2 ⟨mem_lc2.2 (.inr (.inl ⟨j.toNat, by omega, rfl⟩)), and_l hd, ?_⟩, ?_⟩
      · rw [of_decide_eq_true (and_r hd)]; omega
      · unfold okP
        rw [cm_alive hb hf _ rfl]; rfl
    | false =>
      rw [hw] at hf
      refine Bool.eq_false_iff.2 fun e => ?_
      obtain ⟨p, hp, hk⟩ := winB_iff.1 e
      obtain ⟨hp, hky, hkj⟩ := mem_grpL.1 hp
      have hcm : cm = false ∧ la = false := by cases cm <;> cases la <;> first | exact ⟨rfl, rfl⟩ | cases hw
      obtain ⟨rfl, rfl⟩ := hcm
      rcases mem_lc2.1 hp with rfl | ⟨j', hj', rfl⟩ | ⟨h', _⟩ | ⟨h', _⟩
      · exact absurd hky (by decide +kernel)
      · unfold okP at hk
        rw [cm_alive hb hf _ rfl] at hk
        exact absurd (and_r hk) (by decide)
      · cases h'
      · cases h'
  cases hw : cm || la with
  | true =>
    rw [List.filter_eq_self.2 (fun j hj' => by rw [hj j hj', hw]), upTo_len, if_pos rfl]
  | false =>
    rw [List.filter_eq_nil_iff.2 (fun j hj' => by rw [hj j hj', hw]; exact Bool.false_ne_true), if_neg Bool.false_ne_true]; rfl
end Go.Vx
set_option maxRecDepth 100000
namespace Go.Vx
open Go Go.Proofs
variable [Gl]

theorem newer_iff {a b : Me} : newer a b = true ↔ b.seq < a.seq ∨ a.seq = b.seq ∧ a.stamp < b.stamp := by
  unfold newer
  simp only [Bool.or_eq_true, Bool.and_eq_true, decide_eq_true_eq]
theorem newer_no {a b : Me} : newer a b = false ↔ ¬ (b.seq < a.seq ∨ a.seq = b.seq ∧ a.stamp < b.stamp) := by
  rw [← newer_iff, Bool.not_eq_true]
theorem bst_mem : ∀ (L : List Pg) (o : Pg), bst o L = o ∨ bst o L ∈ L
  | [], o => .inl rfl
  | q :: r, o => by
    unfold bst
    rcases bst_mem r (if newer q.me o.me then q else o) with h | h
    · rw [h]
      split
      · exact .inr (List.mem_cons_self ..)
      · exact .inl rfl
    · exact .inr (List.mem_cons_of_mem _ h)
theorem bst_top : ∀ (L : List Pg) (o : Pg), newer o.me (bst o L).me = false ∧ ∀ p ∈ L, newer p.me (bst o L).me = false
  | [], o => ⟨newer_no.2 (by show ¬ (o.me.seq < o.me.seq ∨ o.me.seq = o.me.seq ∧ o.me.stamp < o.me.stamp); omega), fun p hp => by cases hp⟩
  | q :: r, o => by
    obtain ⟨h1, h2⟩ := bst_top r (if newer q.me o.me then q else o)
    have e : bst o (q :: r) = bst (if newer q.me o.me then q else o) r := by rw [bst]
    rw [e]
    generalize bst (if newer q.me o.me then q else o) r = B at h1 h2
    cases hn : newer q.me o.me with
    | true =>
      rw [hn, if_pos rfl] at h1
      have h3 := newer_iff.1 hn
      have h4 := newer_no.1 h1
      refine ⟨newer_no.2 (by omega), fun p hp => ?_⟩
      rcases List.mem_cons.1 hp with rfl | hp
      · exact h1
      · exact h2 p hp
    | false =>
      rw [hn, if_neg Bool.false_ne_true] at h1
      have h3 := newer_no.1 hn
      have h4 := newer_no.1 h1
      refine ⟨h1, fun p hp => ?_⟩
      rcases List.mem_cons.1 hp with rfl | hp
      · exact newer_no.2 (by omega)
      · exact h2 p hp
theorem mem_winL {f : Int} {L : List Pg} {p : Pg} : p ∈ winL f L ↔ p ∈ L ∧ okP f p = true := by unfold winL; exact List.mem_filter
theorem winP_best {f : Int} {L : List Pg} (h : winB f L = true) : winP f L = bestL (winL f L) := by
  unfold winB at h
  have h := of_decide_eq_true h
  unfold winP
  rw [if_neg (by omega)]
theorem bestL_mem {L : List Pg} (h : 0 < L.length) : bestL L ∈ L := by
  match L, h with
  | q :: r, _ =>
    unfold bestL
    show bst q r ∈ q :: r
    rcases bst_mem r q with h | h
    · rw [h]; exact List.mem_cons_self ..
    · exact List.mem_cons_of_mem _ h
theorem bestL_top {L : List Pg} {p : Pg} (hp : p ∈ L) : newer p.me (bestL L).me = false := by
  match L, hp with
  | q :: r, hp =>
    unfold bestL
    show newer p.me (bst q r).me = false
    rcases List.mem_cons.1 hp with rfl | hp
    · exact (bst_top r p).1
    · exact (bst_top r q).2 p hp
theorem winP_mem {f : Int} {L : List Pg} (h : winB f L = true) : winP f L ∈ L ∧ okP f (winP f L) = true := by
  rw [winP_best h]
  unfold winB at h
  exact mem_winL.1 (bestL_mem (of_decide_eq_true h))
theorem winP_top {f : Int} {L : List Pg} (h : winB f L = true) {p : Pg} (hp : p ∈ L) (ho : okP f p = true) : newer p.me (winP f L).me = false := by
  rw [winP_best h]
  exact bestL_top (mem_winL.2 ⟨hp, ho⟩)
theorem mem_sloL {g : Geo} {f : Int} {P : List Pg} {K : List Int} {s : Slot} : s ∈ sloL g f P K ↔ ∃ k ∈ K, winB f (grpL g P k) = true ∧ s = sloOf g f P k := by
  unfold sloL
  rw [List.mem_map]
  constructor
  · rintro ⟨k, h, rfl⟩
    exact ⟨k, (List.mem_filter.1 h).1, (List.mem_filter.1 h).2, rfl⟩
  · rintro ⟨k, h1, h2, rfl⟩
    exact ⟨k, List.mem_filter.2 ⟨h1, h2⟩, rfl⟩
theorem mem_sloS {g : Geo} {n : Nat} {Q : List (List Pg)} {s : Slot} : s ∈ sloS g n Q ↔ ∃ k ∈ keyL g (cntP n Q), winB (nmOf n Q).f (grpL g (cntP n Q) k) = true ∧ s = sloOf g (nmOf n Q).f (cntP n Q) k := mem_sloL
/-- A slot's page: one that counts, whole, alive, with that key; none such is newer. -/
theorem slot_page {g : Geo} {n : Nat} {Q : List (List Pg)} {s : Slot} (h : s ∈ sloS g n Q) : ∃ p ∈ cntP n Q, p.pl = s.pl ∧ p.me = s.me ∧ kyF g p = true ∧ gKey g p = s.key ∧ okP (nmOf n Q).f p = true ∧
    ∀ q ∈ cntP n Q, kyF g q = true → gKey g q = s.key → okP (nmOf n Q).f q = true → newer q.me s.me = false := by
  obtain ⟨k, _, hw, rfl⟩ := mem_sloS.1 h
  obtain ⟨h1, h2⟩ := winP_mem hw
  obtain ⟨h3, h4, h5⟩ := mem_grpL.1 h1
  exact ⟨_, h3, rfl, rfl, h4, h5, h2, fun q hq h6 h7 h8 => winP_top hw (mem_grpL.2 ⟨hq, h6, h7⟩) h8⟩
theorem pgsTo_congr {f f' : Nat → List Pg → Bool} {Q Q' : List (List Pg)} : ∀ {n : Nat}, (∀ i, i < n → (if f i (rw Q i) then rw Q i else []) = (if f' i (rw Q' i) then rw Q' i else [])) → pgsTo f Q n = pgsTo f' Q' n
  | 0, _ => rfl
  | n + 1, h => by
    rw [pgsTo, pgsTo, pgsTo_congr (n := n) (fun i hi => h i (by omega)), h n (by omega)]
/-- Where one block does not begin with its head, and the others are the same, it is one scan. -/
theorem badTo_drop {n b : Nat} {Q Q' : List (List Pg)} (hb : isHd (b : Int) (rw Q b) = false) (hb' : isHd (b : Int) (rw Q' b) = false) (h : ∀ i, i < n → i ≠ b → rw Q i = rw Q' i) : badTo n Q n = badTo n Q' n := by
  have : pgsTo hdF Q n = pgsTo hdF Q' n := pgsTo_congr fun i hi => by
    by_cases e : i = b
    · subst e
      show (if isHd (i : Int) (rw Q i) then _ else _) = (if isHd (i : Int) (rw Q' i) then _ else _)
      rw [hb, hb', if_neg Bool.false_ne_true, if_neg Bool.false_ne_true]
    · rw [h i hi e]
  unfold badTo
  rw [this]
theorem cntP_drop {n b : Nat} {Q Q' : List (List Pg)} (hb : isHd (b : Int) (rw Q b) = false) (hb' : isHd (b : Int) (rw Q' b) = false) (h : ∀ i, i < n → i ≠ b → rw Q i = rw Q' i) : cntP n Q = cntP n Q' := by
  have e := badTo_drop hb hb' h
  refine pgsTo_congr fun i hi => ?_
  by_cases ei : i = b
  · subst ei
    show (if (isHd (i : Int) (rw Q i) && _) then _ else _) = (if (isHd (i : Int) (rw Q' i) && _) then _ else _)
    rw [hb, hb', Bool.false_and, Bool.false_and, if_neg Bool.false_ne_true, if_neg Bool.false_ne_true]
  · show (if (isHd (i : Int) (rw Q i) && !decide ((i : Int) ∈ badTo n Q n)) then _ else _) = (if (isHd (i : Int) (rw Q' i) && !decide ((i : Int) ∈ badTo n Q' n)) then _ else _)
    rw [h i hi ei, e]
theorem floor_cnt {n : Nat} {Q : List (List Pg)} : (nmOf n Q).f = ((cntP n Q).filter fun p => decide (p.cl = 1)).foldl flH 0 := by
  show fTo flH (cntF n Q) Q n = _
  unfold fTo
  rfl
theorem floor_drop {n : Nat} {Q Q' : List (List Pg)} (h : cntP n Q = cntP n Q') : (nmOf n Q).f = (nmOf n Q').f := by rw [floor_cnt, floor_cnt, h]
theorem sloS_drop {g : Geo} {n : Nat} {Q Q' : List (List Pg)} (h : cntP n Q = cntP n Q') : sloS g n Q = sloS g n Q' := by
  unfold sloS
  rw [floor_drop h, h]
theorem badL_drop {n : Nat} {Q Q' : List (List Pg)} (h : badTo n Q n = badTo n Q' n) : badL n Q = badL n Q' := by
  unfold badL
  rw [h]
theorem mem_cntP {n : Nat} {Q : List (List Pg)} {p : Pg} : p ∈ cntP n Q ↔ ∃ i, i < n ∧ isHd (i : Int) (rw Q i) = true ∧ (i : Int) ∉ badTo n Q n ∧ p ∈ rw Q i := by
  unfold cntP
  rw [mem_pgsTo]
  constructor
  · rintro ⟨i, h1, h2, h3⟩
    have h2 : (isHd (i : Int) (rw Q i) && !decide ((i : Int) ∈ badTo n Q n)) = true := h2
    exact ⟨i, h1, and_l h2, of_decide_eq_false (not_t (and_r h2)), h3⟩
  · rintro ⟨i, h1, h2, h3, h4⟩
    exact ⟨i, h1, by show (_ && !_) = true; rw [h2, decide_eq_false h3]; rfl, h4⟩
end Go.Vx
set_option maxRecDepth 100000
namespace Go.Vx
open Go Go.Proofs
variable [Gl]

theorem plLt_trans {a b c : Pl} (h1 : plLt a b) (h2 : plLt b c) : plLt a c := by unfold plLt at *; omega
theorem plLt_irr {a : Pl} (h : plLt a a) : False := by unfold plLt at h; omega
/-- A page that may be. -/
structure InP (bs ps : Int) (x : Pg) : Prop where
  b : 0 ≤ x.pl.1 ∧ x.pl.1 < bs
  p : 0 ≤ x.pl.2 ∧ x.pl.2 < ps
  c : 1 ≤ x.cl ∧ x.cl ≤ 3
/-- A list that may be scanned, where nothing is skipped. -/
structure Okl (bs ps : Int) (L : List Pg) : Prop where
  mem : ∀ p ∈ L, InP bs ps p
  ord : L.Pairwise fun p q => plLt p.pl q.pl
theorem anyF_nil {α : Type} {f : α → Bool} : anyF f [] = false := by unfold anyF; rfl
theorem getD_ix {α : Type} {l : List α} {i : Nat} {d : α} (h : i < l.length) : l.getD i d = l[i] := by
  rw [List.getD_eq_getElem?_getD, List.getElem?_eq_getElem h]; rfl
theorem okl_iff {bs ps : Int} {L : List Pg} : (∀ j, j < L.length → pgBad bs ps [] L j = false) ↔ Okl bs ps L := by
  constructor
  · intro h
    have hlt : ∀ j, j < L.length → ∀ i, i < j → plLt (L.getD i pg0).pl (L.getD j pg0).pl := by
      intro j
      induction j with
      | zero => intro _ i hi; exact absurd hi (Nat.not_lt_zero i)
      | succ j ih =>
        intro hj i hi
        have h1 : plLt (L.getD j pg0).pl (L.getD (j + 1) pg0).pl := (pgBad_no (h (j + 1) hj)).2.2.2.2.1 (Nat.succ_pos j)
        by_cases e : i = j
        · rw [e]; exact h1
        · exact plLt_trans (ih (by omega) i (by omega)) h1
    refine ⟨fun p hp => ?_, List.pairwise_iff_getElem.2 fun i j hi hj hij => ?_⟩
    · obtain ⟨i, hi, rfl⟩ := List.getElem_of_mem hp
      have := pgBad_no (h i hi)
      rw [getD_ix hi] at this
      exact ⟨⟨this.1, this.2.1⟩, ⟨this.2.2.1, this.2.2.2.1⟩, this.2.2.2.2.2.2⟩
    · have := hlt j hj i hij
      rwa [getD_ix hi, getD_ix hj] at this
  · intro h j hj
    have h1 := h.mem _ (getD_mem (d := pg0) hj)
    have h2 : 0 < j → plLt (L.getD (j - 1) pg0).pl (L.getD j pg0).pl := by
      intro h0
      rw [getD_ix (by omega), getD_ix hj]
      exact List.pairwise_iff_getElem.1 h.ord (j - 1) j (by omega) hj (by omega)
    unfold pgBad
    rw [anyF_nil]
    simp only [Bool.or_eq_false_iff, Bool.not_eq_false', Bool.and_eq_true, decide_eq_true_eq, decide_eq_false_iff_not, Bool.and_eq_false_iff, and_true]
    refine ⟨⟨⟨⟨⟨⟨h1.b.1, h1.b.2⟩, h1.p.1⟩, h1.p.2⟩, ?_⟩, ?_⟩, ?_⟩
    · by_cases h0 : 0 < j
      · have := plc_lt.2 (h2 h0)
        exact .inr (by omega)
      · exact .inl (by omega)
    · have := h1.c; omega
    · have := h1.c; omega
theorem Okl.filter {bs ps : Int} {L : List Pg} (h : Okl bs ps L) (f : Pg → Bool) : Okl bs ps (L.filter f) :=
  ⟨fun p hp => h.mem p (List.mem_filter.1 hp).1, List.Pairwise.filter f h.ord⟩
/-- No two pages at one place. -/
theorem Okl.one {bs ps : Int} {L : List Pg} (h : Okl bs ps L) {p q : Pg} (hp : p ∈ L) (hq : q ∈ L) (e : p.pl = q.pl) : p = q := by
  obtain ⟨i, hi, rfl⟩ := List.getElem_of_mem hp
  obtain ⟨j, hj, rfl⟩ := List.getElem_of_mem hq
  have ho := List.pairwise_iff_getElem.1 h.ord
  rcases Nat.lt_trichotomy i j with h1 | h1 | h1
  · have := ho i j hi hj h1
    rw [e] at this
    exact (plLt_irr this).elim
  · subst h1; rfl
  · have := ho j i hj hi h1
    rw [e] at this
    exact (plLt_irr this).elim
/-- The head of a block, az the document looks for it, and az the program does. -/
def HdAt (L : List Pg) (b : Int) : Prop := ∃ p ∈ L, p.pl = (b, 0) ∧ p.cl = 1 ∧ p.me.kind = 1 ∧ p.me.key = b
theorem fstP_iff {b : Int} {p : Pg} : fstP b p = true ↔ p.pl = (b, 0) := by
  unfold fstP
  rw [Bool.and_eq_true, decide_eq_true_eq, decide_eq_true_eq]
  exact ⟨fun h => Prod.ext h.1 h.2, fun h => ⟨by rw [h], by rw [h]⟩⟩
theorem headB_iff {bs ps : Int} {L : List Pg} (h : Okl bs ps L) {b : Int} : headB L b = true ↔ HdAt L b := by
  unfold headB
  cases hf : L.find? (fstP b) with
  | none =>
    refine ⟨fun h => (by cases h), fun ⟨p, hp, h1, _⟩ => ?_⟩
    have := List.find?_eq_none.1 hf p hp
    exact absurd (fstP_iff.2 h1) this
  | some q =>
    have hq := List.mem_of_find?_eq_some hf
    have hq1 : q.pl = (b, 0) := fstP_iff.1 (List.find?_some hf)
    show hdQ b q = true ↔ _
    unfold hdQ
    simp only [Bool.and_eq_true, decide_eq_true_eq]
    constructor
    · rintro ⟨⟨h1, h2⟩, h3⟩
      exact ⟨q, hq, hq1, h1, h2, h3⟩
    · rintro ⟨p, hp, h1, h2, h3, h4⟩
      have : p = q := h.one hp hq (h1.trans hq1.symm)
      subst this
      exact ⟨⟨h2, h3⟩, h4⟩
theorem isHd_iff {bs ps : Int} {L : List Pg} (h : Okl bs ps L) {b : Nat} : isHd (b : Int) (blkL L b) = true ↔ HdAt L (b : Int) := by
  unfold isHd
  rw [Bool.and_eq_true, decide_eq_true_eq]
  constructor
  · rintro ⟨h1, h2⟩
    have hm : (blkL L b).getD 0 pg0 ∈ blkL L b := getD_mem (by omega)
    obtain ⟨h3, h4, _⟩ := mem_blkL.1 hm
    unfold hdP at h2
    simp only [Bool.and_eq_true, decide_eq_true_eq] at h2
    exact ⟨_, h3, Prod.ext h4 h2.1.1.1, h2.1.1.2, h2.1.2, h2.2⟩
  · rintro ⟨p, hp, h1, h2, h3, h4⟩
    have hm : p ∈ blkL L b := mem_blkL.2 ⟨hp, by rw [h1], by omega⟩
    have h0 := List.length_pos_of_mem hm
    refine ⟨by omega, ?_⟩
    have hq : (blkL L b).getD 0 pg0 ∈ blkL L b := getD_mem h0
    obtain ⟨q1, q2, q3⟩ := mem_blkL.1 hq
    have hqp : (blkL L b).getD 0 pg0 = p := by
      obtain ⟨i, hi, he⟩ := List.getElem_of_mem hm
      have ho : (blkL L b).Pairwise fun p q => plLt p.pl q.pl := by unfold blkL; exact List.Pairwise.filter _ h.ord
      rcases Nat.eq_zero_or_pos i with rfl | hi0
      · rw [getD_ix h0, he]
      · have := List.pairwise_iff_getElem.1 ho 0 i h0 hi hi0
        rw [he, ← getD_ix (d := pg0) h0] at this
        have hr := (h.mem _ q1).p
        unfold plLt at this
        rw [h1] at this
        have h5 : p.pl.2 = 0 := by rw [h1]
        simp only at this
        omega
    rw [hqp]
    unfold hdP
    simp only [Bool.and_eq_true, decide_eq_true_eq]
    exact ⟨⟨⟨by rw [h1], h2⟩, h3⟩, h4⟩
theorem badL_len {n : Nat} {Q : List (List Pg)} : (badL n Q).length ≤ n := by
  unfold badL
  exact Nat.le_trans (List.length_filter_le _ _) (by rw [upTo_len]; exact Nat.le_refl n)
/-- The first page of a block is told another record. -/
def updP (b : Int) (m : Me) (p : Pg) : Pg := if fstP b p then { p with me := m } else p
theorem updP_pl {b : Int} {m : Me} {p : Pg} : (updP b m p).pl = p.pl := by
  unfold updP
  split <;> rfl
theorem updP_me {b : Int} {m : Me} {p : Pg} (h : fstP b p = true) : (updP b m p).me = m := by
  unfold updP
  rw [if_pos h]
theorem heads_no {b : Int} {m : Me} {L : List Pg} (hm : ∀ j, j < L.length → fstP b (L.getD j pg0) = true → ¬ (m.kind = 1 ∧ m.key = b)) : ¬ HdAt (L.map (updP b m)) b := by
  rintro ⟨p, hp, h1, _, h3, h4⟩
  obtain ⟨q, hq, rfl⟩ := List.mem_map.1 hp
  obtain ⟨j, hj, rfl⟩ := List.getElem_of_mem hq
  rw [updP_pl] at h1
  have hf := fstP_iff.2 h1
  rw [updP_me hf] at h3 h4
  exact hm j hj (by rw [getD_ix hj]; exact hf) ⟨h3, h4⟩
/-- Without a block that has no head. -/
structure Drops (b : Nat) (X Y : List Pg) : Prop where
  cnt : cntP 8 (gridL 8 X) = cntP 8 (gridL 8 Y)
  bad : badTo 8 (gridL 8 X) 8 = badTo 8 (gridL 8 Y) 8
  slo : ∀ s ∈ sloS ⟨8, 8, 16⟩ 8 (gridL 8 X), s.pl.1 ≠ (b : Int)
theorem drops_of {b : Nat} (hb : b < 8) {X : List Pg} (h : Okl 8 8 X) (hn : ¬ HdAt X (b : Int)) : Drops b X (X.filter fun p => decide (p.pl.1 ≠ (b : Int))) := by
  have hY := h.filter fun p => decide (p.pl.1 ≠ (b : Int))
  have e1 : isHd (b : Int) (rw (gridL 8 X) b) = false := by
    rw [gridL_at hb]
    exact Bool.eq_false_iff.2 fun e => hn ((isHd_iff h).1 e)
  have e2 : isHd (b : Int) (rw (gridL 8 (X.filter fun p => decide (p.pl.1 ≠ (b : Int)))) b) = false := by
    rw [gridL_at hb]
    refine Bool.eq_false_iff.2 fun e => ?_
    obtain ⟨p, hp, h1, _⟩ := (isHd_iff hY).1 e
    have := of_decide_eq_true (List.mem_filter.1 hp).2
    exact this (by rw [h1])
  have e3 : ∀ i, i < 8 → i ≠ b → rw (gridL 8 X) i = rw (gridL 8 (X.filter fun p => decide (p.pl.1 ≠ (b : Int)))) i := by
    intro i hi hib
    rw [gridL_at hi, gridL_at hi]
    unfold blkL
    rw [List.filter_filter]
    refine List.filter_congr fun p _ => ?_
    by_cases hp : p.pl.1 = (i : Int)
    · rw [show decide (p.pl.1 ≠ (b : Int)) = true from decide_eq_true (by omega), Bool.and_true]
    · unfold isB
      rw [decide_eq_false hp]; rfl
  refine ⟨cntP_drop e1 e2 e3, badTo_drop e1 e2 e3, fun s hs e => ?_⟩
  obtain ⟨p, hp, h1, _⟩ := slot_page hs
  obtain ⟨i, hi, h2, _, h4⟩ := mem_cntP.1 hp
  rw [gridL_at hi] at h4
  have h5 := (mem_blkL.1 h4).2.1
  rw [h1, e] at h5
  have : b = i := by omega
  subst this
  rw [e1] at h2; cases h2
end Go.Vx
set_option maxRecDepth 100000
namespace Go.Vx
open Go Go.Proofs
variable [Gl]

theorem plain0 : Plain C0 (Gl.A 0) := ⟨0, Gl.c 0, Gl.t 0, List.mem_singleton.2 rfl⟩
theorem anyF_mem {x : Int} {A : List Int} : anyF (eqI x) A = true ↔ x ∈ A := by
  rw [anyF_iff]
  constructor
  · rintro ⟨y, hy, h⟩
    have : x = y := of_decide_eq_true h
    rw [this]; exact hy
  · intro h
    exact ⟨x, h, decide_eq_true rfl⟩
theorem rkey_key {bs ps ss : Int} {m : Me} {k : Int} (h : rkey bs ps ss m = k) (h0 : 0 ≤ k) : keyH bs ps ss m = true ∧ keyV bs ps ss m = k := by
  unfold rkey at h
  cases hk : keyH bs ps ss m with
  | true =>
    rw [hk, if_pos rfl] at h
    exact ⟨rfl, h⟩
  | false =>
    rw [hk, if_neg Bool.false_ne_true] at h
    omega
theorem rkey_of {bs ps ss : Int} {m : Me} (h : keyH bs ps ss m = true) : rkey bs ps ss m = keyV bs ps ss m := by
  unfold rkey
  rw [if_pos h]
section
variable {g : Geo} {L : List Pg} {p : Pg}
theorem cnt_of (hg : 0 ≤ g.bs) (h : Okl g.bs g.ps L) (hp : p ∈ L) (hc : p.cl ≠ 2) (h1 : headB L p.pl.1 = true) (h2 : anyF (eqI p.pl.1) (badL g.bs.toNat (gridL g.bs.toNat L)) = false) : p ∈ cntP g.bs.toNat (gridL g.bs.toNat L) := by
  have hr := (h.mem p hp).b
  have hi : p.pl.1.toNat < g.bs.toNat := by omega
  have e : ((p.pl.1.toNat : Nat) : Int) = p.pl.1 := Int.toNat_of_nonneg hr.1
  refine mem_cntP.2 ⟨p.pl.1.toNat, hi, ?_, ?_, ?_⟩
  · rw [gridL_at hi, isHd_iff h, e]
    exact (headB_iff h).1 h1
  · rw [e]
    intro hb
    rw [anyF_mem.2 (mem_badL.2 hb)] at h2
    cases h2
  · rw [gridL_at hi]
    exact mem_blkL.2 ⟨hp, e.symm, hc⟩
theorem cnt_to (h : Okl g.bs g.ps L) (hp : p ∈ cntP g.bs.toNat (gridL g.bs.toNat L)) : p ∈ L ∧ headB L p.pl.1 = true ∧ anyF (eqI p.pl.1) (badL g.bs.toNat (gridL g.bs.toNat L)) = false := by
  obtain ⟨i, hi, h1, h2, h3⟩ := mem_cntP.1 hp
  rw [gridL_at hi] at h1 h3
  obtain ⟨h4, h5, _⟩ := mem_blkL.1 h3
  refine ⟨h4, ?_, ?_⟩
  · rw [headB_iff h, h5]
    exact (isHd_iff h).1 h1
  · refine Bool.eq_false_iff.2 fun e => ?_
    rw [anyF_mem, mem_badL, h5] at e
    exact h2 e
end
/-- The page that a slot tells of. -/
structure PgOf (g : Geo) (L : List Pg) (s : Slot) (p : Pg) : Prop where
  mem : p ∈ L
  pl : p.pl = s.pl
  me : p.me = s.me
  cl : p.cl = 1
  key : rkey g.bs g.ps g.ss p.me = s.key
  hd : headB L p.pl.1 = true
  bad : anyF (eqI p.pl.1) (badL g.bs.toNat (gridL g.bs.toNat L)) = false
  ali : alive p.me (nmOf g.bs.toNat (gridL g.bs.toNat L)).f = true
theorem pgOf {g : Geo} {L : List Pg} (h : Okl g.bs g.ps L) {s : Slot} (hs : s ∈ sloS g g.bs.toNat (gridL g.bs.toNat L)) : ∃ p, PgOf g L s p := by
  obtain ⟨p, hp, h1, h2, h3, h4, h5, _⟩ := slot_page hs
  obtain ⟨h6, h7, h8⟩ := cnt_to h hp
  have hk := and_l h3
  exact ⟨p, h6, h1, h2, of_decide_eq_true (and_r h3), by rw [rkey_of hk]; exact h4, h7, h8, and_r h5⟩
theorem slot_key {g : Geo} (hg : g.ok) {n : Nat} {Q : List (List Pg)} {s : Slot} (hs : s ∈ sloS g n Q) : 0 ≤ s.key := by
  obtain ⟨p, hp, h1, h2, h3, h4, h5, _⟩ := slot_page hs
  have := keyV_range hg (and_l h3)
  rw [h4] at this
  exact this.1
/-- No page is newer than what a slot tells. -/
theorem no_newer {g : Geo} (hg : g.ok) {L : List Pg} (h : Okl g.bs g.ps L) {s : Slot} (hs : s ∈ sloS g g.bs.toNat (gridL g.bs.toNat L)) {p : Pg} (hp : p ∈ L) (hc : p.cl = 1) (hk : rkey g.bs g.ps g.ss p.me = s.key)
    (h1 : headB L p.pl.1 = true) (h2 : anyF (eqI p.pl.1) (badL g.bs.toNat (gridL g.bs.toNat L)) = false) (h3 : alive p.me (nmOf g.bs.toNat (gridL g.bs.toNat L)).f = true) : newer p.me s.me = false := by
  have hk0 := slot_key hg hs
  obtain ⟨_, _, _, _, _, _, _, hall⟩ := slot_page hs
  obtain ⟨h4, h5⟩ := rkey_key hk hk0
  exact hall p (cnt_of hg.bs.1 h hp (by omega) h1 h2) (by unfold kyF; rw [h4, decide_eq_true hc]; rfl) h5 (by unfold okP; rw [h3, decide_eq_true hc]; rfl)
theorem rise_slots {g : Geo} {n : Nat} {Q : List (List Pg)} : (sloS g n Q).Pairwise fun a b => a.key < b.key := by
  unfold sloS sloL
  rw [List.pairwise_map]
  exact List.Pairwise.filter _ (rise_keyL (g := g) (P := cntP n Q))
theorem rise_at {g : Geo} {n : Nat} {Q : List (List Pg)} {i : Nat} (h0 : 0 < i) (h : i < (sloS g n Q).length) : ((sloS g n Q).getD (i - 1) slot0).key < ((sloS g n Q).getD i slot0).key := by
  rw [getD_ix (by omega), getD_ix h]
  exact List.pairwise_iff_getElem.1 rise_slots (i - 1) i (by omega) h (by omega)
theorem fre_no {sk : List Int} {n : Nat} {L : List Pg} {x : Int} (hx : x ∈ freS sk n (gridL n L)) {p : Pg} (hp : p ∈ L) (h1 : p.pl.1 = x) (h2 : p.cl ≠ 2) : False := by
  obtain ⟨j, hj, hf, rfl⟩ := mem_numL.1 hx
  have := of_decide_eq_true (and_r hf)
  rw [gridL_at hj] at this
  have := List.length_pos_of_mem (mem_blkL.2 ⟨hp, h1, h2⟩)
  omega
theorem fre_bad {sk : List Int} {n : Nat} {Q : List (List Pg)} {x : Int} (hx : x ∈ freS sk n Q) : x ∉ badL n Q := by
  obtain ⟨j, hj, hf, rfl⟩ := mem_numL.1 hx
  have := not_t (and_l hf)
  intro hb
  unfold outB at this
  rw [decide_eq_true (mem_badL.1 hb), Bool.or_true] at this
  cases this
theorem dir_bad {g : Geo} {sk : List Int} {n : Nat} {Q : List (List Pg)} {x : Int} (hx : x ∈ dirS g sk n Q) : x ∉ badL n Q := by
  obtain ⟨j, hj, hf, rfl⟩ := mem_numL.1 hx
  have := not_t (and_l (and_l hf))
  intro hb
  unfold outB at this
  rw [decide_eq_true (mem_badL.1 hb), Bool.or_true] at this
  cases this
theorem fre_dir {g : Geo} {sk : List Int} {n : Nat} {Q : List (List Pg)} {x : Int} (hx : x ∈ freS sk n Q) : x ∉ dirS g sk n Q := by
  obtain ⟨j, hj, hf, rfl⟩ := mem_numL.1 hx
  intro hd
  obtain ⟨j', hj', hd, e⟩ := mem_numL.1 hd
  have e : j = j' := Int.ofNat.inj e
  subst e
  have h1 := of_decide_eq_true (and_r hf)
  have h2 := not_t (and_r (and_l hd))
  exact of_decide_eq_false h2 h1
theorem numL_len' {p : Nat → Bool} {n : Nat} : (numL p n).length ≤ n := numL_len
end Go.Vx
set_option maxRecDepth 100000
namespace Go.Vx
open Go Go.Proofs
variable [Gl]

theorem newer_tr {a b c : Me} (h1 : newer a b = true) (h2 : newer b c = true) : newer a c = true := by
  have h1 := newer_iff.1 h1
  have h2 := newer_iff.1 h2
  exact newer_iff.2 (by omega)
/-- Where the newest one stands: it is newer than all ahead of it, and none behind it is newer. -/
theorem bst_split : ∀ (L : List Pg) (o : Pg), ∃ A B, o :: L = A ++ bst o L :: B ∧ (∀ p ∈ A, newer (bst o L).me p.me = true) ∧ ∀ p ∈ B, newer p.me (bst o L).me = false
  | [], o => ⟨[], [], rfl, fun p hp => (by cases hp), fun p hp => (by cases hp)⟩
  | q :: r, o => by
    rw [bst]
    cases hn : newer q.me o.me with
    | true =>
      rw [if_pos rfl]
      obtain ⟨A, B, h1, h2, h3⟩ := bst_split r q
      refine ⟨o :: A, B, by rw [h1]; rfl, fun p hp => ?_, h3⟩
      rcases List.mem_cons.1 hp with rfl | hp
      · cases A with
        | nil =>
          have : q = bst q r := (List.cons.inj h1).1
          rw [← this]; exact hn
        | cons a A' =>
          have : q = a := (List.cons.inj h1).1
          subst this
          exact newer_tr (h2 q (List.mem_cons_self ..)) hn
      · exact h2 p hp
    | false =>
      rw [if_neg Bool.false_ne_true]
      obtain ⟨A, B, h1, h2, h3⟩ := bst_split r o
      have hq : newer o.me q.me = true ∨ newer o.me q.me = false := by cases newer o.me q.me <;> simp
      cases A with
      | nil =>
        have e1 : o = bst o r := (List.cons.inj h1).1
        have e2 : r = B := (List.cons.inj h1).2
        refine ⟨[], q :: B, by rw [← e1, e2]; rfl, fun p hp => (by cases hp), fun p hp => ?_⟩
        rcases List.mem_cons.1 hp with rfl | hp
        · rw [← e1]; exact hn
        · exact h3 p hp
      | cons a A' =>
        have e1 : o = a := (List.cons.inj h1).1
        have e2 : r = A' ++ bst o r :: B := (List.cons.inj h1).2
        subst e1
        refine ⟨o :: q :: A', B, ?_, fun p hp => ?_, h3⟩
        · show o :: q :: r = o :: q :: (A' ++ bst o r :: B)
          rw [← e2]
        · rcases List.mem_cons.1 hp with rfl | hp
          · exact h2 p (List.mem_cons_self ..)
          · rcases List.mem_cons.1 hp with rfl | hp
            · have h4 := newer_iff.1 (h2 o (List.mem_cons_self ..))
              have h5 := newer_no.1 hn
              exact newer_iff.2 (by omega)
            · exact h2 p (List.mem_cons_of_mem _ hp)
theorem bst_stay : ∀ (L : List Pg) (o : Pg), (∀ p ∈ L, newer p.me o.me = false) → bst o L = o
  | [], _, _ => rfl
  | q :: r, o, h => by
    rw [bst, h q (List.mem_cons_self ..), if_neg Bool.false_ne_true]
    exact bst_stay r o fun p hp => h p (List.mem_cons_of_mem _ hp)
theorem bestL_at {A B : List Pg} {x : Pg} (h1 : ∀ p ∈ A, newer x.me p.me = true) (h2 : ∀ p ∈ B, newer p.me x.me = false) : bestL (A ++ x :: B) = x := by
  cases A with
  | nil =>
    unfold bestL
    exact bst_stay B x h2
  | cons a A' =>
    unfold bestL
    show bst a (A' ++ x :: B) = x
    rw [bst_app]
    have h3 : newer x.me (bst a A').me = true := by
      rcases bst_mem A' a with h | h
      · rw [h]; exact h1 a (List.mem_cons_self ..)
      · exact h1 _ (List.mem_cons_of_mem _ h)
    rw [bst, h3, if_pos rfl]
    exact bst_stay B x h2
theorem bestL_split {L : List Pg} (h : 0 < L.length) : ∃ A B, L = A ++ bestL L :: B ∧ (∀ p ∈ A, newer (bestL L).me p.me = true) ∧ ∀ p ∈ B, newer p.me (bestL L).me = false := by
  match L, h with
  | o :: r, _ =>
    have e : bestL (o :: r) = bst o r := by unfold bestL; rfl
    rw [e]
    exact bst_split r o
/-- An older page changes nothing of the newest one. -/
theorem bestL_ins {U V : List Pg} {q : Pg} (h : 0 < (U ++ V).length) (hq : newer (bestL (U ++ V)).me q.me = true) : bestL (U ++ q :: V) = bestL (U ++ V) := by
  obtain ⟨A, B, h1, h2, h3⟩ := bestL_split h
  generalize bestL (U ++ V) = x at *
  have hqx : newer q.me x.me = false := by
    have := newer_iff.1 hq
    exact newer_no.2 (by omega)
  rcases List.append_eq_append_iff.1 h1 with ⟨A2, e1, e2⟩ | ⟨B1, e1, e2⟩
  · -- A = U ++ A2, V = A2 ++ x :: B
    rw [e2, show U ++ q :: (A2 ++ x :: B) = (U ++ q :: A2) ++ x :: B by simp]
    refine bestL_at (fun p hp => ?_) h3
    rcases List.mem_append.1 hp with hp | hp
    · exact h2 p (by rw [e1]; exact List.mem_append_left _ hp)
    · rcases List.mem_cons.1 hp with rfl | hp
      · exact hq
      · exact h2 p (by rw [e1]; exact List.mem_append_right _ hp)
  · -- U = A ++ B1, x :: B = B1 ++ V
    cases B1 with
    | nil =>
      have e2 : x :: B = V := e2
      rw [← e2, e1, List.append_nil, show A ++ q :: x :: B = (A ++ [q]) ++ x :: B by simp]
      refine bestL_at (fun p hp => ?_) h3
      rcases List.mem_append.1 hp with hp | hp
      · exact h2 p hp
      · rw [List.mem_singleton.1 hp]; exact hq
    | cons y B2 =>
      have e3 : x = y := (List.cons.inj e2).1
      have e4 : B = B2 ++ V := (List.cons.inj e2).2
      subst e3
      rw [e1, show (A ++ x :: B2) ++ q :: V = A ++ x :: (B2 ++ q :: V) by simp]
      refine bestL_at h2 fun p hp => ?_
      rcases List.mem_append.1 hp with hp | hp
      · exact h3 p (by rw [e4]; exact List.mem_append_left _ hp)
      · rcases List.mem_cons.1 hp with rfl | hp
        · exact hqx
        · exact h3 p (by rw [e4]; exact List.mem_append_right _ hp)
theorem winL_app {f : Int} {U V : List Pg} : winL f (U ++ V) = winL f U ++ winL f V := by unfold winL; exact List.filter_append ..
theorem winL_cons {f : Int} {q : Pg} {V : List Pg} : winL f (q :: V) = if okP f q then q :: winL f V else winL f V := by
  unfold winL
  rw [List.filter_cons]
/-- A page that does not count, or is older, changes no winner. -/
theorem win_ins {f : Int} {U V : List Pg} {q : Pg} (h : okP f q = false ∨ winB f (U ++ V) = true ∧ newer (winP f (U ++ V)).me q.me = true) : winB f (U ++ q :: V) = winB f (U ++ V) ∧ (winB f (U ++ V) = true → winP f (U ++ q :: V) = winP f (U ++ V)) := by
  cases ho : okP f q with
  | false =>
    have e : winL f (U ++ q :: V) = winL f (U ++ V) := by rw [winL_app, winL_cons, ho, if_neg Bool.false_ne_true, winL_app]
    unfold winB winP
    rw [e]
    exact ⟨rfl, fun _ => rfl⟩
  | true =>
    rcases h with h | ⟨h1, h2⟩
    · rw [ho] at h; cases h
    · have e : winL f (U ++ q :: V) = winL f U ++ q :: winL f V := by rw [winL_app, winL_cons, ho, if_pos rfl]
      have hw : winB f (U ++ q :: V) = true := by
        unfold winB
        rw [e, decide_eq_true_eq, List.length_append, List.length_cons]; omega
      refine ⟨by rw [hw, h1], fun _ => ?_⟩
      rw [winP_best hw, winP_best h1, e, winL_app]
      rw [winP_best h1, winL_app] at h2
      refine bestL_ins ?_ h2
      unfold winB at h1
      rw [← winL_app]
      exact of_decide_eq_true h1
theorem grpL_app {g : Geo} {A B : List Pg} {k : Int} : grpL g (A ++ B) k = grpL g A k ++ grpL g B k := by
  unfold grpL kyd
  rw [List.filter_append, List.filter_append]
theorem grpL_cons {g : Geo} {q : Pg} {B : List Pg} {k : Int} : grpL g (q :: B) k = if kyF g q && decide (gKey g q = k) then q :: grpL g B k else grpL g B k := by
  unfold grpL kyd
  rw [List.filter_cons]
  cases kyF g q with
  | false => rw [if_neg Bool.false_ne_true, Bool.false_and, if_neg Bool.false_ne_true]
  | true => rw [if_pos rfl, List.filter_cons, Bool.true_and]
theorem sloL_keys {g : Geo} (hg : g.ok) {f : Int} {P : List Pg} : sloL g f P (keyL g P) = ((upTo (g.ss + g.bs + g.ps + 1).toNat).filter fun k => winB f (grpL g P k)).map (sloOf g f P) := by
  unfold sloL keyL
  rw [List.filter_filter]
  congr 1
  refine List.filter_congr fun k _ => ?_
  cases hw : winB f (grpL g P k) with
  | false => rfl
  | true =>
    obtain ⟨p, hp, _⟩ := winB_iff.1 hw
    rw [Bool.true_and, decide_eq_true_eq]
    obtain ⟨h1, h2, h3⟩ := mem_grpL.1 hp
    unfold keyD kyd
    exact List.mem_map.2 ⟨p, List.mem_filter.2 ⟨h1, h2⟩, h3⟩
theorem sloL_ins {g : Geo} (hg : g.ok) {f : Int} {A B : List Pg} {q : Pg} (h : ∀ k, gKey g q = k → okP f q = false ∨ winB f (grpL g (A ++ B) k) = true ∧ newer (winP f (grpL g (A ++ B) k)).me q.me = true) :
    sloL g f (A ++ q :: B) (keyL g (A ++ q :: B)) = sloL g f (A ++ B) (keyL g (A ++ B)) := by
  have key : ∀ k, winB f (grpL g (A ++ q :: B) k) = winB f (grpL g (A ++ B) k) ∧ (winB f (grpL g (A ++ B) k) = true → winP f (grpL g (A ++ q :: B) k) = winP f (grpL g (A ++ B) k)) := by
    intro k
    rw [grpL_app, grpL_cons]
    cases hc : kyF g q && decide (gKey g q = k) with
    | false =>
      rw [if_neg Bool.false_ne_true, ← grpL_app]
      exact ⟨rfl, fun _ => rfl⟩
    | true =>
      rw [if_pos rfl, grpL_app]
      refine win_ins ?_
      rw [← grpL_app]
      exact h k (of_decide_eq_true (and_r hc))
  rw [sloL_keys hg, sloL_keys hg]
  rw [List.filter_congr (fun k _ => (key k).1)]
  refine List.map_congr_left fun k hk => ?_
  unfold sloOf
  rw [(key k).2 (List.mem_filter.1 hk).2]
theorem pgsTo_ins {f f' : Nat → List Pg → Bool} {Q Q' : List (List Pg)} {b : Nat} {U V : List Pg} {q : Pg} (hb : rw Q b = U ++ V) (hb' : rw Q' b = U ++ q :: V) (hf : f b (rw Q b) = true) (hf' : f' b (rw Q' b) = true) :
    ∀ {n : Nat}, b < n → (∀ i, i < n → i ≠ b → (if f i (rw Q i) then rw Q i else []) = (if f' i (rw Q' i) then rw Q' i else [])) → ∃ A B, pgsTo f Q n = A ++ B ∧ pgsTo f' Q' n = A ++ q :: B
  | 0, h, _ => absurd h (Nat.not_lt_zero b)
  | n + 1, h, hs => by
    rw [pgsTo, pgsTo]
    by_cases e : b = n
    · subst e
      have e1 : pgsTo f Q b = pgsTo f' Q' b := pgsTo_congr fun i hi => hs i (by omega) (by omega)
      rw [hf, hf', if_pos rfl, if_pos rfl, hb, hb', ← e1]
      exact ⟨pgsTo f Q b ++ U, V, by rw [List.append_assoc], by rw [List.append_assoc]⟩
    · obtain ⟨A, B, h1, h2⟩ := pgsTo_ins hb hb' hf hf' (n := n) (by omega) fun i hi hib => hs i (by omega) hib
      rw [h1, h2, hs n (by omega) (fun e' => e e'.symm)]
      exact ⟨A, B ++ _, by rw [List.append_assoc], by rw [List.append_assoc]; rfl⟩
end Go.Vx
set_option maxRecDepth 100000
namespace Go.Vx
open Go Go.Proofs
variable [Gl]

abbrev g8 : Geo := ⟨8, 8, 16⟩
theorem g8_ok : g8.ok := ⟨by decide, by decide, by decide⟩
abbrev fl8 (L : List Pg) : Int := (nmOf 8 (gridL 8 L)).f
abbrev sl8 (L : List Pg) : List Slot := sloS g8 8 (gridL 8 L)
/-- A page in the place of an erased one. -/
structure NewP (L : List Pg) (j : Nat) (q : Pg) : Prop where
  cl : (L.getD j pg0).cl = 2
  pl : q.pl = (L.getD j pg0).pl
  pos : 0 < (L.getD j pg0).pl.2
  hd : headB L (L.getD j pg0).pl.1 = true
  bad : anyF (eqI (L.getD j pg0).pl.1) (badL 8 (gridL 8 L)) = false
  qc : q.cl = 1
  qk : q.me.kind = 2
  qf : q.me.floor = 0
  kr : 0 ≤ q.me.key ∧ q.me.key ≤ 15
  old : q.me.batch = fl8 L + 1 ∨ ∃ s ∈ sl8 L, s.key = q.me.key ∧ q.me.seq = s.me.seq - 1
theorem floor_pos {n : Nat} {Q : List (List Pg)} : 0 ≤ (nmOf n Q).f := by
  rw [floor_cnt, flH_eq]
  exact (foldl_max flv _ 0).1
theorem floor_ins {A B : List Pg} {q : Pg} (hq : flv q ≤ 0) : ((A ++ q :: B).filter fun p => decide (p.cl = 1)).foldl flH 0 = ((A ++ B).filter fun p => decide (p.cl = 1)).foldl flH 0 := by
  rw [flH_eq, List.filter_append, List.filter_append, List.foldl_append, List.foldl_append, List.filter_cons]
  have h0 := (foldl_max flv (A.filter fun p => decide (p.cl = 1)) 0).1
  generalize List.foldl (fun a p => max a (flv p)) 0 (A.filter fun p => decide (p.cl = 1)) = a at h0
  by_cases hc : q.cl = 1
  · rw [decide_eq_true hc, if_pos rfl, List.foldl_cons]
    rw [show max a (flv q) = a by omega]
  · rw [decide_eq_false hc, if_neg Bool.false_ne_true]
theorem set_split {L : List Pg} {j : Nat} {q : Pg} (h : j < L.length) : L = L.take j ++ L.getD j pg0 :: L.drop (j + 1) ∧ L.set j q = L.take j ++ q :: L.drop (j + 1) := by
  refine ⟨?_, ?_⟩
  · rw [getD_ix h]
    rw [List.getElem_cons_drop, List.take_append_drop]
  · exact List.set_eq_take_append_cons_drop.trans (by rw [if_pos h])
theorem newP_same {L : List Pg} {j : Nat} {q : Pg} (h : Okl 8 8 L) (hj : j < L.length) (hN : NewP L j q) : Okl 8 8 (L.set j q) ∧ fl8 (L.set j q) = fl8 L ∧ sl8 (L.set j q) = sl8 L := by
  obtain ⟨eL, eX⟩ := set_split (q := q) hj
  have hp0 : L.getD j pg0 ∈ L := getD_mem hj
  have hin := h.mem _ hp0
  have hX : Okl 8 8 (L.set j q) := by
    refine ⟨fun p hp => ?_, ?_⟩
    · rcases List.mem_or_eq_of_mem_set hp with hp | rfl
      · exact h.mem p hp
      · exact ⟨by rw [hN.pl]; exact hin.b, by rw [hN.pl]; exact hin.p, by rw [hN.qc]; decide⟩
    · have e : (L.set j q).map (fun p => p.pl) = L.map fun p => p.pl := by
        rw [List.map_set, hN.pl, getD_ix hj]
        have : (L.map fun p => p.pl)[j]'(by rw [List.length_map]; exact hj) = L[j].pl := List.getElem_map ..
        rw [← this, List.set_getElem_self]
      have h1 : (L.map fun p => p.pl).Pairwise plLt := List.pairwise_map.2 h.ord
      rw [← e] at h1
      exact List.pairwise_map.1 h1
  -- the block
  generalize hb : (L.getD j pg0).pl.1.toNat = b
  have hbI : ((b : Nat) : Int) = (L.getD j pg0).pl.1 := by rw [← hb]; exact Int.toNat_of_nonneg hin.b.1
  have hb8 : b < 8 := by have := hin.b.2; omega
  have hqI : q.pl.1 = ((b : Nat) : Int) := by rw [hN.pl, hbI]
  have hrow : ∀ i, i ≠ b → blkL (L.set j q) i = blkL L i := by
    intro i hi
    have n1 : isB i (L.getD j pg0) = false := by unfold isB; rw [decide_eq_false (by rw [← hbI]; omega)]; rfl
    have n2 : isB i q = false := by unfold isB; rw [decide_eq_false (by rw [hqI]; omega)]; rfl
    rw [eX]
    conv => rhs; rw [eL]
    unfold blkL
    rw [List.filter_append, List.filter_append, List.filter_cons, List.filter_cons, n1, n2, if_neg Bool.false_ne_true, if_neg Bool.false_ne_true]
  have hU : blkL L b = blkL (L.take j) b ++ blkL (L.drop (j + 1)) b := by
    have n1 : isB b (L.getD j pg0) = false := by unfold isB; rw [decide_eq_true hN.cl]; simp
    conv => lhs; rw [eL]
    unfold blkL
    rw [List.filter_append, List.filter_cons, n1, if_neg Bool.false_ne_true]
  have hV : blkL (L.set j q) b = blkL (L.take j) b ++ q :: blkL (L.drop (j + 1)) b := by
    have n2 : isB b q = true := by unfold isB; rw [decide_eq_true hqI, hN.qc]; rfl
    rw [eX]
    unfold blkL
    rw [List.filter_append, List.filter_cons, n2, if_pos rfl]
  have hh : HdAt L (b : Int) := by
    rw [hbI]; exact (headB_iff h).1 hN.hd
  have hd1 : isHd (b : Int) (blkL L b) = true := (isHd_iff h).2 hh
  have hd2 : isHd (b : Int) (blkL (L.set j q) b) = true := by
    refine (isHd_iff hX).2 ?_
    obtain ⟨p, hp, e1, e2⟩ := hh
    refine ⟨p, ?_, e1, e2⟩
    rw [eL] at hp
    rw [eX]
    rcases List.mem_append.1 hp with hp | hp
    · exact List.mem_append_left _ hp
    · rcases List.mem_cons.1 hp with rfl | hp
      · have := hN.pos
        rw [e1] at this
        exact absurd this (by show ¬ (0 : Int) < 0; omega)
      · exact List.mem_append_right _ (List.mem_cons_of_mem _ hp)
  have hr : ∀ i, i < 8 → rw (gridL 8 L) i = blkL L i := fun i hi => gridL_at hi
  have hr' : ∀ i, i < 8 → rw (gridL 8 (L.set j q)) i = blkL (L.set j q) i := fun i hi => gridL_at hi
  -- what is bad
  have hbad : badTo 8 (gridL 8 (L.set j q)) 8 = badTo 8 (gridL 8 L) 8 := by
    obtain ⟨A, B, h1, h2⟩ := pgsTo_ins (f := hdF) (f' := hdF) (Q := gridL 8 L) (Q' := gridL 8 (L.set j q)) (b := b) (U := blkL (L.take j) b) (V := blkL (L.drop (j + 1)) b) (q := q)
      (by rw [hr b hb8]; exact hU) (by rw [hr' b hb8]; exact hV) (by show isHd (b : Int) _ = true; rw [hr b hb8]; exact hd1) (by show isHd (b : Int) _ = true; rw [hr' b hb8]; exact hd2) (n := 8) hb8
      (fun i hi hib => by rw [hr i hi, hr' i hi, hrow i hib])
    have hq : isBad 8 q = false := by unfold isBad; rw [hN.qk]; simp
    unfold badTo
    rw [h1, h2, List.filter_append, List.filter_append, List.filter_cons, hq, if_neg Bool.false_ne_true]
  have hnb : (b : Int) ∉ badTo 8 (gridL 8 L) 8 := by
    intro hm
    have := hN.bad
    rw [← hbI, anyF_mem.2 (mem_badL.2 hm)] at this
    cases this
  have hc1 : cntF 8 (gridL 8 L) b (rw (gridL 8 L) b) = true := by
    show (isHd (b : Int) _ && !decide _) = true
    rw [hr b hb8, hd1, decide_eq_false hnb]; rfl
  have hc2 : cntF 8 (gridL 8 (L.set j q)) b (rw (gridL 8 (L.set j q)) b) = true := by
    show (isHd (b : Int) _ && !decide _) = true
    rw [hr' b hb8, hd2, hbad, decide_eq_false hnb]; rfl
  obtain ⟨A, B, h1, h2⟩ := pgsTo_ins (f := cntF 8 (gridL 8 L)) (f' := cntF 8 (gridL 8 (L.set j q))) (Q := gridL 8 L) (Q' := gridL 8 (L.set j q)) (b := b) (U := blkL (L.take j) b) (V := blkL (L.drop (j + 1)) b) (q := q)
      (by rw [hr b hb8]; exact hU) (by rw [hr' b hb8]; exact hV) hc1 hc2 (n := 8) hb8
      (fun i hi hib => by
        show (if (isHd (i : Int) (rw (gridL 8 L) i) && !decide ((i : Int) ∈ badTo 8 (gridL 8 L) 8)) then _ else _) = (if (isHd (i : Int) (rw (gridL 8 (L.set j q)) i) && !decide ((i : Int) ∈ badTo 8 (gridL 8 (L.set j q)) 8)) then _ else _)
        rw [hr i hi, hr' i hi, hrow i hib, hbad])
  have c1 : cntP 8 (gridL 8 L) = A ++ B := h1
  have c2 : cntP 8 (gridL 8 (L.set j q)) = A ++ q :: B := h2
  have hfl : fl8 (L.set j q) = fl8 L := by
    show (nmOf 8 _).f = (nmOf 8 _).f
    rw [floor_cnt, floor_cnt, c1, c2]
    exact floor_ins (by unfold flv; rw [if_neg (by rw [hN.qk]; decide), hN.qf]; exact Int.le_refl 0)
  refine ⟨hX, hfl, ?_⟩
  show sloL g8 (fl8 (L.set j q)) (cntP 8 (gridL 8 (L.set j q))) (keyL g8 (cntP 8 (gridL 8 (L.set j q)))) = sloL g8 (fl8 L) (cntP 8 (gridL 8 L)) (keyL g8 (cntP 8 (gridL 8 L)))
  rw [hfl, c1, c2]
  refine sloL_ins g8_ok fun k hk => ?_
  rcases hN.old with ho | ⟨s, hs, hsk, hsq⟩
  · left
    unfold okP alive
    have h0 : 0 ≤ fl8 L := floor_pos
    have a1 : ¬ q.me.batch = 0 := by omega
    have a2 : ¬ q.me.batch ≤ fl8 L := by omega
    rw [decide_eq_false a1, decide_eq_false a2]
    simp
  · right
    have hkq : gKey g8 q = q.me.key := by
      show keyV 8 8 16 q.me = _
      unfold keyV
      rw [if_neg (by rw [hN.qk]; decide)]
      have e : (keyN 8 8 16 q.me).1 = 0 := by unfold keyN; rw [if_pos (.inl hN.qk)]
      rw [e]
      have := hN.kr
      have hw : IntKind.wrap .i64 (0 + q.me.key) = 0 + q.me.key := inR64 (by omega) (by omega)
      rw [hw]; omega
    obtain ⟨k', _, hw, rfl⟩ := mem_sloS.1 hs
    have e : k' = k := by
      have : k' = q.me.key := hsk
      omega
    subst e
    rw [c1] at hw hsq
    refine ⟨hw, newer_iff.2 (.inl ?_)⟩
    have hsq : q.me.seq = (winP (fl8 L) (grpL g8 (cntP 8 (gridL 8 L)) k')).me.seq - 1 := by rw [c1]; exact hsq
    rw [c1] at hsq
    omega
theorem ixF_hit {α : Type} {f : α → Bool} {A : List α} {d : α} (h : 0 ≤ ixF f A) : ∃ i, i < A.length ∧ ixF f A = (i : Int) ∧ f (A.getD i d) = true := by
  unfold ixF at h ⊢
  cases ha : A.any f with
  | false => rw [ha, if_neg Bool.false_ne_true] at h; omega
  | true =>
    rw [if_pos rfl]
    have hlt : A.findIdx f < A.length := List.findIdx_lt_length_of_exists (List.any_eq_true.1 ha)
    refine ⟨A.findIdx f, hlt, rfl, ?_⟩
    rw [getD_ix hlt]
    exact List.findIdx_getElem
/-- What ScanOlder makes of a list. -/
def Nw (L A : List Pg) : Prop := A = L ∨ ∃ j q, j < L.length ∧ A = L.set j q ∧ NewP L j q
theorem Nw.same {L A : List Pg} (h : Okl 8 8 L) (hN : Nw L A) : Okl 8 8 A ∧ fl8 A = fl8 L ∧ sl8 A = sl8 L := by
  rcases hN with rfl | ⟨j, q, hj, rfl, hN⟩
  · exact ⟨h, rfl, rfl⟩
  · exact newP_same h hj hN
/-- .. of its first i pages: is it done. -/
def Nwi (L : List Pg) (i : Nat) (dn : Bool) (A : List Pg) : Prop := (dn = false ∧ A = L.take i) ∨ (dn = true ∧ ∃ j q, j < i ∧ j < L.length ∧ A = (L.set j q).take i ∧ NewP L j q)
theorem Nwi.all {L A : List Pg} {i : Nat} {dn : Bool} (hi : L.length ≤ i) (h : Nwi L i dn A) : Nw L A := by
  rcases h with ⟨_, rfl⟩ | ⟨_, j, q, _, h2, rfl, h3⟩
  · exact .inl (List.take_of_length_le hi)
  · exact .inr ⟨j, q, h2, List.take_of_length_le (by rw [List.length_set]; exact hi), h3⟩
theorem Nwi.len {L A : List Pg} {i : Nat} {dn : Bool} (h : Nwi L i dn A) : A.length ≤ i := by
  rcases h with ⟨_, rfl⟩ | ⟨_, j, q, _, h2, rfl, h3⟩ <;> exact List.length_take_le _ _
theorem Nwi.keep {L A : List Pg} {i : Nat} {dn : Bool} (hi : i < L.length) (h : Nwi L i dn A) : Nwi L (i + 1) dn (A ++ [L.getD i pg0]) := by
  rcases h with ⟨h1, rfl⟩ | ⟨h1, j, q, h2, h3, rfl, h4⟩
  · exact .inl ⟨h1, (take_snoc hi).symm⟩
  · refine .inr ⟨h1, j, q, by omega, h3, ?_, h4⟩
    rw [take_snoc (d := pg0) (by rw [List.length_set]; exact hi)]
    congr 2
    rw [getD_ix hi, getD_ix (by rw [List.length_set]; exact hi), List.getElem_set_ne (by omega)]
theorem Nwi.new {L A : List Pg} {i : Nat} {q : Pg} (hi : i < L.length) (h : Nwi L i false A) (hN : NewP L i q) : Nwi L (i + 1) true (A ++ [q]) := by
  rcases h with ⟨_, rfl⟩ | ⟨h1, _⟩
  · refine .inr ⟨rfl, i, q, by omega, hi, ?_, hN⟩
    rw [take_snoc (d := pg0) (by rw [List.length_set]; exact hi), List.take_set_of_le (Nat.le_refl i)]
    congr 2
    rw [getD_ix (by rw [List.length_set]; exact hi), List.getElem_set_self]
  · cases h1
end Go.Vx
