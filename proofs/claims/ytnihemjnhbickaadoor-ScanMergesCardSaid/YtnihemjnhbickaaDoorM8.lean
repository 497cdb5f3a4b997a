/-
  Round 22: a scan: the walk of Of.
  Round 22: the document's places and records.
  Round 22: lists that are the same.
  Round 22: what the law looks for.
  Round 22: copies of pages and slots.
  Round 22: the contract of Of; the chapter's examples.
  Round 22: two results of parts, merged.
  Round 22: is a number among these; is a list both lists together.
  Round 22: ScanCommits: plain facts.
  Round 22: ScanCommits: what its scan says.
  Round 22: winners; blocks that do not count: plain facts.
  Round 22: lists that may be scanned; ScanHeads: plain facts.
  Round 22: ScanAlive: plain facts.
  Round 22: one more page that is not newer: plain facts.
  Round 22: ScanOlder: plain facts.
  Round 22: a slot is the same az one of a list; the newest slots of two lists: plain facts.
  Conditions: none.
-/
import Derived.Test.YtnihemjnhbickaaDoorM6
import Derived.Test.YtnihemjnhbickaaDoorM7
set_option linter.unusedVariables false
set_option linter.unusedSimpArgs false
set_option linter.unusedSectionVars false
set_option maxRecDepth 100000
namespace Go.Vx
open Go Go.Proofs
variable [Gl]
abbrev V5 (bs ps : Int) (n : Nat) (so : Bool) (sb : Nat) (lo : Bool) (lb : Nat) (sk : List Int) (L : List Pg) : Inv' C0 := ⟨5, Nat × List (Rw Pg), fun y => [(52, .int .i64 (y.1 : Int))],
  fun y m => match m with
    | c0 :: c1 :: c2 :: ⟨gb, gq, _, _, _, _⟩ :: c4 :: c5 :: _ => [c0, c1, c2, ⟨gb, gq, 1, true, none, .rows 33 y.2⟩, c4, c5]
    | _ => [],
  fun y => y.1 ≤ L.length ∧ GOK n so sb lo lb (L.take y.1) y.2 ∧ ∀ j, j < y.1 → pgBad bs ps sk L j = false, fun y => L.length - y.1⟩
abbrev resA (v : Nm) (S : Sq Slot) (F D B : Sq Int) (O : Sq Pl) : SV := .agg [svL 2 S, .int .i64 v.s, .int .i64 v.t, .int .i64 v.b, .int .i64 v.f, svI 3 F, svI 4 D, svI 5 B, svO 6 O]
abbrev resN : SV := .agg [.nils, .int .i64 0, .int .i64 0, .int .i64 0, .int .i64 0, .nils, .nils, .nils, .nils]
abbrev chK : Sq Int → Ck C0
  | (so, sb, sq, sl, sn, sc) => ⟨sb, sq, 1, false, some so, .rows 3 sl⟩
abbrev chP : Sq Pg → Ck C0
  | (so, sb, sq, sl, sn, sc) => ⟨sb, sq, 9, false, some so, .rows 55 sl⟩
abbrev svP (k : Nat) : Sq Pg → SV
  | (so, sb, sq, sl, sn, sc) => .sl k 0 sn sc
abbrev errSV (g : Nat) : SV := .ifc 142 (.val (.pointer (some (Gl.A g))))
def OfS (g : Geo) (sk : List Int) (L : List Pg) (y : Sq Slot × Sq Int × Sq Int × Sq Int × Sq Pl) : Prop :=
  (∀ j, j < L.length → pgBad g.bs g.ps sk L j = false) ∧ Gth (sloS g g.bs.toNat (gridL g.bs.toNat L)) y.1 ∧ Gth (freS sk g.bs.toNat (gridL g.bs.toNat L)) y.2.1 ∧
  Gth (dirS g sk g.bs.toNat (gridL g.bs.toNat L)) y.2.2.1 ∧ Gth (badL g.bs.toNat (gridL g.bs.toNat L)) y.2.2.2.1 ∧ Gth (orfS g.bs.toNat (gridL g.bs.toNat L)) y.2.2.2.2
abbrev pl4 : List Tk := [.p 0, .p 1, .e 2, .p 3]
set_option maxHeartbeats 64000000 in
theorem of_ok (bs ps ss : Int) (hbs : 1 ≤ bs ∧ bs ≤ 64) (hps : 1 ≤ ps ∧ ps ≤ 64) (hss : 1 ≤ ss ∧ ss ≤ 536870912) (s : Sq Int) (l : Sq Pg)
    (hs : s.2.2.2.2.1 ≤ s.2.2.2.1.length ∧ s.2.2.2.2.1 < 1000000000 ∧ (s.1 = false → s.2.2.2.2.1 = 0 ∧ s.2.2.2.2.2 = 0))
    (hl : l.2.2.2.2.1 ≤ l.2.2.2.1.length ∧ l.2.2.2.2.1 < 1000000 ∧ (l.1 = false → l.2.2.2.2.1 = 0 ∧ l.2.2.2.2.2 = 0)) :
    Does (C := C0) Tryd.prog (.fn 9) [chK s, chP l] [.int .i64 bs, .int .i64 ps, .int .i64 ss, svI 0 s, svP 1 l]
    [⟨Sq Slot × Sq Int × Sq Int × Sq Int × Sq Pl, OfS ⟨bs, ps, ss⟩ s.li l.li,
      fun y => .tup [resA (nmOf bs.toNat (gridL bs.toNat l.li)) y.1 y.2.1 y.2.2.1 y.2.2.2.1 y.2.2.2.2, .nili],
      fun y => [chK s, chP l, chL y.1, chI y.2.1, chI y.2.2.1, chI y.2.2.2.1, chO y.2.2.2.2]⟩,
     ⟨Unit, fun _ => ∃ j, j < l.li.length ∧ pgBad bs ps s.li l.li j = true, fun _ => .tup [resN, errSV 0], fun _ => [chK s, chP l]⟩] := by
  obtain ⟨so, sb, sq, sl, sn, sc⟩ := s
  obtain ⟨lo, lb, lq, ll, ln, lc⟩ := l
  change sn ≤ sl.length ∧ sn < 1000000000 ∧ (so = false → sn = 0 ∧ sc = 0) at hs
  change ln ≤ ll.length ∧ ln < 1000000 ∧ (lo = false → ln = 0 ∧ lc = 0) at hl
  refine loc_fn (P := Tryd.prog) (E := ⟨[fcNumbers, fcSlots, fcRest], [pcPlaces, pcContains], 146, [(2, [], pl4), (10, [], pl4), (12, [1000012, 1000014, 1000015, 3], ofB)], [fG], []⟩) (L := [V5 bs ps bs.toNat so sb lo lb (sl.take sn) (ll.take ln)]) mix Tryd.func9 rfl (by kernel_rfl) (by kernel_rfl) rfl rfl ?_
  ((conv => (arg 1; reduce)); with_reducible repeat' (first | exact Tr.yes_h | refine Tr.and_h ?_ ?_ | refine Tr.imp_h fun _ => ?_ | refine Tr.all_h fun _ => ?_ | refine Tr.lf_h ?_))
  all_goals try (first | first | (show Region.lexB _ _ = true; kernel_rfl) | (show planned _ _ = true; kernel_rfl) | exact rfl | exact True.intro | (first | exact key3 | exact zeroB | exact zeroR | exact zeroS | exact ⟨key3, zeroB⟩ | exact ⟨key3, zeroR⟩ | exact ⟨key3, zeroS⟩) | ((try dsimp only [imp, C0, cG, cInt, cPl, cSlot, cPg, gwCodec] at *); (try refine inR64 ?_ ?_) <;> (try simp only [List.length_set, List.length_append, List.length_take, List.length_drop]) <;> omega))
  · rename_i u0 hg
    exfalso
    have hg : (decide (bs < 1) || decide (64 < bs) || decide (ps < 1) || decide (64 < ps) || decide (ss < 1) || decide (536870912 < ss)) = true := hg
    simp only [Bool.or_eq_true, decide_eq_true_eq] at hg
    omega
  · have e : Tryd.prog.types[33].bytes = 24 := by kernel_rfl
    rw [e]
    exact ⟨by omega, Int.le_refl _, by show (24 : Int) * bs ≤ _; omega, by omega⟩
  · refine Stands.one (0, List.replicate bs.toNat Rw.nil) ⟨⟨Nat.zero_le _, by show GOK _ _ _ _ _ ((ll.take ln).take 0) _; rw [List.take_zero]; exact GOK.nil, fun j hj => absurd hj (Nat.not_lt_zero j)⟩, ?_⟩
    ((conv => (arg 1; reduce)); with_reducible repeat' (first | exact Tr.yes_h | refine Tr.and_h ?_ ?_ | refine Tr.imp_h fun _ => ?_ | refine Tr.all_h fun _ => ?_ | refine Tr.lf_h ?_))
    all_goals (first | first | (show Region.lexB _ _ = true; kernel_rfl) | (show planned _ _ = true; kernel_rfl) | exact rfl | exact True.intro | (first | exact key3 | exact zeroB | exact zeroR | exact zeroS | exact ⟨key3, zeroB⟩ | exact ⟨key3, zeroR⟩ | exact ⟨key3, zeroS⟩) | ((try dsimp only [imp, C0, cG, cInt, cPl, cSlot, cPg, gwCodec] at *); (try refine inR64 ?_ ?_) <;> (try simp only [List.length_set, List.length_append, List.length_take, List.length_drop]) <;> omega))
  · rename_i u0 hg u1 u2 u3 y hy h1
    obtain ⟨i, R⟩ := y
    have hy : i ≤ (ll.take ln).length ∧ GOK bs.toNat so sb lo lb ((ll.take ln).take i) R ∧ ∀ j, j < i → pgBad bs ps (sl.take sn) (ll.take ln) j = false := hy
    have h1 : (i : Int) < (ln : Int) := of_decide_eq_true h1
    exact on_of hl.2.2 (by omega)
  · rename_i u0 hg u1 u2 u3 y hy h1
    obtain ⟨i, R⟩ := y
    have hy : i ≤ (ll.take ln).length ∧ GOK bs.toNat so sb lo lb ((ll.take ln).take i) R ∧ ∀ j, j < i → pgBad bs ps (sl.take sn) (ll.take ln) j = false := hy
    have h1 : (i : Int) < (ln : Int) := of_decide_eq_true h1
    exact h1
  · rename_i u0 hg u1 u2 u3 y hy h1
    obtain ⟨i, R⟩ := y
    have hy : i ≤ (ll.take ln).length ∧ GOK bs.toNat so sb lo lb ((ll.take ln).take i) R ∧ ∀ j, j < i → pgBad bs ps (sl.take sn) (ll.take ln) j = false := hy
    have h1 : (i : Int) < (ln : Int) := of_decide_eq_true h1
    exact on_of hl.2.2 (by omega)
  · rename_i u0 hg u1 u2 u3 y hy h1
    obtain ⟨i, R⟩ := y
    have hy : i ≤ (ll.take ln).length ∧ GOK bs.toNat so sb lo lb ((ll.take ln).take i) R ∧ ∀ j, j < i → pgBad bs ps (sl.take sn) (ll.take ln) j = false := hy
    have h1 : (i : Int) < (ln : Int) := of_decide_eq_true h1
    show i < ll.length
    omega
  · rename_i u0 hg u1 u2 u3 y hy h1 v1 v2 hin h0
    obtain ⟨i, R⟩ := y
    have hy : i ≤ (ll.take ln).length ∧ GOK bs.toNat so sb lo lb ((ll.take ln).take i) R ∧ ∀ j, j < i → pgBad bs ps (sl.take sn) (ll.take ln) j = false := hy
    have h1 : (i : Int) < (ln : Int) := of_decide_eq_true h1
    have h0 : (0 : Int) < (i : Int) := of_decide_eq_true h0
    exact inR64 (by show -9223372036854775808 ≤ (i : Int) - 1; omega) (by show (i : Int) - 1 ≤ 9223372036854775807; omega)
  · rename_i u0 hg u1 u2 u3 y hy h1 v1 v2 hin h0
    obtain ⟨i, R⟩ := y
    have hy : i ≤ (ll.take ln).length ∧ GOK bs.toNat so sb lo lb ((ll.take ln).take i) R ∧ ∀ j, j < i → pgBad bs ps (sl.take sn) (ll.take ln) j = false := hy
    have h1 : (i : Int) < (ln : Int) := of_decide_eq_true h1
    have h0 : (0 : Int) < (i : Int) := of_decide_eq_true h0
    exact on_of hl.2.2 (by omega)
  · rename_i u0 hg u1 u2 u3 y hy h1 v1 v2 hin h0
    obtain ⟨i, R⟩ := y
    have hy : i ≤ (ll.take ln).length ∧ GOK bs.toNat so sb lo lb ((ll.take ln).take i) R ∧ ∀ j, j < i → pgBad bs ps (sl.take sn) (ll.take ln) j = false := hy
    have h1 : (i : Int) < (ln : Int) := of_decide_eq_true h1
    have h0 : (0 : Int) < (i : Int) := of_decide_eq_true h0
    show (0 : Int) ≤ (i : Int) - 1
    omega
  · rename_i u0 hg u1 u2 u3 y hy h1 v1 v2 hin h0
    obtain ⟨i, R⟩ := y
    have hy : i ≤ (ll.take ln).length ∧ GOK bs.toNat so sb lo lb ((ll.take ln).take i) R ∧ ∀ j, j < i → pgBad bs ps (sl.take sn) (ll.take ln) j = false := hy
    have h1 : (i : Int) < (ln : Int) := of_decide_eq_true h1
    have h0 : (0 : Int) < (i : Int) := of_decide_eq_true h0
    show (i : Int) - 1 < (ln : Int)
    omega
  · rename_i u0 hg u1 u2 u3 y hy h1 v1 v2 hin h0
    obtain ⟨i, R⟩ := y
    have hy : i ≤ (ll.take ln).length ∧ GOK bs.toNat so sb lo lb ((ll.take ln).take i) R ∧ ∀ j, j < i → pgBad bs ps (sl.take sn) (ll.take ln) j = false := hy
    have h1 : (i : Int) < (ln : Int) := of_decide_eq_true h1
    have h0 : (0 : Int) < (i : Int) := of_decide_eq_true h0
    exact on_of hl.2.2 (by omega)
  · rename_i u0 hg u1 u2 u3 y hy h1 v1 v2 hin h0
    obtain ⟨i, R⟩ := y
    have hy : i ≤ (ll.take ln).length ∧ GOK bs.toNat so sb lo lb ((ll.take ln).take i) R ∧ ∀ j, j < i → pgBad bs ps (sl.take sn) (ll.take ln) j = false := hy
    have h1 : (i : Int) < (ln : Int) := of_decide_eq_true h1
    have h0 : (0 : Int) < (i : Int) := of_decide_eq_true h0
    show ((i : Int) - 1).toNat + 0 < ll.length
    omega
  · rename_i u0 hg u1 u2 u3 y hy h1 v1 v2 hc
    obtain ⟨i, R⟩ := y
    have hy : i ≤ (ll.take ln).length ∧ GOK bs.toNat so sb lo lb ((ll.take ln).take i) R ∧ ∀ j, j < i → pgBad bs ps (sl.take sn) (ll.take ln) j = false := hy
    have h1 : (i : Int) < (ln : Int) := of_decide_eq_true h1
    exact ⟨hs.1, by show sn < 4611686018427387904; omega, hs.2.2⟩
  · rename_i u0 hg u1 u2 u3 y hy h1 v1 v2 hc
    obtain ⟨i, R⟩ := y
    have hy : i ≤ (ll.take ln).length ∧ GOK bs.toNat so sb lo lb ((ll.take ln).take i) R ∧ ∀ j, j < i → pgBad bs ps (sl.take sn) (ll.take ln) j = false := hy
    have h1 : (i : Int) < (ln : Int) := of_decide_eq_true h1
    have e1 : ((i : Int) - 1).toNat + 0 = i - 1 := by omega
    have hb : pgBad bs ps (sl.take sn) (ll.take ln) i = true := by
      unfold pgBad
      rw [tk_get (by omega), tk_get (by omega), ← e1]
      exact hc
    refine Ends.next (Ends.one () ⟨i, by show i < (ll.take ln).length; rw [tk_len hl.1]; omega, hb⟩ ?_)
    ((conv => (arg 1; reduce)); with_reducible repeat' (first | exact Tr.yes_h | refine Tr.and_h ?_ ?_ | refine Tr.imp_h fun _ => ?_ | refine Tr.all_h fun _ => ?_ | refine Tr.lf_h ?_))
    all_goals (first | first | (show Region.lexB _ _ = true; kernel_rfl) | (show planned _ _ = true; kernel_rfl) | exact rfl | exact True.intro | (first | exact key3 | exact zeroB | exact zeroR | exact zeroS | exact ⟨key3, zeroB⟩ | exact ⟨key3, zeroR⟩ | exact ⟨key3, zeroS⟩) | ((try dsimp only [imp, C0, cG, cInt, cPl, cSlot, cPg, gwCodec] at *); (try refine inR64 ?_ ?_) <;> (try simp only [List.length_set, List.length_append, List.length_take, List.length_drop]) <;> omega))
  · rename_i u0 hg u1 u2 u3 y hy h1 v1 v2 hc hcl
    obtain ⟨i, R⟩ := y
    have hy : i ≤ (ll.take ln).length ∧ GOK bs.toNat so sb lo lb ((ll.take ln).take i) R ∧ ∀ j, j < i → pgBad bs ps (sl.take sn) (ll.take ln) j = false := hy
    have h1 : (i : Int) < (ln : Int) := of_decide_eq_true h1
    have e1 : ((i : Int) - 1).toNat + 0 = i - 1 := by omega
    have hb : pgBad bs ps (sl.take sn) (ll.take ln) i = false := by
      unfold pgBad
      rw [tk_get (by omega), tk_get (by omega), ← e1]
      exact hc
    have hf := pgBad_no hb
    rw [tk_get (by omega)] at hf
    have hLi : (ll.take ln).take (i + 1) = (ll.take ln).take i ++ [ll.getD i pg0] := by rw [take_snoc (d := pg0) (by rw [tk_len hl.1]; omega), tk_get (by omega)]
    have hbd : ∀ j, j < i + 1 → pgBad bs ps (sl.take sn) (ll.take ln) j = false := by
      intro j hj
      by_cases e : j = i
      · rw [e]; exact hb
      · exact hy.2.2 j (by omega)
    have hcl : ¬ (ll.getD i pg0).cl = 2 := of_decide_eq_true hcl
    exact hf.1
  · rename_i u0 hg u1 u2 u3 y hy h1 v1 v2 hc hcl
    obtain ⟨i, R⟩ := y
    have hy : i ≤ (ll.take ln).length ∧ GOK bs.toNat so sb lo lb ((ll.take ln).take i) R ∧ ∀ j, j < i → pgBad bs ps (sl.take sn) (ll.take ln) j = false := hy
    have h1 : (i : Int) < (ln : Int) := of_decide_eq_true h1
    have e1 : ((i : Int) - 1).toNat + 0 = i - 1 := by omega
    have hb : pgBad bs ps (sl.take sn) (ll.take ln) i = false := by
      unfold pgBad
      rw [tk_get (by omega), tk_get (by omega), ← e1]
      exact hc
    have hf := pgBad_no hb
    rw [tk_get (by omega)] at hf
    have hLi : (ll.take ln).take (i + 1) = (ll.take ln).take i ++ [ll.getD i pg0] := by rw [take_snoc (d := pg0) (by rw [tk_len hl.1]; omega), tk_get (by omega)]
    have hbd : ∀ j, j < i + 1 → pgBad bs ps (sl.take sn) (ll.take ln) j = false := by
      intro j hj
      by_cases e : j = i
      · rw [e]; exact hb
      · exact hy.2.2 j (by omega)
    have hcl : ¬ (ll.getD i pg0).cl = 2 := of_decide_eq_true hcl
    show (ll.getD i pg0).pl.1 < (bs.toNat : Int)
    omega
  · rename_i u0 hg u1 u2 u3 y hy h1 v1 v2 hc hcl
    obtain ⟨i, R⟩ := y
    have hy : i ≤ (ll.take ln).length ∧ GOK bs.toNat so sb lo lb ((ll.take ln).take i) R ∧ ∀ j, j < i → pgBad bs ps (sl.take sn) (ll.take ln) j = false := hy
    have h1 : (i : Int) < (ln : Int) := of_decide_eq_true h1
    have e1 : ((i : Int) - 1).toNat + 0 = i - 1 := by omega
    have hb : pgBad bs ps (sl.take sn) (ll.take ln) i = false := by
      unfold pgBad
      rw [tk_get (by omega), tk_get (by omega), ← e1]
      exact hc
    have hf := pgBad_no hb
    rw [tk_get (by omega)] at hf
    have hLi : (ll.take ln).take (i + 1) = (ll.take ln).take i ++ [ll.getD i pg0] := by rw [take_snoc (d := pg0) (by rw [tk_len hl.1]; omega), tk_get (by omega)]
    have hbd : ∀ j, j < i + 1 → pgBad bs ps (sl.take sn) (ll.take ln) j = false := by
      intro j hj
      by_cases e : j = i
      · rw [e]; exact hb
      · exact hy.2.2 j (by omega)
    have hcl : ¬ (ll.getD i pg0).cl = 2 := of_decide_eq_true hcl
    show (ll.getD i pg0).pl.1.toNat + 0 < R.length
    rw [hy.2.1.len]
    omega
  · rename_i u0 hg u1 u2 u3 y hy h1 v1 v2 hc hcl rA hrA u5
    obtain ⟨i, R⟩ := y
    have hy : i ≤ (ll.take ln).length ∧ GOK bs.toNat so sb lo lb ((ll.take ln).take i) R ∧ ∀ j, j < i → pgBad bs ps (sl.take sn) (ll.take ln) j = false := hy
    have h1 : (i : Int) < (ln : Int) := of_decide_eq_true h1
    have e1 : ((i : Int) - 1).toNat + 0 = i - 1 := by omega
    have hb : pgBad bs ps (sl.take sn) (ll.take ln) i = false := by
      unfold pgBad
      rw [tk_get (by omega), tk_get (by omega), ← e1]
      exact hc
    have hf := pgBad_no hb
    rw [tk_get (by omega)] at hf
    have hLi : (ll.take ln).take (i + 1) = (ll.take ln).take i ++ [ll.getD i pg0] := by rw [take_snoc (d := pg0) (by rw [tk_len hl.1]; omega), tk_get (by omega)]
    have hbd : ∀ j, j < i + 1 → pgBad bs ps (sl.take sn) (ll.take ln) j = false := by
      intro j hj
      by_cases e : j = i
      · rw [e]; exact hb
      · exact hy.2.2 j (by omega)
    have hcl : ¬ (ll.getD i pg0).cl = 2 := of_decide_eq_true hcl
    change Rw Pg at rA
    have hrA : R.getD (ll.getD i pg0).pl.1.toNat Rw.nil = rA := hrA
    have han : (ll.getD i pg0).pl.1.toNat < bs.toNat := by omega
    have hg1 := hy.2.1.row _ han
    have hg2 := hy.2.1.rok _ han
    rw [hrA] at hg1 hg2
    have hgl : rA.l.length < 1000000 := by
      rw [hg1]
      refine Nat.lt_of_le_of_lt blkL_len ?_
      rw [List.length_take, tk_len hl.1]
      omega
    show rA.l.length = rA.l.length ∧ rA.l.length ≤ rA.m ∧ 0 + 1 ≤ _ ∧ 1 = 1 ∧ (rA.l.length + 1) * Tryd.prog.types[55].bytes ≤ _
    rw [byP]
    exact ⟨rfl, hg2.2, (Nat.le_refl 1 : 0 + 1 ≤ 1), rfl, by omega⟩
  · rename_i u0 hg u1 u2 u3 y hy h1 v1 v2 hc hcl rA hrA u5
    obtain ⟨i, R⟩ := y
    have hy : i ≤ (ll.take ln).length ∧ GOK bs.toNat so sb lo lb ((ll.take ln).take i) R ∧ ∀ j, j < i → pgBad bs ps (sl.take sn) (ll.take ln) j = false := hy
    have h1 : (i : Int) < (ln : Int) := of_decide_eq_true h1
    have e1 : ((i : Int) - 1).toNat + 0 = i - 1 := by omega
    have hb : pgBad bs ps (sl.take sn) (ll.take ln) i = false := by
      unfold pgBad
      rw [tk_get (by omega), tk_get (by omega), ← e1]
      exact hc
    have hf := pgBad_no hb
    rw [tk_get (by omega)] at hf
    have hLi : (ll.take ln).take (i + 1) = (ll.take ln).take i ++ [ll.getD i pg0] := by rw [take_snoc (d := pg0) (by rw [tk_len hl.1]; omega), tk_get (by omega)]
    have hbd : ∀ j, j < i + 1 → pgBad bs ps (sl.take sn) (ll.take ln) j = false := by
      intro j hj
      by_cases e : j = i
      · rw [e]; exact hb
      · exact hy.2.2 j (by omega)
    have hcl : ¬ (ll.getD i pg0).cl = 2 := of_decide_eq_true hcl
    change Rw Pg at rA
    have hrA : R.getD (ll.getD i pg0).pl.1.toNat Rw.nil = rA := hrA
    have han : (ll.getD i pg0).pl.1.toNat < bs.toNat := by omega
    have hg1 := hy.2.1.row _ han
    have hg2 := hy.2.1.rok _ han
    rw [hrA] at hg1 hg2
    have hgl : rA.l.length < 1000000 := by
      rw [hg1]
      refine Nat.lt_of_le_of_lt blkL_len ?_
      rw [List.length_take, tk_len hl.1]
      omega
    exact hg2.1
  · rename_i u0 hg u1 u2 u3 y hy h1 v1 v2 hc hcl rA hrA u5
    obtain ⟨i, R⟩ := y
    have hy : i ≤ (ll.take ln).length ∧ GOK bs.toNat so sb lo lb ((ll.take ln).take i) R ∧ ∀ j, j < i → pgBad bs ps (sl.take sn) (ll.take ln) j = false := hy
    have h1 : (i : Int) < (ln : Int) := of_decide_eq_true h1
    have e1 : ((i : Int) - 1).toNat + 0 = i - 1 := by omega
    have hb : pgBad bs ps (sl.take sn) (ll.take ln) i = false := by
      unfold pgBad
      rw [tk_get (by omega), tk_get (by omega), ← e1]
      exact hc
    have hf := pgBad_no hb
    rw [tk_get (by omega)] at hf
    have hLi : (ll.take ln).take (i + 1) = (ll.take ln).take i ++ [ll.getD i pg0] := by rw [take_snoc (d := pg0) (by rw [tk_len hl.1]; omega), tk_get (by omega)]
    have hbd : ∀ j, j < i + 1 → pgBad bs ps (sl.take sn) (ll.take ln) j = false := by
      intro j hj
      by_cases e : j = i
      · rw [e]; exact hb
      · exact hy.2.2 j (by omega)
    have hcl : ¬ (ll.getD i pg0).cl = 2 := of_decide_eq_true hcl
    change Rw Pg at rA
    have hrA : R.getD (ll.getD i pg0).pl.1.toNat Rw.nil = rA := hrA
    have han : (ll.getD i pg0).pl.1.toNat < bs.toNat := by omega
    have hg1 := hy.2.1.row _ han
    have hg2 := hy.2.1.rok _ han
    rw [hrA] at hg1 hg2
    have hgl : rA.l.length < 1000000 := by
      rw [hg1]
      refine Nat.lt_of_le_of_lt blkL_len ?_
      rw [List.length_take, tk_len hl.1]
      omega
    intro hon hroom
    have hon : rA.on = true := hon
    have hfar := hy.2.1.far _ han (by rw [hrA]; exact hon)
    have hex := hy.2.1.excl han (by rw [hrA]; exact hon)
    rw [hrA] at hfar hex
    refine ⟨⟨(ll.getD i pg0).pl.1.toNat, by show _ < R.length; rw [hy.2.1.len]; exact han, ?_, hex⟩, And.intro (fun hso => Ne.symm (hfar.1 hso)) (And.intro (fun hlo => Ne.symm (hfar.2 hlo)) trivial)⟩
    refine Eq.trans (b := rA) hrA ?_
    show rA = ⟨true, rA.b, rA.base, rA.m, rA.l⟩
    rw [← hon]
  · rename_i u0 hg u1 u2 u3 y hy h1 v1 v2 hc hcl rA hrA u5 bA qA cA hcA hS
    obtain ⟨i, R⟩ := y
    have hy : i ≤ (ll.take ln).length ∧ GOK bs.toNat so sb lo lb ((ll.take ln).take i) R ∧ ∀ j, j < i → pgBad bs ps (sl.take sn) (ll.take ln) j = false := hy
    have h1 : (i : Int) < (ln : Int) := of_decide_eq_true h1
    have e1 : ((i : Int) - 1).toNat + 0 = i - 1 := by omega
    have hb : pgBad bs ps (sl.take sn) (ll.take ln) i = false := by
      unfold pgBad
      rw [tk_get (by omega), tk_get (by omega), ← e1]
      exact hc
    have hf := pgBad_no hb
    rw [tk_get (by omega)] at hf
    have hLi : (ll.take ln).take (i + 1) = (ll.take ln).take i ++ [ll.getD i pg0] := by rw [take_snoc (d := pg0) (by rw [tk_len hl.1]; omega), tk_get (by omega)]
    have hbd : ∀ j, j < i + 1 → pgBad bs ps (sl.take sn) (ll.take ln) j = false := by
      intro j hj
      by_cases e : j = i
      · rw [e]; exact hb
      · exact hy.2.2 j (by omega)
    have hcl : ¬ (ll.getD i pg0).cl = 2 := of_decide_eq_true hcl
    change Rw Pg at rA
    have hrA : R.getD (ll.getD i pg0).pl.1.toNat Rw.nil = rA := hrA
    have han : (ll.getD i pg0).pl.1.toNat < bs.toNat := by omega
    have hg1 := hy.2.1.row _ han
    have hg2 := hy.2.1.rok _ han
    rw [hrA] at hg1 hg2
    have hgl : rA.l.length < 1000000 := by
      rw [hg1]
      refine Nat.lt_of_le_of_lt blkL_len ?_
      rw [List.length_take, tk_len hl.1]
      omega
    exact hf.1
  · rename_i u0 hg u1 u2 u3 y hy h1 v1 v2 hc hcl rA hrA u5 bA qA cA hcA hS
    obtain ⟨i, R⟩ := y
    have hy : i ≤ (ll.take ln).length ∧ GOK bs.toNat so sb lo lb ((ll.take ln).take i) R ∧ ∀ j, j < i → pgBad bs ps (sl.take sn) (ll.take ln) j = false := hy
    have h1 : (i : Int) < (ln : Int) := of_decide_eq_true h1
    have e1 : ((i : Int) - 1).toNat + 0 = i - 1 := by omega
    have hb : pgBad bs ps (sl.take sn) (ll.take ln) i = false := by
      unfold pgBad
      rw [tk_get (by omega), tk_get (by omega), ← e1]
      exact hc
    have hf := pgBad_no hb
    rw [tk_get (by omega)] at hf
    have hLi : (ll.take ln).take (i + 1) = (ll.take ln).take i ++ [ll.getD i pg0] := by rw [take_snoc (d := pg0) (by rw [tk_len hl.1]; omega), tk_get (by omega)]
    have hbd : ∀ j, j < i + 1 → pgBad bs ps (sl.take sn) (ll.take ln) j = false := by
      intro j hj
      by_cases e : j = i
      · rw [e]; exact hb
      · exact hy.2.2 j (by omega)
    have hcl : ¬ (ll.getD i pg0).cl = 2 := of_decide_eq_true hcl
    change Rw Pg at rA
    have hrA : R.getD (ll.getD i pg0).pl.1.toNat Rw.nil = rA := hrA
    have han : (ll.getD i pg0).pl.1.toNat < bs.toNat := by omega
    have hg1 := hy.2.1.row _ han
    have hg2 := hy.2.1.rok _ han
    rw [hrA] at hg1 hg2
    have hgl : rA.l.length < 1000000 := by
      rw [hg1]
      refine Nat.lt_of_le_of_lt blkL_len ?_
      rw [List.length_take, tk_len hl.1]
      omega
    show (ll.getD i pg0).pl.1 < (bs.toNat : Int)
    omega
  · rename_i u0 hg u1 u2 u3 y hy h1 v1 v2 hc hcl rA hrA u5 bA qA cA hcA hS
    obtain ⟨i, R⟩ := y
    have hy : i ≤ (ll.take ln).length ∧ GOK bs.toNat so sb lo lb ((ll.take ln).take i) R ∧ ∀ j, j < i → pgBad bs ps (sl.take sn) (ll.take ln) j = false := hy
    have h1 : (i : Int) < (ln : Int) := of_decide_eq_true h1
    have e1 : ((i : Int) - 1).toNat + 0 = i - 1 := by omega
    have hb : pgBad bs ps (sl.take sn) (ll.take ln) i = false := by
      unfold pgBad
      rw [tk_get (by omega), tk_get (by omega), ← e1]
      exact hc
    have hf := pgBad_no hb
    rw [tk_get (by omega)] at hf
    have hLi : (ll.take ln).take (i + 1) = (ll.take ln).take i ++ [ll.getD i pg0] := by rw [take_snoc (d := pg0) (by rw [tk_len hl.1]; omega), tk_get (by omega)]
    have hbd : ∀ j, j < i + 1 → pgBad bs ps (sl.take sn) (ll.take ln) j = false := by
      intro j hj
      by_cases e : j = i
      · rw [e]; exact hb
      · exact hy.2.2 j (by omega)
    have hcl : ¬ (ll.getD i pg0).cl = 2 := of_decide_eq_true hcl
    change Rw Pg at rA
    have hrA : R.getD (ll.getD i pg0).pl.1.toNat Rw.nil = rA := hrA
    have han : (ll.getD i pg0).pl.1.toNat < bs.toNat := by omega
    have hg1 := hy.2.1.row _ han
    have hg2 := hy.2.1.rok _ han
    rw [hrA] at hg1 hg2
    have hgl : rA.l.length < 1000000 := by
      rw [hg1]
      refine Nat.lt_of_le_of_lt blkL_len ?_
      rw [List.length_take, tk_len hl.1]
      omega
    show (ll.getD i pg0).pl.1.toNat + 0 < R.length
    rw [hy.2.1.len]
    omega
  · rename_i u0 hg u1 u2 u3 y hy h1 v1 v2 hc hcl rA hrA u5 bA qA cA hcA hS
    obtain ⟨i, R⟩ := y
    have hy : i ≤ (ll.take ln).length ∧ GOK bs.toNat so sb lo lb ((ll.take ln).take i) R ∧ ∀ j, j < i → pgBad bs ps (sl.take sn) (ll.take ln) j = false := hy
    have h1 : (i : Int) < (ln : Int) := of_decide_eq_true h1
    have e1 : ((i : Int) - 1).toNat + 0 = i - 1 := by omega
    have hb : pgBad bs ps (sl.take sn) (ll.take ln) i = false := by
      unfold pgBad
      rw [tk_get (by omega), tk_get (by omega), ← e1]
      exact hc
    have hf := pgBad_no hb
    rw [tk_get (by omega)] at hf
    have hLi : (ll.take ln).take (i + 1) = (ll.take ln).take i ++ [ll.getD i pg0] := by rw [take_snoc (d := pg0) (by rw [tk_len hl.1]; omega), tk_get (by omega)]
    have hbd : ∀ j, j < i + 1 → pgBad bs ps (sl.take sn) (ll.take ln) j = false := by
      intro j hj
      by_cases e : j = i
      · rw [e]; exact hb
      · exact hy.2.2 j (by omega)
    have hcl : ¬ (ll.getD i pg0).cl = 2 := of_decide_eq_true hcl
    change Rw Pg at rA
    have hrA : R.getD (ll.getD i pg0).pl.1.toNat Rw.nil = rA := hrA
    have han : (ll.getD i pg0).pl.1.toNat < bs.toNat := by omega
    have hg1 := hy.2.1.row _ han
    have hg2 := hy.2.1.rok _ han
    rw [hrA] at hg1 hg2
    have hgl : rA.l.length < 1000000 := by
      rw [hg1]
      refine Nat.lt_of_le_of_lt blkL_len ?_
      rw [List.length_take, tk_len hl.1]
      omega
    show rA.l.length + 1 = (rA.l ++ [ll.getD i pg0]).length
    simp
  · rename_i u0 hg u1 u2 u3 y hy h1 v1 v2 hc hcl rA hrA u5 bA qA cA hcA hS
    obtain ⟨i, R⟩ := y
    have hy : i ≤ (ll.take ln).length ∧ GOK bs.toNat so sb lo lb ((ll.take ln).take i) R ∧ ∀ j, j < i → pgBad bs ps (sl.take sn) (ll.take ln) j = false := hy
    have h1 : (i : Int) < (ln : Int) := of_decide_eq_true h1
    have e1 : ((i : Int) - 1).toNat + 0 = i - 1 := by omega
    have hb : pgBad bs ps (sl.take sn) (ll.take ln) i = false := by
      unfold pgBad
      rw [tk_get (by omega), tk_get (by omega), ← e1]
      exact hc
    have hf := pgBad_no hb
    rw [tk_get (by omega)] at hf
    have hLi : (ll.take ln).take (i + 1) = (ll.take ln).take i ++ [ll.getD i pg0] := by rw [take_snoc (d := pg0) (by rw [tk_len hl.1]; omega), tk_get (by omega)]
    have hbd : ∀ j, j < i + 1 → pgBad bs ps (sl.take sn) (ll.take ln) j = false := by
      intro j hj
      by_cases e : j = i
      · rw [e]; exact hb
      · exact hy.2.2 j (by omega)
    have hcl : ¬ (ll.getD i pg0).cl = 2 := of_decide_eq_true hcl
    change Rw Pg at rA
    have hrA : R.getD (ll.getD i pg0).pl.1.toNat Rw.nil = rA := hrA
    have han : (ll.getD i pg0).pl.1.toNat < bs.toNat := by omega
    have hg1 := hy.2.1.row _ han
    have hg2 := hy.2.1.rok _ han
    rw [hrA] at hg1 hg2
    have hgl : rA.l.length < 1000000 := by
      rw [hg1]
      refine Nat.lt_of_le_of_lt blkL_len ?_
      rw [List.length_take, tk_len hl.1]
      omega
    exact inR64 (by show -9223372036854775808 ≤ (i : Int) + 1; omega) (by show (i : Int) + 1 ≤ 9223372036854775807; omega)
  · rename_i u0 hg u1 u2 u3 y hy h1 v1 v2 hc hcl rA hrA u5 bA qA cA hcA hS
    obtain ⟨i, R⟩ := y
    have hy : i ≤ (ll.take ln).length ∧ GOK bs.toNat so sb lo lb ((ll.take ln).take i) R ∧ ∀ j, j < i → pgBad bs ps (sl.take sn) (ll.take ln) j = false := hy
    have h1 : (i : Int) < (ln : Int) := of_decide_eq_true h1
    have e1 : ((i : Int) - 1).toNat + 0 = i - 1 := by omega
    have hb : pgBad bs ps (sl.take sn) (ll.take ln) i = false := by
      unfold pgBad
      rw [tk_get (by omega), tk_get (by omega), ← e1]
      exact hc
    have hf := pgBad_no hb
    rw [tk_get (by omega)] at hf
    have hLi : (ll.take ln).take (i + 1) = (ll.take ln).take i ++ [ll.getD i pg0] := by rw [take_snoc (d := pg0) (by rw [tk_len hl.1]; omega), tk_get (by omega)]
    have hbd : ∀ j, j < i + 1 → pgBad bs ps (sl.take sn) (ll.take ln) j = false := by
      intro j hj
      by_cases e : j = i
      · rw [e]; exact hb
      · exact hy.2.2 j (by omega)
    have hcl : ¬ (ll.getD i pg0).cl = 2 := of_decide_eq_true hcl
    change Rw Pg at rA
    have hrA : R.getD (ll.getD i pg0).pl.1.toNat Rw.nil = rA := hrA
    have han : (ll.getD i pg0).pl.1.toNat < bs.toNat := by omega
    have hg1 := hy.2.1.row _ han
    have hg2 := hy.2.1.rok _ han
    rw [hrA] at hg1 hg2
    have hgl : rA.l.length < 1000000 := by
      rw [hg1]
      refine Nat.lt_of_le_of_lt blkL_len ?_
      rw [List.length_take, tk_len hl.1]
      omega
    have hput : GOK bs.toNat so sb lo lb ((ll.take ln).take (i + 1)) (R.set (ll.getD i pg0).pl.1.toNat ⟨true, bA, qA, cA, rA.l ++ [ll.getD i pg0]⟩) := by
      rw [hLi, hg1]
      refine hy.2.1.put han (by omega) hcl (by rw [← hg1]; exact hcA) ?_
      rw [hrA]
      rcases hS with hS | hS
      · exact .inl ⟨hS.1, hS.2.2.1⟩
      · have hF := freshL_to hS
        exact .inr ⟨fun hso e => (hF 0 (show 0 < 10 by decide)).1 hso e.symm, fun hlo e => (hF 1 (show 1 < 10 by decide)).1 hlo e.symm, fun r hr => (hF 3 (show 3 < 10 by decide)).2 33 r (.rows hr)⟩
    refine Stands.one (i + 1, R.set (ll.getD i pg0).pl.1.toNat ⟨true, bA, qA, cA, rA.l ++ [ll.getD i pg0]⟩) ⟨⟨by show i + 1 ≤ (ll.take ln).length; rw [tk_len hl.1]; omega, hput, hbd⟩, by show (ll.take ln).length - (i + 1) < (ll.take ln).length - i; rw [tk_len hl.1]; omega, ?_⟩
    ((conv => (arg 1; reduce)); with_reducible repeat' (first | exact Tr.yes_h | refine Tr.and_h ?_ ?_ | refine Tr.imp_h fun _ => ?_ | refine Tr.all_h fun _ => ?_ | refine Tr.lf_h ?_))
    all_goals (first | first | (show Region.lexB _ _ = true; kernel_rfl) | (show planned _ _ = true; kernel_rfl) | exact rfl | exact True.intro | (first | exact key3 | exact zeroB | exact zeroR | exact zeroS | exact ⟨key3, zeroB⟩ | exact ⟨key3, zeroR⟩ | exact ⟨key3, zeroS⟩) | ((try dsimp only [imp, C0, cG, cInt, cPl, cSlot, cPg, gwCodec] at *); (try refine inR64 ?_ ?_) <;> (try simp only [List.length_set, List.length_append, List.length_take, List.length_drop]) <;> omega))
  · rename_i u0 hg u1 u2 u3 y hy h1 v1 v2 hc hcl
    obtain ⟨i, R⟩ := y
    have hy : i ≤ (ll.take ln).length ∧ GOK bs.toNat so sb lo lb ((ll.take ln).take i) R ∧ ∀ j, j < i → pgBad bs ps (sl.take sn) (ll.take ln) j = false := hy
    have h1 : (i : Int) < (ln : Int) := of_decide_eq_true h1
    have e1 : ((i : Int) - 1).toNat + 0 = i - 1 := by omega
    have hb : pgBad bs ps (sl.take sn) (ll.take ln) i = false := by
      unfold pgBad
      rw [tk_get (by omega), tk_get (by omega), ← e1]
      exact hc
    have hf := pgBad_no hb
    rw [tk_get (by omega)] at hf
    have hLi : (ll.take ln).take (i + 1) = (ll.take ln).take i ++ [ll.getD i pg0] := by rw [take_snoc (d := pg0) (by rw [tk_len hl.1]; omega), tk_get (by omega)]
    have hbd : ∀ j, j < i + 1 → pgBad bs ps (sl.take sn) (ll.take ln) j = false := by
      intro j hj
      by_cases e : j = i
      · rw [e]; exact hb
      · exact hy.2.2 j (by omega)
    have hcl : (ll.getD i pg0).cl = 2 := Decidable.of_not_not (of_decide_eq_false hcl)
    exact inR64 (by show -9223372036854775808 ≤ (i : Int) + 1; omega) (by show (i : Int) + 1 ≤ 9223372036854775807; omega)
  · rename_i u0 hg u1 u2 u3 y hy h1 v1 v2 hc hcl
    obtain ⟨i, R⟩ := y
    have hy : i ≤ (ll.take ln).length ∧ GOK bs.toNat so sb lo lb ((ll.take ln).take i) R ∧ ∀ j, j < i → pgBad bs ps (sl.take sn) (ll.take ln) j = false := hy
    have h1 : (i : Int) < (ln : Int) := of_decide_eq_true h1
    have e1 : ((i : Int) - 1).toNat + 0 = i - 1 := by omega
    have hb : pgBad bs ps (sl.take sn) (ll.take ln) i = false := by
      unfold pgBad
      rw [tk_get (by omega), tk_get (by omega), ← e1]
      exact hc
    have hf := pgBad_no hb
    rw [tk_get (by omega)] at hf
    have hLi : (ll.take ln).take (i + 1) = (ll.take ln).take i ++ [ll.getD i pg0] := by rw [take_snoc (d := pg0) (by rw [tk_len hl.1]; omega), tk_get (by omega)]
    have hbd : ∀ j, j < i + 1 → pgBad bs ps (sl.take sn) (ll.take ln) j = false := by
      intro j hj
      by_cases e : j = i
      · rw [e]; exact hb
      · exact hy.2.2 j (by omega)
    have hcl : (ll.getD i pg0).cl = 2 := Decidable.of_not_not (of_decide_eq_false hcl)
    refine Stands.one (i + 1, R) ⟨⟨by show i + 1 ≤ (ll.take ln).length; rw [tk_len hl.1]; omega, by show GOK _ _ _ _ _ ((ll.take ln).take (i + 1)) _; rw [hLi]; exact hy.2.1.no hcl, hbd⟩, by show (ll.take ln).length - (i + 1) < (ll.take ln).length - i; rw [tk_len hl.1]; omega, ?_⟩
    ((conv => (arg 1; reduce)); with_reducible repeat' (first | exact Tr.yes_h | refine Tr.and_h ?_ ?_ | refine Tr.imp_h fun _ => ?_ | refine Tr.all_h fun _ => ?_ | refine Tr.lf_h ?_))
    all_goals (first | first | (show Region.lexB _ _ = true; kernel_rfl) | (show planned _ _ = true; kernel_rfl) | exact rfl | exact True.intro | (first | exact key3 | exact zeroB | exact zeroR | exact zeroS | exact ⟨key3, zeroB⟩ | exact ⟨key3, zeroR⟩ | exact ⟨key3, zeroS⟩) | ((try dsimp only [imp, C0, cG, cInt, cPl, cSlot, cPg, gwCodec] at *); (try refine inR64 ?_ ?_) <;> (try simp only [List.length_set, List.length_append, List.length_take, List.length_drop]) <;> omega))
  · rename_i u0 hg u1 u2 u3 y hy h1
    obtain ⟨i, R⟩ := y
    have hy : i ≤ (ll.take ln).length ∧ GOK bs.toNat so sb lo lb ((ll.take ln).take i) R ∧ ∀ j, j < i → pgBad bs ps (sl.take sn) (ll.take ln) j = false := hy
    have h1 : ¬ (i : Int) < (ln : Int) := of_decide_eq_false h1
    have ei : i = (ll.take ln).length := by have := hy.1; rw [tk_len hl.1] at this ⊢; omega
    have hG : GOK bs.toNat so sb lo lb (ll.take ln) R := by
      have := hy.2.1
      rw [ei, List.take_of_length_le (Nat.le_refl _)] at this
      exact this
    have hM := hG.mem (by rw [tk_len hl.1]; exact hl.2.1)
    have hgr := hG.grid
    have hbn : bs = (bs.toNat : Int) := by omega
    have hx : Cx.ok ⟨u3, 0, bs, ps, ss, so, sb, sq, sl, sn, sc, u1, 0, R, bs.toNat, bs.toNat, u2⟩ :=
      ⟨hbn, hG.len.symm, by show bs.toNat ≤ 64; omega, ⟨by show 0 ≤ ps; omega, hps.2⟩, ⟨by show 0 ≤ ss; omega, hss.2⟩, fun r hr => (hM r hr).1, fun r hr => (hM r hr).2, hs⟩
    exact hx
  · rename_i u0 hg u1 u2 u3 y hy h1 Y1 hY1
    obtain ⟨i, R⟩ := y
    have hy : i ≤ (ll.take ln).length ∧ GOK bs.toNat so sb lo lb ((ll.take ln).take i) R ∧ ∀ j, j < i → pgBad bs ps (sl.take sn) (ll.take ln) j = false := hy
    have h1 : ¬ (i : Int) < (ln : Int) := of_decide_eq_false h1
    have ei : i = (ll.take ln).length := by have := hy.1; rw [tk_len hl.1] at this ⊢; omega
    have hG : GOK bs.toNat so sb lo lb (ll.take ln) R := by
      have := hy.2.1
      rw [ei, List.take_of_length_le (Nat.le_refl _)] at this
      exact this
    have hM := hG.mem (by rw [tk_len hl.1]; exact hl.2.1)
    have hgr := hG.grid
    have hbn : bs = (bs.toNat : Int) := by omega
    have hx : Cx.ok ⟨u3, 0, bs, ps, ss, so, sb, sq, sl, sn, sc, u1, 0, R, bs.toNat, bs.toNat, u2⟩ :=
      ⟨hbn, hG.len.symm, by show bs.toNat ≤ 64; omega, ⟨by show 0 ≤ ps; omega, hps.2⟩, ⟨by show 0 ≤ ss; omega, hss.2⟩, fun r hr => (hM r hr).1, fun r hr => (hM r hr).2, hs⟩
    exact ⟨hx, hY1.1⟩
  · rename_i u0 hg u1 u2 u3 y hy h1 Y1 hY1 Y2 hY2
    obtain ⟨i, R⟩ := y
    have hy : i ≤ (ll.take ln).length ∧ GOK bs.toNat so sb lo lb ((ll.take ln).take i) R ∧ ∀ j, j < i → pgBad bs ps (sl.take sn) (ll.take ln) j = false := hy
    have h1 : ¬ (i : Int) < (ln : Int) := of_decide_eq_false h1
    have ei : i = (ll.take ln).length := by have := hy.1; rw [tk_len hl.1] at this ⊢; omega
    have hG : GOK bs.toNat so sb lo lb (ll.take ln) R := by
      have := hy.2.1
      rw [ei, List.take_of_length_le (Nat.le_refl _)] at this
      exact this
    have hM := hG.mem (by rw [tk_len hl.1]; exact hl.2.1)
    have hgr := hG.grid
    have hbn : bs = (bs.toNat : Int) := by omega
    have hx : Cx.ok ⟨u3, 0, bs, ps, ss, so, sb, sq, sl, sn, sc, u1, 0, R, bs.toNat, bs.toNat, u2⟩ :=
      ⟨hbn, hG.len.symm, by show bs.toNat ≤ 64; omega, ⟨by show 0 ≤ ps; omega, hps.2⟩, ⟨by show 0 ≤ ss; omega, hss.2⟩, fun r hr => (hM r hr).1, fun r hr => (hM r hr).2, hs⟩
    refine ⟨hx, hY1.1, ?_, ?_⟩
    · have h9 := hY2.1
      have e : _ = _ := h9.1
      rw [← e] at h9
      exact h9
    · have e : _ = _ := hY2.1.1
      rw [e]
      exact Nat.le_trans sloL_len (keyL_len ⟨⟨by show 0 ≤ bs; omega, by show bs ≤ 64; omega⟩, ⟨by show 0 ≤ ps; omega, hps.2⟩, ⟨by show 0 ≤ ss; omega, hss.2⟩⟩)
  · rename_i u0 hg u1 u2 u3 y hy h1 Y1 hY1 Y2 hY2 Y3 hY3
    obtain ⟨i, R⟩ := y
    have hy : i ≤ (ll.take ln).length ∧ GOK bs.toNat so sb lo lb ((ll.take ln).take i) R ∧ ∀ j, j < i → pgBad bs ps (sl.take sn) (ll.take ln) j = false := hy
    have h1 : ¬ (i : Int) < (ln : Int) := of_decide_eq_false h1
    have ei : i = (ll.take ln).length := by have := hy.1; rw [tk_len hl.1] at this ⊢; omega
    have hG : GOK bs.toNat so sb lo lb (ll.take ln) R := by
      have := hy.2.1
      rw [ei, List.take_of_length_le (Nat.le_refl _)] at this
      exact this
    have hM := hG.mem (by rw [tk_len hl.1]; exact hl.2.1)
    have hgr := hG.grid
    have hbn : bs = (bs.toNat : Int) := by omega
    have hx : Cx.ok ⟨u3, 0, bs, ps, ss, so, sb, sq, sl, sn, sc, u1, 0, R, bs.toNat, bs.toNat, u2⟩ :=
      ⟨hbn, hG.len.symm, by show bs.toNat ≤ 64; omega, ⟨by show 0 ≤ ps; omega, hps.2⟩, ⟨by show 0 ≤ ss; omega, hss.2⟩, fun r hr => (hM r hr).1, fun r hr => (hM r hr).2, hs⟩
    have hbd : ∀ j, j < (ll.take ln).length → pgBad bs ps (sl.take sn) (ll.take ln) j = false := by
      intro j hj
      exact hy.2.2 j (by omega)
    have hA : Gth (sloS ⟨bs, ps, ss⟩ bs.toNat (R.map fun r => r.l)) Y2.1 ∧ Gth (orfS bs.toNat (R.map fun r => r.l)) Y2.2 := hY2
    have eA : _ = _ := hA.1.1
    have hB : Gth (freS (sl.take sn) bs.toNat (R.map fun r => r.l)) Y3.1 ∧ Gth (numL (dirP (sl.take sn) bs.toNat (R.map fun r => r.l) (nmOf bs.toNat (R.map fun r => r.l)).f (Y2.1.2.2.2.1.take Y2.1.2.2.2.2.1)) bs.toNat) Y3.2 := hY3
    rw [eA] at hB
    have hC : Gth (badL bs.toNat (R.map fun r => r.l)) Y1.2.2 := hY1.2
    have e1 : fTo (mxH Me.seq) allF (R.map fun r => r.l) bs.toNat = (nmOf bs.toNat (gridL bs.toNat (ll.take ln))).s := by rw [← hgr]; rfl
    have e2 : fTo (mxH Me.stamp) allF (R.map fun r => r.l) bs.toNat = (nmOf bs.toNat (gridL bs.toNat (ll.take ln))).t := by rw [← hgr]; rfl
    have e3 : max (fTo (mxH Me.batch) allF (R.map fun r => r.l) bs.toNat) (fTo flH (cntF bs.toNat (R.map fun r => r.l)) (R.map fun r => r.l) bs.toNat) = (nmOf bs.toNat (gridL bs.toNat (ll.take ln))).b := by rw [← hgr]; rfl
    have e4 : fTo flH (cntF bs.toNat (R.map fun r => r.l)) (R.map fun r => r.l) bs.toNat = (nmOf bs.toNat (gridL bs.toNat (ll.take ln))).f := by rw [← hgr]; rfl
    rw [hgr] at hA hB hC
    refine Ends.one (Y2.1, Y3.1, Y3.2, Y1.2.2, Y2.2) ⟨hbd, hA.1, hB.1, hB.2, hC, hA.2⟩ ?_
    ((conv => (arg 1; reduce)); with_reducible repeat' (first | exact Tr.yes_h | refine Tr.and_h ?_ ?_ | refine Tr.imp_h fun _ => ?_ | refine Tr.all_h fun _ => ?_ | refine Tr.lf_h ?_))
    all_goals first | (first | first | (show Region.lexB _ _ = true; kernel_rfl) | (show planned _ _ = true; kernel_rfl) | exact rfl | exact True.intro | (first | exact key3 | exact zeroB | exact zeroR | exact zeroS | exact ⟨key3, zeroB⟩ | exact ⟨key3, zeroR⟩ | exact ⟨key3, zeroS⟩) | ((try dsimp only [imp, C0, cG, cInt, cPl, cSlot, cPg, gwCodec] at *); (try refine inR64 ?_ ?_) <;> (try simp only [List.length_set, List.length_append, List.length_take, List.length_drop]) <;> omega)) | exact e1 | exact e1.symm | exact e2 | exact e2.symm | exact e3 | exact e3.symm | exact e4 | exact e4.symm
end Go.Vx
set_option maxRecDepth 100000
namespace Go.Vx
open Go Go.Proofs
variable [Gl]
theorem samePlace_ok (a b : Pl) : Tells (C := C0) Tryd.prog (.fn 14) [] [.agg (plE a), .agg (plE b)] (.bool (.tm (decide (a.1 = b.1) && decide (a.2 = b.2)))) := by
  refine loc_pc (P := Tryd.prog) (E := ⟨[], [], 17, [], [], []⟩) (L := []) mix Tryd.func14 rfl (by kernel_rfl) (by kernel_rfl) rfl rfl ?_
  ((conv => (arg 1; reduce)); with_reducible repeat' (first | exact Tr.yes_h | refine Tr.and_h ?_ ?_ | refine Tr.imp_h fun _ => ?_ | refine Tr.all_h fun _ => ?_ | refine Tr.lf_h ?_))
  all_goals (first | first | (show Region.lexB _ _ = true; kernel_rfl) | (show planned _ _ = true; kernel_rfl) | exact rfl | exact True.intro | (first | exact key3 | exact zeroB | exact zeroR | exact zeroS | exact ⟨key3, zeroB⟩ | exact ⟨key3, zeroR⟩ | exact ⟨key3, zeroS⟩) | ((try dsimp only [imp, C0, cG, cInt, cPl, cSlot, cPg, gwCodec] at *); (try refine inR64 ?_ ?_) <;> (try simp only [List.length_set, List.length_append, List.length_take, List.length_drop]) <;> omega))
def pcSamePlace : Pc Tryd.prog C0 where
  tg := .fn 14
  X := Pl × Pl
  args x := [.agg (plE x.1), .agg (plE x.2)]
  mem _ := []
  pre _ := True
  res x := .bool (.tm (decide (x.1.1 = x.2.1) && decide (x.1.2 = x.2.2)))
  mat vs _ := match vs with
    | [.agg [.int _ a1, .int _ a2], .agg [.int _ b1, .int _ b2]] => some (((a1, a2), (b1, b2)), [])
    | _ => none
  ok x _ := samePlace_ok x.1 x.2
theorem sameMeta_ok (a b : Me) : Tells (C := C0) Tryd.prog (.fn 16) [] [.agg (meE a), .agg (meE b)] (.bool (.tm (eqMe a b))) := by
  refine loc_pc (P := Tryd.prog) (E := ⟨[], [], 45, [], [], []⟩) (L := []) mix Tryd.func16 rfl (by kernel_rfl) (by kernel_rfl) rfl rfl ?_
  ((conv => (arg 1; reduce)); with_reducible repeat' (first | exact Tr.yes_h | refine Tr.and_h ?_ ?_ | refine Tr.imp_h fun _ => ?_ | refine Tr.all_h fun _ => ?_ | refine Tr.lf_h ?_))
  all_goals (first | first | (show Region.lexB _ _ = true; kernel_rfl) | (show planned _ _ = true; kernel_rfl) | exact rfl | exact True.intro | (first | exact key3 | exact zeroB | exact zeroR | exact zeroS | exact ⟨key3, zeroB⟩ | exact ⟨key3, zeroR⟩ | exact ⟨key3, zeroS⟩) | ((try dsimp only [imp, C0, cG, cInt, cPl, cSlot, cPg, gwCodec] at *); (try refine inR64 ?_ ?_) <;> (try simp only [List.length_set, List.length_append, List.length_take, List.length_drop]) <;> omega))
def pcSameMeta : Pc Tryd.prog C0 where
  tg := .fn 16
  X := Me × Me
  args x := [.agg (meE x.1), .agg (meE x.2)]
  mem _ := []
  pre _ := True
  res x := .bool (.tm (eqMe x.1 x.2))
  mat vs _ := match vs with
    | [.agg [.int _ a1, .int _ a2, .int _ a3, .int _ a4, .int _ a5, .int _ a6], .agg [.int _ b1, .int _ b2, .int _ b3, .int _ b4, .int _ b5, .int _ b6]] => some ((⟨a1, a2, a3, a4, a5, a6⟩, ⟨b1, b2, b3, b4, b5, b6⟩), [])
    | _ => none
  ok x _ := sameMeta_ok x.1 x.2
theorem rnewer_ok (a b : Me) : Tells (C := C0) Tryd.prog (.fn 17) [] [.agg (meE a), .agg (meE b)] (.bool (.tm (newer a b))) := by
  refine loc_pc (P := Tryd.prog) (E := ⟨[], [], 24, [], [], []⟩) (L := []) mix Tryd.func17 rfl (by kernel_rfl) (by kernel_rfl) rfl rfl ?_
  ((conv => (arg 1; reduce)); with_reducible repeat' (first | exact Tr.yes_h | refine Tr.and_h ?_ ?_ | refine Tr.imp_h fun _ => ?_ | refine Tr.all_h fun _ => ?_ | refine Tr.lf_h ?_))
  all_goals (first | first | (show Region.lexB _ _ = true; kernel_rfl) | (show planned _ _ = true; kernel_rfl) | exact rfl | exact True.intro | (first | exact key3 | exact zeroB | exact zeroR | exact zeroS | exact ⟨key3, zeroB⟩ | exact ⟨key3, zeroR⟩ | exact ⟨key3, zeroS⟩) | ((try dsimp only [imp, C0, cG, cInt, cPl, cSlot, cPg, gwCodec] at *); (try refine inR64 ?_ ?_) <;> (try simp only [List.length_set, List.length_append, List.length_take, List.length_drop]) <;> omega))
def pcRnewer : Pc Tryd.prog C0 where
  tg := .fn 17
  X := Me × Me
  args x := [.agg (meE x.1), .agg (meE x.2)]
  mem _ := []
  pre _ := True
  res x := .bool (.tm (newer x.1 x.2))
  mat vs _ := match vs with
    | [.agg [.int _ a1, .int _ a2, .int _ a3, .int _ a4, .int _ a5, .int _ a6], .agg [.int _ b1, .int _ b2, .int _ b3, .int _ b4, .int _ b5, .int _ b6]] => some ((⟨a1, a2, a3, a4, a5, a6⟩, ⟨b1, b2, b3, b4, b5, b6⟩), [])
    | _ => none
  ok x _ := rnewer_ok x.1 x.2
theorem page_ok (b a : Int) (m : Me) : Tells (C := C0) Tryd.prog (.fn 21) [] [.int .i64 b, .int .i64 a, .agg (meE m)] (.agg (pgE ⟨(b, a), 1, m⟩)) := by
  refine loc_pc (P := Tryd.prog) (E := ⟨[], [], 12, [], [], []⟩) (L := []) mix Tryd.func21 rfl (by kernel_rfl) (by kernel_rfl) rfl rfl ?_
  ((conv => (arg 1; reduce)); with_reducible repeat' (first | exact Tr.yes_h | refine Tr.and_h ?_ ?_ | refine Tr.imp_h fun _ => ?_ | refine Tr.all_h fun _ => ?_ | refine Tr.lf_h ?_))
  all_goals (first | first | (show Region.lexB _ _ = true; kernel_rfl) | (show planned _ _ = true; kernel_rfl) | exact rfl | exact True.intro | (first | exact key3 | exact zeroB | exact zeroR | exact zeroS | exact ⟨key3, zeroB⟩ | exact ⟨key3, zeroR⟩ | exact ⟨key3, zeroS⟩) | ((try dsimp only [imp, C0, cG, cInt, cPl, cSlot, cPg, gwCodec] at *); (try refine inR64 ?_ ?_) <;> (try simp only [List.length_set, List.length_append, List.length_take, List.length_drop]) <;> omega))
def pcPage : Pc Tryd.prog C0 where
  tg := .fn 21
  X := Int × Int × Me
  args x := [.int .i64 x.1, .int .i64 x.2.1, .agg (meE x.2.2)]
  mem _ := []
  pre _ := True
  res x := .agg (pgE ⟨(x.1, x.2.1), 1, x.2.2⟩)
  mat vs _ := match vs with
    | [.int _ b, .int _ a, .agg [.int _ a1, .int _ a2, .int _ a3, .int _ a4, .int _ a5, .int _ a6]] => some ((b, a, ⟨a1, a2, a3, a4, a5, a6⟩), [])
    | _ => none
  ok x _ := page_ok x.1 x.2.1 x.2.2
end Go.Vx
set_option maxRecDepth 100000
namespace Go.Vx
open Go Go.Proofs
variable [Gl]
@[irreducible] def ieq (a b : List Int) : Bool := decide (a = b)
theorem ieq_iff {a b : List Int} : ieq a b = true ↔ a = b := by unfold ieq; exact decide_eq_true_iff
theorem ieq_no {a b : List Int} (h : a ≠ b) : ieq a b = false := by unfold ieq; exact decide_eq_false h
theorem ieq_yes {a b : List Int} (h : a = b) : ieq a b = true := ieq_iff.2 h
theorem tk_at {α : Type} {l : List α} {n v : Nat} {d : α} (hv : v < n) : (l.take n).getD v d = l.getD v d := tk_get hv
def Sm {α : Type} (A B : List α) (n : Nat) : Inv' C0 := ⟨4, Nat, fun i => [(5, .int .i64 (i : Int))], fun _ m => m, fun i => i ≤ n ∧ A.take i = B.take i, fun i => n - i⟩
set_option maxHeartbeats 8000000 in
theorem SameInts_ok (o : Bool) (b q : Nat) (l : List Int) (n c : Nat) (o' : Bool) (b' q' : Nat) (l' : List Int) (n' c' : Nat) (h : n ≤ l.length) (h' : n' ≤ l'.length) (hs : n < 140737488355000) (ho : o = false → n = 0 ∧ c = 0) (ho' : o' = false → n' = 0 ∧ c' = 0) :
    Tells (C := C0) Tryd.prog (.fn 22) [⟨b, q, 1, false, some o, .rows 3 l⟩, ⟨b', q', 1, false, some o', .rows 3 l'⟩] [.sl 0 0 n c, .sl 1 0 n' c'] (.bool (.tm (ieq (l.take n) (l'.take n')))) := by
  refine loc_pc (P := Tryd.prog) (E := ⟨[], [], 29, [], [], []⟩) (L := [Sm (l.take n) (l'.take n') n]) mix Tryd.func22 rfl (by kernel_rfl) (by kernel_rfl) rfl rfl ?_
  ((conv => (arg 1; reduce)); with_reducible repeat' (first | exact Tr.yes_h | refine Tr.and_h ?_ ?_ | refine Tr.imp_h fun _ => ?_ | refine Tr.all_h fun _ => ?_ | refine Tr.lf_h ?_))
  all_goals try (first | first | (show Region.lexB _ _ = true; kernel_rfl) | (show planned _ _ = true; kernel_rfl) | exact rfl | exact True.intro | (first | exact key3 | exact zeroB | exact zeroR | exact zeroS | exact ⟨key3, zeroB⟩ | exact ⟨key3, zeroR⟩ | exact ⟨key3, zeroS⟩) | ((try dsimp only [imp, C0, cG, cInt, cPl, cSlot, cPg, gwCodec] at *); (try refine inR64 ?_ ?_) <;> (try simp only [List.length_set, List.length_append, List.length_take, List.length_drop]) <;> omega))
  · rename_i h0
    have h0 := of_decide_eq_true h0
    refine (ieq_no fun he => h0 ?_).symm
    have := congrArg List.length he
    rw [tk_len h, tk_len h'] at this
    omega
  · rename_i h0
    refine Stands.one (0 : Nat) ⟨⟨Nat.zero_le _, rfl⟩, ?_⟩
    ((conv => (arg 1; reduce)); with_reducible repeat' (first | exact Tr.yes_h | refine Tr.and_h ?_ ?_ | refine Tr.imp_h fun _ => ?_ | refine Tr.all_h fun _ => ?_ | refine Tr.lf_h ?_))
    all_goals (first | first | (show Region.lexB _ _ = true; kernel_rfl) | (show planned _ _ = true; kernel_rfl) | exact rfl | exact True.intro | (first | exact key3 | exact zeroB | exact zeroR | exact zeroS | exact ⟨key3, zeroB⟩ | exact ⟨key3, zeroR⟩ | exact ⟨key3, zeroS⟩) | ((try dsimp only [imp, C0, cG, cInt, cPl, cSlot, cPg, gwCodec] at *); (try refine inR64 ?_ ?_) <;> (try simp only [List.length_set, List.length_append, List.length_take, List.length_drop]) <;> omega))
  all_goals try (
    rename_i h0 v hv h1
    change Nat at v
    have h0 := of_decide_eq_false h0
    have h1 := of_decide_eq_true h1
    first
      | (exact on_of ho (by omega))
      | (exact on_of ho' (by omega))
      | (show (v : Int) < (n : Int); omega)
      | (show (v : Int) < (n' : Int); omega)
      | (show (v : Int).toNat < l.length; omega)
      | (show (v : Int).toNat < l'.length; omega)
      | (show (v : Int).toNat + 0 < l.length; omega)
      | (show (v : Int).toNat + 0 < l'.length; omega))
  · rename_i h0 v hv h1 h2
    change Nat at v
    have h1' := of_decide_eq_true h1
    have h0' := of_decide_eq_false h0
    refine (ieq_no fun he => ?_).symm
    have hc := congrArg (fun L : List Int => L.getD v 0) he
    simp only [tk_at (l := l) (n := n) (v := v) (by omega), tk_at (l := l') (n := n') (v := v) (by omega)] at hc
    have h2 : (!decide (l.getD v 0 = l'.getD v 0)) = true := h2
    rw [decide_eq_true hc] at h2
    cases h2
  · rename_i h0 v hv h1 h2
    change Nat at v
    have h1' := of_decide_eq_true h1
    have h0' := of_decide_eq_false h0
    exact inR64 (by show _ ≤ (v : Int) + 1; omega) (by show (v : Int) + 1 ≤ _; omega)
  · rename_i h0 v hv h1 h2
    change Nat at v
    have h1' := of_decide_eq_true h1
    have h0' := of_decide_eq_false h0
    have h2 : (!decide (l.getD v 0 = l'.getD v 0)) = false := h2
    have h2 := of_decide_eq_true (by simpa using h2 : decide (l.getD v 0 = l'.getD v 0) = true)
    refine Stands.one (Nat.succ v) ⟨⟨by show v + 1 ≤ n; omega, ?_⟩, ?_, ?_⟩
    · show (l.take n).take (v + 1) = (l'.take n').take (v + 1)
      rw [take_snoc (d := 0) (by rw [tk_len h]; omega), take_snoc (d := 0) (by rw [tk_len h']; omega), tk_at (by omega), tk_at (by omega), h2, hv.2]
    · show n - (v + 1) < n - v
      omega
    ((conv => (arg 1; reduce)); with_reducible repeat' (first | exact Tr.yes_h | refine Tr.and_h ?_ ?_ | refine Tr.imp_h fun _ => ?_ | refine Tr.all_h fun _ => ?_ | refine Tr.lf_h ?_))
    all_goals (first | first | (show Region.lexB _ _ = true; kernel_rfl) | (show planned _ _ = true; kernel_rfl) | exact rfl | exact True.intro | (first | exact key3 | exact zeroB | exact zeroR | exact zeroS | exact ⟨key3, zeroB⟩ | exact ⟨key3, zeroR⟩ | exact ⟨key3, zeroS⟩) | ((try dsimp only [imp, C0, cG, cInt, cPl, cSlot, cPg, gwCodec] at *); (try refine inR64 ?_ ?_) <;> (try simp only [List.length_set, List.length_append, List.length_take, List.length_drop]) <;> omega))
  · rename_i h0 v hv h1
    change Nat at v
    have h1' := of_decide_eq_false h1
    have h0' := of_decide_eq_false h0
    have hn : n = n' := by omega
    subst hn
    have he := hv.2
    have e1 : (l.take n).take v = l.take n := List.take_of_length_le (by rw [tk_len h]; omega)
    have e2 : (l'.take n).take v = l'.take n := List.take_of_length_le (by rw [tk_len h']; omega)
    exact (ieq_yes (e1.symm.trans (he.trans e2))).symm
def pcSameInts : Pc Tryd.prog C0 where
  tg := .fn 22
  X := (Bool × Nat × Nat × List Int × Nat × Nat) × (Bool × Nat × Nat × List Int × Nat × Nat)
  args := fun ((o, b, q, l, n, c), (o', b', q', l', n', c')) => [.sl 0 0 n c, .sl 1 0 n' c']
  mem := fun ((o, b, q, l, n, c), (o', b', q', l', n', c')) => [⟨b, q, 1, false, some o, .rows 3 l⟩, ⟨b', q', 1, false, some o', .rows 3 l'⟩]
  pre := fun ((o, b, q, l, n, c), (o', b', q', l', n', c')) => n ≤ l.length ∧ n' ≤ l'.length ∧ n < 140737488355000 ∧ (o = false → n = 0 ∧ c = 0) ∧ (o' = false → n' = 0 ∧ c' = 0)
  res := fun ((o, b, q, l, n, c), (o', b', q', l', n', c')) => .bool (.tm (ieq (l.take n) (l'.take n')))
  mat vs m := match vs with
    | [.sl a 0 n c, .sl a' 0 n' c'] => match nth m a, nth m a' with
      | ⟨b, q, _, _, g, .rows 3 l⟩, ⟨b', q', _, _, g', .rows 3 l'⟩ => some (((onOf g, b, q, l, n, c), (onOf g', b', q', l', n', c')), [a, a'])
      | _, _ => none
    | [.nils, .sl a' 0 n' c'] => match nth m a' with
      | ⟨b', q', _, _, g', .rows 3 l'⟩ => some (((false, 0, 0, [], 0, 0), (onOf g', b', q', l', n', c')), [m.length, a'])
      | _ => none
    | [.sl a 0 n c, .nils] => match nth m a with
      | ⟨b, q, _, _, g, .rows 3 l⟩ => some (((onOf g, b, q, l, n, c), (false, 0, 0, [], 0, 0)), [a, m.length])
      | _ => none
    | _ => none
  ok := fun ((o, b, q, l, n, c), (o', b', q', l', n', c')) h => SameInts_ok o b q l n c o' b' q' l' n' c' h.1 h.2.1 h.2.2.1 h.2.2.2.1 h.2.2.2.2
def eqSlot (a b : Slot) : Bool := decide (a.key = b.key) && (decide (a.pl.1 = b.pl.1) && decide (a.pl.2 = b.pl.2)) && eqMe a.me b.me
theorem eqMe_iff {a b : Me} : eqMe a b = true ↔ a = b := by
  obtain ⟨a1, a2, a3, a4, a5, a6⟩ := a
  obtain ⟨b1, b2, b3, b4, b5, b6⟩ := b
  simp [eqMe, and_assoc]
theorem eqSlot_iff {a b : Slot} : eqSlot a b = true ↔ a = b := by
  obtain ⟨a1, ⟨a2, a3⟩, a4⟩ := a
  obtain ⟨b1, ⟨b2, b3⟩, b4⟩ := b
  simp [eqSlot, eqMe_iff, and_assoc]
theorem ne_slot {a b : Slot} : (decide (a.key ≠ b.key) || (!(decide (a.pl.1 = b.pl.1) && decide (a.pl.2 = b.pl.2))) || (!eqMe a.me b.me)) = !eqSlot a b := by
  unfold eqSlot
  by_cases h : a.key = b.key <;> simp [h, Bool.not_and]
end Go.Vx
set_option maxRecDepth 100000
namespace Go.Vx
open Go Go.Proofs
variable [Gl]
def Iz {α : Type} (f : α → Bool) (A : List α) : Inv' C0 := ⟨2, Nat, fun i => [(5, .int .i64 (i : Int))], fun _ m => m, fun i => i ≤ A.length ∧ anyF f (A.take i) = false, fun i => A.length - i⟩
theorem anyF_at {α : Type} {f : α → Bool} {A : List α} {i : Nat} {d : α} (h : i < A.length) (h2 : f (A.getD i d) = true) : anyF f A = true := anyF_iff.2 ⟨_, getD_mem h, h2⟩
def keyIs (k : Int) (s : Slot) : Bool := decide (s.key = k)
theorem find_ok (o : Bool) (b q : Nat) (l : List Slot) (n c : Nat) (x : Int) (h : n ≤ l.length) (hn : n < 4611686018427387904) (ho : o = false → n = 0 ∧ c = 0) :
    Tells (C := C0) Tryd.prog (.fn 18) [⟨b, q, 9, false, some o, .rows 59 l⟩] [.sl 0 0 n c, .int .i64 x] (.int .i64 (ixF (keyIs x) (l.take n))) := by
  have hL := tk_len h
  refine loc_pc (P := Tryd.prog) (E := ⟨[], [], 20, [], [], []⟩) (L := [Iz (keyIs x) (l.take n)]) mix Tryd.func18 rfl (by kernel_rfl) (by kernel_rfl) rfl rfl ?_
  ((conv => (arg 1; reduce)); with_reducible repeat' (first | exact Tr.yes_h | refine Tr.and_h ?_ ?_ | refine Tr.imp_h fun _ => ?_ | refine Tr.all_h fun _ => ?_ | refine Tr.lf_h ?_))
  all_goals try (first | (first | first | (show Region.lexB _ _ = true; kernel_rfl) | (show planned _ _ = true; kernel_rfl) | exact rfl | exact True.intro | (first | exact key3 | exact zeroB | exact zeroR | exact zeroS | exact ⟨key3, zeroB⟩ | exact ⟨key3, zeroR⟩ | exact ⟨key3, zeroS⟩) | ((try dsimp only [imp, C0, cG, cInt, cPl, cSlot, cPg, gwCodec] at *); (try refine inR64 ?_ ?_) <;> (try simp only [List.length_set, List.length_append, List.length_take, List.length_drop]) <;> omega)) | ((try dsimp only [imp, C0, cG, cInt, cPl, cSlot, cPg, gwCodec, Iz] at *); (try simp only [decide_eq_true_eq, decide_eq_false_iff_not, Bool.and_eq_true, Bool.or_eq_true, Bool.or_eq_false_iff, Bool.and_eq_false_iff, Bool.not_eq_true', Bool.not_eq_false', SB.val, List.length_append, List.length_cons, List.length_nil, List.length_take, List.length_drop] at *); (first | omega | exact inR64 (by omega) (by omega) | (refine inR64 ?_ ?_ <;> omega))) | (refine on_of ho ?_; ((try dsimp only [imp, C0, cG, cInt, cPl, cSlot, cPg, gwCodec, Iz] at *); (try simp only [decide_eq_true_eq, decide_eq_false_iff_not, Bool.and_eq_true, Bool.or_eq_true, Bool.or_eq_false_iff, Bool.and_eq_false_iff, Bool.not_eq_true', Bool.not_eq_false', SB.val, List.length_append, List.length_cons, List.length_nil, List.length_take, List.length_drop] at *); (first | omega | exact inR64 (by omega) (by omega) | (refine inR64 ?_ ?_ <;> omega)))))
  · refine Stands.one (0 : Nat) ⟨⟨Nat.zero_le _, anyF_zero⟩, ?_⟩
    ((conv => (arg 1; reduce)); with_reducible repeat' (first | exact Tr.yes_h | refine Tr.and_h ?_ ?_ | refine Tr.imp_h fun _ => ?_ | refine Tr.all_h fun _ => ?_ | refine Tr.lf_h ?_))
    all_goals (first | first | (show Region.lexB _ _ = true; kernel_rfl) | (show planned _ _ = true; kernel_rfl) | exact rfl | exact True.intro | (first | exact key3 | exact zeroB | exact zeroR | exact zeroS | exact ⟨key3, zeroB⟩ | exact ⟨key3, zeroR⟩ | exact ⟨key3, zeroS⟩) | ((try dsimp only [imp, C0, cG, cInt, cPl, cSlot, cPg, gwCodec] at *); (try refine inR64 ?_ ?_) <;> (try simp only [List.length_set, List.length_append, List.length_take, List.length_drop]) <;> omega))
  · rename_i v hv h1 h2
    change Nat at v
    obtain ⟨e1, e2⟩ := hv
    have h1 : v < n := by have := of_decide_eq_true h1; omega
    refine (ixF_at (d := slot0) (by rw [hL]; exact h1) e2 ?_).symm
    rw [tk_get h1]
    exact h2
  · rename_i v hv h1 h2
    change Nat at v
    obtain ⟨e1, e2⟩ := hv
    have h1 : v < n := by have := of_decide_eq_true h1; omega
    refine Stands.one (v + 1 : Nat) ⟨⟨by rw [hL]; exact h1, ?_⟩, ?_, ?_⟩
    · show anyF _ ((l.take n).take (v + 1)) = false
      rw [anyF_snoc (d := slot0) (by rw [hL]; exact h1), e2, tk_get h1]
      exact h2
    · show (l.take n).length - (v + 1) < (l.take n).length - v
      rw [hL]; omega
    ((conv => (arg 1; reduce)); with_reducible repeat' (first | exact Tr.yes_h | refine Tr.and_h ?_ ?_ | refine Tr.imp_h fun _ => ?_ | refine Tr.all_h fun _ => ?_ | refine Tr.lf_h ?_))
    all_goals (first | first | (show Region.lexB _ _ = true; kernel_rfl) | (show planned _ _ = true; kernel_rfl) | exact rfl | exact True.intro | (first | exact key3 | exact zeroB | exact zeroR | exact zeroS | exact ⟨key3, zeroB⟩ | exact ⟨key3, zeroR⟩ | exact ⟨key3, zeroS⟩) | ((try dsimp only [imp, C0, cG, cInt, cPl, cSlot, cPg, gwCodec] at *); (try refine inR64 ?_ ?_) <;> (try simp only [List.length_set, List.length_append, List.length_take, List.length_drop]) <;> omega))
  · rename_i v hv h1
    change Nat at v
    obtain ⟨e1, e2⟩ := hv
    have h1 : ¬ v < n := by have := of_decide_eq_false h1; omega
    rw [List.take_of_length_le (by rw [hL]; omega)] at e2
    exact (ixF_no e2).symm
def pcFind : Pc Tryd.prog C0 where
  tg := .fn 18
  X := Bool × Nat × Nat × List Slot × Nat × Nat × Int
  args := fun (o, b, q, l, n, c, x) => [.sl 0 0 n c, .int .i64 x]
  mem := fun (o, b, q, l, n, c, x) => [⟨b, q, 9, false, some o, .rows 59 l⟩]
  pre := fun (o, b, q, l, n, c, x) => n ≤ l.length ∧ n < 4611686018427387904 ∧ (o = false → n = 0 ∧ c = 0)
  res := fun (o, b, q, l, n, c, x) => .int .i64 (ixF (keyIs x) (l.take n))
  mat vs m := match vs with
    | [.sl a 0 n c, .int _ x] => match nth m a with
      | ⟨b, q, _, _, g, .rows 59 l⟩ => some ((onOf g, b, q, l, n, c, x), [a])
      | _ => none
    | _ => none
  ok := fun (o, b, q, l, n, c, x) h => find_ok o b q l n c x h.1 h.2.1 h.2.2
end Go.Vx
set_option maxRecDepth 100000
namespace Go.Vx
open Go Go.Proofs
variable [Gl]
theorem byMade : Tryd.prog.types[55].bytes = 72 := by kernel_rfl
def MadeI (L : List Pg) : Inv' C0 := ⟨3, Nat × Sq Pg, fun y => [(4, .int .i64 (y.1 : Int)), (3, .sl 1 0 y.2.2.2.2.2.1 y.2.2.2.2.2.2)], fun y m => match m with
  | a :: _ => [a, ⟨y.2.2.1, y.2.2.2.1, 9, true, some y.2.1, .rows 55 y.2.2.2.2.1⟩]
  | m => m, fun y => y.1 ≤ L.length ∧ Gth (L.take y.1) y.2, fun y => L.length - y.1⟩
set_option maxHeartbeats 4000000 in
theorem made_ok (o : Bool) (b q : Nat) (l : List Pg) (n c : Nat) (h : n ≤ l.length) (hn : n < 1000000000) (ho : o = false → n = 0 ∧ c = 0) :
    Does (C := C0) Tryd.prog (.fn 10) [⟨b, q, 9, false, some o, .rows 42 l⟩] [.sl 0 0 n c]
    [⟨Sq Pg, fun y => Gth (l.take n) y, fun y => .sl 1 0 y.2.2.2.2.1 y.2.2.2.2.2, fun y => [⟨b, q, 9, false, some o, .rows 42 l⟩, ⟨y.2.1, y.2.2.1, 9, true, some y.1, .rows 55 y.2.2.2.1⟩]⟩] := by
  have hL := tk_len h
  refine loc_fn (P := Tryd.prog) (E := ⟨[], [], 31, [(5, [0], [.p 0, .p 1, .p 2, .p 3, .p 4, .p 5, .p 6, .p 7, .p 8, .p 9, .p 10, .p 11, .p 12, .p 13, .p 14, .p 15, .p 16, .e 17, .e 18, .p 19])], [], []⟩) (L := [MadeI (l.take n)]) mix Tryd.func10 rfl (by kernel_rfl) (by kernel_rfl) rfl rfl ?_
  ((conv => (arg 1; reduce)); with_reducible repeat' (first | exact Tr.yes_h | refine Tr.and_h ?_ ?_ | refine Tr.imp_h fun _ => ?_ | refine Tr.all_h fun _ => ?_ | refine Tr.lf_h ?_))
  all_goals try (first | first | (show Region.lexB _ _ = true; kernel_rfl) | (show planned _ _ = true; kernel_rfl) | exact rfl | exact True.intro | (first | exact key3 | exact zeroB | exact zeroR | exact zeroS | exact ⟨key3, zeroB⟩ | exact ⟨key3, zeroR⟩ | exact ⟨key3, zeroS⟩) | ((try dsimp only [imp, C0, cG, cInt, cPl, cSlot, cPg, gwCodec] at *); (try refine inR64 ?_ ?_) <;> (try simp only [List.length_set, List.length_append, List.length_take, List.length_drop]) <;> omega))
  · refine Stands.one (0, (false, 0, 0, [], 0, 0)) ⟨⟨Nat.zero_le _, Gth.nil⟩, ?_⟩
    ((conv => (arg 1; reduce)); with_reducible repeat' (first | exact Tr.yes_h | refine Tr.and_h ?_ ?_ | refine Tr.imp_h fun _ => ?_ | refine Tr.all_h fun _ => ?_ | refine Tr.lf_h ?_))
    all_goals (first | first | (show Region.lexB _ _ = true; kernel_rfl) | (show planned _ _ = true; kernel_rfl) | exact rfl | exact True.intro | (first | exact key3 | exact zeroB | exact zeroR | exact zeroS | exact ⟨key3, zeroB⟩ | exact ⟨key3, zeroR⟩ | exact ⟨key3, zeroS⟩) | ((try dsimp only [imp, C0, cG, cInt, cPl, cSlot, cPg, gwCodec] at *); (try refine inR64 ?_ ?_) <;> (try simp only [List.length_set, List.length_append, List.length_take, List.length_drop]) <;> omega))
  all_goals try (
    rename_i y hy h1
    have h1 : (y.1 : Int) < (n : Int) := of_decide_eq_true h1
    first
      | exact on_of ho (by omega)
      | exact h1
      | (show y.1 < l.length; omega))
  · rename_i y hy h1 b2
    obtain ⟨v, o', b', q', l', n', c'⟩ := y
    have h1 : (v : Int) < (n : Int) := of_decide_eq_true h1
    have hG := hy.2.room
    have hnv : n' = v := by
      have e : n' = ((l.take n).take v).length := hG.2.2.1
      rw [List.length_take, hL] at e
      omega
    rw [byMade]
    exact ⟨hG.1, by show 0 + c' ≤ l'.length; have := hG.2.1; omega, by simp, by show (n' + 1) * 72 ≤ _; omega⟩
  · rename_i y hy h1 b2
    exact hy.2.room.2.2.2
  · rename_i y hy h1 b2 b3 b4 sp c' h3 h4
    obtain ⟨v, o', b', q', l', n', c0⟩ := y
    have h1 : (v : Int) < (n : Int) := of_decide_eq_true h1
    exact inR64 (by show -9223372036854775808 ≤ (v : Int) + 1; omega) (by show (v : Int) + 1 ≤ 9223372036854775807; omega)
  · rename_i y hy h1 b2 b3 b4 sp c' h3 h4
    obtain ⟨v, o', b', q', l', n', c0⟩ := y
    obtain ⟨e1, hG⟩ := hy
    have h1 : (v : Int) < (n : Int) := of_decide_eq_true h1
    change List Pg at sp
    refine Stands.one ((v + 1, (true, b3, b4, l'.take n' ++ [l.getD v pg0] ++ sp, n' + 1, c')) : Nat × Sq Pg) ⟨⟨by show v + 1 ≤ (l.take n).length; omega, ?_⟩, ?_, ?_⟩
    · show Gth ((l.take n).take (v + 1)) _
      rw [take_snoc (d := pg0) (by omega), tk_get (by omega)]
      exact hG.snoc h3 h4
    · show (l.take n).length - (v + 1) < (l.take n).length - v
      omega
    ((conv => (arg 1; reduce)); with_reducible repeat' (first | exact Tr.yes_h | refine Tr.and_h ?_ ?_ | refine Tr.imp_h fun _ => ?_ | refine Tr.all_h fun _ => ?_ | refine Tr.lf_h ?_))
    all_goals (first | first | (show Region.lexB _ _ = true; kernel_rfl) | (show planned _ _ = true; kernel_rfl) | exact rfl | exact True.intro | (first | exact key3 | exact zeroB | exact zeroR | exact zeroS | exact ⟨key3, zeroB⟩ | exact ⟨key3, zeroR⟩ | exact ⟨key3, zeroS⟩) | ((try dsimp only [imp, C0, cG, cInt, cPl, cSlot, cPg, gwCodec] at *); (try refine inR64 ?_ ?_) <;> (try simp only [List.length_set, List.length_append, List.length_take, List.length_drop]) <;> omega))
  · rename_i y hy h1
    obtain ⟨v, o', b', q', l', n', c0⟩ := y
    obtain ⟨e1, hG⟩ := hy
    have h1 : ¬ (v : Int) < (n : Int) := of_decide_eq_false h1
    have e1 : v ≤ (l.take n).length := e1
    have hG : Gth ((l.take n).take v) (o', b', q', l', n', c0) := hG
    rw [List.take_of_length_le (by omega)] at hG
    refine Ends.one ((o', b', q', l', n', c0) : Sq Pg) hG ?_
    ((conv => (arg 1; reduce)); with_reducible repeat' (first | exact Tr.yes_h | refine Tr.and_h ?_ ?_ | refine Tr.imp_h fun _ => ?_ | refine Tr.all_h fun _ => ?_ | refine Tr.lf_h ?_))
    all_goals (first | first | (show Region.lexB _ _ = true; kernel_rfl) | (show planned _ _ = true; kernel_rfl) | exact rfl | exact True.intro | (first | exact key3 | exact zeroB | exact zeroR | exact zeroS | exact ⟨key3, zeroB⟩ | exact ⟨key3, zeroR⟩ | exact ⟨key3, zeroS⟩) | ((try dsimp only [imp, C0, cG, cInt, cPl, cSlot, cPg, gwCodec] at *); (try refine inR64 ?_ ?_) <;> (try simp only [List.length_set, List.length_append, List.length_take, List.length_drop]) <;> omega))
def fcMade : Fc Tryd.prog C0 where
  tg := .fn 10
  X := Bool × Nat × Nat × List Pg × Nat × Nat
  args := fun (o, b, q, l, n, c) => [.sl 0 0 n c]
  mem := fun (o, b, q, l, n, c) => [⟨b, q, 9, false, some o, .rows 42 l⟩]
  pre := fun (o, b, q, l, n, c) => n ≤ l.length ∧ n < 1000000000 ∧ (o = false → n = 0 ∧ c = 0)
  alts := fun (o, b, q, l, n, c) => [⟨Sq Pg, fun y => Gth (l.take n) y, fun y => .sl 1 0 y.2.2.2.2.1 y.2.2.2.2.2, fun y => [⟨b, q, 9, false, some o, .rows 42 l⟩, ⟨y.2.1, y.2.2.1, 9, true, some y.1, .rows 55 y.2.2.2.1⟩]⟩]
  mat vs m := match vs with
    | [.sl a 0 n c] => match nth m a with
      | ⟨b, q, _, _, g, .rows 42 l⟩ => some ((onOf g, b, q, l, n, c), [a])
      | _ => none
    | [.nils] => some ((false, 0, 0, [], 0, 0), [m.length])
    | _ => none
  ok := fun (o, b, q, l, n, c) h => made_ok o b q l n c h.1 h.2.1 h.2.2
theorem bySlotsC : Tryd.prog.types[59].bytes = 72 := by kernel_rfl
def SlotscI (L : List Slot) : Inv' C0 := ⟨3, Nat × Sq Slot, fun y => [(4, .int .i64 (y.1 : Int)), (3, .sl 1 0 y.2.2.2.2.2.1 y.2.2.2.2.2.2)], fun y m => match m with
  | a :: _ => [a, ⟨y.2.2.1, y.2.2.2.1, 9, true, some y.2.1, .rows 59 y.2.2.2.2.1⟩]
  | m => m, fun y => y.1 ≤ L.length ∧ Gth (L.take y.1) y.2, fun y => L.length - y.1⟩
set_option maxHeartbeats 4000000 in
theorem slotsC_ok (o : Bool) (b q : Nat) (l : List Slot) (n c : Nat) (h : n ≤ l.length) (hn : n < 1000000000) (ho : o = false → n = 0 ∧ c = 0) :
    Does (C := C0) Tryd.prog (.fn 19) [⟨b, q, 9, false, some o, .rows 40 l⟩] [.sl 0 0 n c]
    [⟨Sq Slot, fun y => Gth (l.take n) y, fun y => .sl 1 0 y.2.2.2.2.1 y.2.2.2.2.2, fun y => [⟨b, q, 9, false, some o, .rows 40 l⟩, ⟨y.2.1, y.2.2.1, 9, true, some y.1, .rows 59 y.2.2.2.1⟩]⟩] := by
  have hL := tk_len h
  refine loc_fn (P := Tryd.prog) (E := ⟨[], [], 31, [(5, [0], [.p 0, .p 1, .p 2, .p 3, .p 4, .p 5, .p 6, .p 7, .p 8, .p 9, .p 10, .p 11, .p 12, .p 13, .p 14, .p 15, .p 16, .e 17, .e 18, .p 19])], [], []⟩) (L := [SlotscI (l.take n)]) mix Tryd.func19 rfl (by kernel_rfl) (by kernel_rfl) rfl rfl ?_
  ((conv => (arg 1; reduce)); with_reducible repeat' (first | exact Tr.yes_h | refine Tr.and_h ?_ ?_ | refine Tr.imp_h fun _ => ?_ | refine Tr.all_h fun _ => ?_ | refine Tr.lf_h ?_))
  all_goals try (first | first | (show Region.lexB _ _ = true; kernel_rfl) | (show planned _ _ = true; kernel_rfl) | exact rfl | exact True.intro | (first | exact key3 | exact zeroB | exact zeroR | exact zeroS | exact ⟨key3, zeroB⟩ | exact ⟨key3, zeroR⟩ | exact ⟨key3, zeroS⟩) | ((try dsimp only [imp, C0, cG, cInt, cPl, cSlot, cPg, gwCodec] at *); (try refine inR64 ?_ ?_) <;> (try simp only [List.length_set, List.length_append, List.length_take, List.length_drop]) <;> omega))
  · refine Stands.one (0, (false, 0, 0, [], 0, 0)) ⟨⟨Nat.zero_le _, Gth.nil⟩, ?_⟩
    ((conv => (arg 1; reduce)); with_reducible repeat' (first | exact Tr.yes_h | refine Tr.and_h ?_ ?_ | refine Tr.imp_h fun _ => ?_ | refine Tr.all_h fun _ => ?_ | refine Tr.lf_h ?_))
    all_goals (first | first | (show Region.lexB _ _ = true; kernel_rfl) | (show planned _ _ = true; kernel_rfl) | exact rfl | exact True.intro | (first | exact key3 | exact zeroB | exact zeroR | exact zeroS | exact ⟨key3, zeroB⟩ | exact ⟨key3, zeroR⟩ | exact ⟨key3, zeroS⟩) | ((try dsimp only [imp, C0, cG, cInt, cPl, cSlot, cPg, gwCodec] at *); (try refine inR64 ?_ ?_) <;> (try simp only [List.length_set, List.length_append, List.length_take, List.length_drop]) <;> omega))
  all_goals try (
    rename_i y hy h1
    have h1 : (y.1 : Int) < (n : Int) := of_decide_eq_true h1
    first
      | exact on_of ho (by omega)
      | exact h1
      | (show y.1 < l.length; omega))
  · rename_i y hy h1 b2
    obtain ⟨v, o', b', q', l', n', c'⟩ := y
    have h1 : (v : Int) < (n : Int) := of_decide_eq_true h1
    have hG := hy.2.room
    have hnv : n' = v := by
      have e : n' = ((l.take n).take v).length := hG.2.2.1
      rw [List.length_take, hL] at e
      omega
    rw [bySlotsC]
    exact ⟨hG.1, by show 0 + c' ≤ l'.length; have := hG.2.1; omega, by simp, by show (n' + 1) * 72 ≤ _; omega⟩
  · rename_i y hy h1 b2
    exact hy.2.room.2.2.2
  · rename_i y hy h1 b2 b3 b4 sp c' h3 h4
    obtain ⟨v, o', b', q', l', n', c0⟩ := y
    have h1 : (v : Int) < (n : Int) := of_decide_eq_true h1
    exact inR64 (by show -9223372036854775808 ≤ (v : Int) + 1; omega) (by show (v : Int) + 1 ≤ 9223372036854775807; omega)
  · rename_i y hy h1 b2 b3 b4 sp c' h3 h4
    obtain ⟨v, o', b', q', l', n', c0⟩ := y
    obtain ⟨e1, hG⟩ := hy
    have h1 : (v : Int) < (n : Int) := of_decide_eq_true h1
    change List Slot at sp
    refine Stands.one ((v + 1, (true, b3, b4, l'.take n' ++ [l.getD v slot0] ++ sp, n' + 1, c')) : Nat × Sq Slot) ⟨⟨by show v + 1 ≤ (l.take n).length; omega, ?_⟩, ?_, ?_⟩
    · show Gth ((l.take n).take (v + 1)) _
      rw [take_snoc (d := slot0) (by omega), tk_get (by omega)]
      exact hG.snoc h3 h4
    · show (l.take n).length - (v + 1) < (l.take n).length - v
      omega
    ((conv => (arg 1; reduce)); with_reducible repeat' (first | exact Tr.yes_h | refine Tr.and_h ?_ ?_ | refine Tr.imp_h fun _ => ?_ | refine Tr.all_h fun _ => ?_ | refine Tr.lf_h ?_))
    all_goals (first | first | (show Region.lexB _ _ = true; kernel_rfl) | (show planned _ _ = true; kernel_rfl) | exact rfl | exact True.intro | (first | exact key3 | exact zeroB | exact zeroR | exact zeroS | exact ⟨key3, zeroB⟩ | exact ⟨key3, zeroR⟩ | exact ⟨key3, zeroS⟩) | ((try dsimp only [imp, C0, cG, cInt, cPl, cSlot, cPg, gwCodec] at *); (try refine inR64 ?_ ?_) <;> (try simp only [List.length_set, List.length_append, List.length_take, List.length_drop]) <;> omega))
  · rename_i y hy h1
    obtain ⟨v, o', b', q', l', n', c0⟩ := y
    obtain ⟨e1, hG⟩ := hy
    have h1 : ¬ (v : Int) < (n : Int) := of_decide_eq_false h1
    have e1 : v ≤ (l.take n).length := e1
    have hG : Gth ((l.take n).take v) (o', b', q', l', n', c0) := hG
    rw [List.take_of_length_le (by omega)] at hG
    refine Ends.one ((o', b', q', l', n', c0) : Sq Slot) hG ?_
    ((conv => (arg 1; reduce)); with_reducible repeat' (first | exact Tr.yes_h | refine Tr.and_h ?_ ?_ | refine Tr.imp_h fun _ => ?_ | refine Tr.all_h fun _ => ?_ | refine Tr.lf_h ?_))
    all_goals (first | first | (show Region.lexB _ _ = true; kernel_rfl) | (show planned _ _ = true; kernel_rfl) | exact rfl | exact True.intro | (first | exact key3 | exact zeroB | exact zeroR | exact zeroS | exact ⟨key3, zeroB⟩ | exact ⟨key3, zeroR⟩ | exact ⟨key3, zeroS⟩) | ((try dsimp only [imp, C0, cG, cInt, cPl, cSlot, cPg, gwCodec] at *); (try refine inR64 ?_ ?_) <;> (try simp only [List.length_set, List.length_append, List.length_take, List.length_drop]) <;> omega))
def fcSlotsc : Fc Tryd.prog C0 where
  tg := .fn 19
  X := Bool × Nat × Nat × List Slot × Nat × Nat
  args := fun (o, b, q, l, n, c) => [.sl 0 0 n c]
  mem := fun (o, b, q, l, n, c) => [⟨b, q, 9, false, some o, .rows 40 l⟩]
  pre := fun (o, b, q, l, n, c) => n ≤ l.length ∧ n < 1000000000 ∧ (o = false → n = 0 ∧ c = 0)
  alts := fun (o, b, q, l, n, c) => [⟨Sq Slot, fun y => Gth (l.take n) y, fun y => .sl 1 0 y.2.2.2.2.1 y.2.2.2.2.2, fun y => [⟨b, q, 9, false, some o, .rows 40 l⟩, ⟨y.2.1, y.2.2.1, 9, true, some y.1, .rows 59 y.2.2.2.1⟩]⟩]
  mat vs m := match vs with
    | [.sl a 0 n c] => match nth m a with
      | ⟨b, q, _, _, g, .rows 40 l⟩ => some ((onOf g, b, q, l, n, c), [a])
      | _ => none
    | [.nils] => some ((false, 0, 0, [], 0, 0), [m.length])
    | _ => none
  ok := fun (o, b, q, l, n, c) h => slotsC_ok o b q l n c h.1 h.2.1 h.2.2
end Go.Vx
set_option maxRecDepth 100000
namespace Go.Vx
open Go Go.Proofs
variable [Gl]
abbrev sqN {α : Type} : Sq α := (false, 0, 0, [], 0, 0)
def OfPre : Int × Int × Int × Sq Int × Sq Pg → Prop
  | (bs, ps, ss, s, l) => (1 ≤ bs ∧ bs ≤ 64) ∧ (1 ≤ ps ∧ ps ≤ 64) ∧ (1 ≤ ss ∧ ss ≤ 536870912) ∧
    (s.2.2.2.2.1 ≤ s.2.2.2.1.length ∧ s.2.2.2.2.1 < 1000000000 ∧ (s.1 = false → s.2.2.2.2.1 = 0 ∧ s.2.2.2.2.2 = 0)) ∧
    (l.2.2.2.2.1 ≤ l.2.2.2.1.length ∧ l.2.2.2.2.1 < 1000000 ∧ (l.1 = false → l.2.2.2.2.1 = 0 ∧ l.2.2.2.2.2 = 0))
noncomputable def fcOf : Fc Tryd.prog C0 where
  tg := .fn 9
  X := Int × Int × Int × Sq Int × Sq Pg
  args := fun (bs, ps, ss, s, l) => [.int .i64 bs, .int .i64 ps, .int .i64 ss, svI 0 s, svP 1 l]
  mem := fun (bs, ps, ss, s, l) => [chK s, chP l]
  pre := OfPre
  alts := fun (bs, ps, ss, s, l) => [⟨Sq Slot × Sq Int × Sq Int × Sq Int × Sq Pl, OfS ⟨bs, ps, ss⟩ s.li l.li,
      fun y => .tup [resA (nmOf bs.toNat (gridL bs.toNat l.li)) y.1 y.2.1 y.2.2.1 y.2.2.2.1 y.2.2.2.2, .nili],
      fun y => [chK s, chP l, chL y.1, chI y.2.1, chI y.2.2.1, chI y.2.2.2.1, chO y.2.2.2.2]⟩,
     ⟨Unit, fun _ => ∃ j, j < l.li.length ∧ pgBad bs ps s.li l.li j = true, fun _ => .tup [resN, errSV 0], fun _ => [chK s, chP l]⟩]
  mat vs m := match vs with
    | [.int _ bs, .int _ ps, .int _ ss, .nils, .sl a 0 n c] => match nth m a with
      | ⟨b, q, _, _, g, .rows 55 l⟩ => some ((bs, ps, ss, sqN, (onOf g, b, q, l, n, c)), [m.length, a])
      | _ => none
    | [.int _ bs, .int _ ps, .int _ ss, .nils, .nils] => some ((bs, ps, ss, sqN, sqN), [m.length, m.length + 1])
    | _ => none
  ok := fun (bs, ps, ss, s, l) h => of_ok bs ps ss h.1 h.2.1 h.2.2.1 s l h.2.2.2.1 h.2.2.2.2
abbrev fl1 : List Pg := [⟨(0, 0), 1, ⟨1, 0, 0, 1, 0, 0⟩⟩, ⟨(0, 1), 1, ⟨2, 2, 5, 2, 0, 0⟩⟩, ⟨(0, 2), 1, ⟨2, 2, 6, 3, 1, 0⟩⟩]
abbrev fl2 : List Pg := fl1 ++ [⟨(1, 0), 1, ⟨1, 1, 0, 4, 0, 0⟩⟩, ⟨(1, 1), 1, ⟨4, 1, 7, 5, 1, 0⟩⟩]
theorem bad_all {bs ps : Int} {L : List Pg} (h : (List.range L.length).all (fun j => !pgBad bs ps [] L j) = true) : ∀ j, j < L.length → pgBad bs ps [] L j = false := by
  intro j hj
  exact not_t (List.all_eq_true.1 h j (List.mem_range.2 hj))
theorem fl1_bad : ∀ j, j < fl1.length → pgBad 2 3 [] fl1 j = false := bad_all (by kernel_rfl)
theorem fl2_bad : ∀ j, j < fl2.length → pgBad 2 3 [] fl2 j = false := bad_all (by kernel_rfl)
theorem fl1_S : sloS ⟨2, 3, 4⟩ 2 (gridL 2 fl1) = [⟨2, (0, 1), ⟨2, 2, 5, 2, 0, 0⟩⟩] := by kernel_rfl
theorem fl1_F : freS [] 2 (gridL 2 fl1) = [1] := by kernel_rfl
theorem fl1_D : dirS ⟨2, 3, 4⟩ [] 2 (gridL 2 fl1) = [0] := by kernel_rfl
theorem fl1_O : orfS 2 (gridL 2 fl1) = [(0, 2)] := by kernel_rfl
theorem fl2_S : sloS ⟨2, 3, 4⟩ 2 (gridL 2 fl2) = [⟨2, (0, 2), ⟨2, 2, 6, 3, 1, 0⟩⟩, ⟨9, (1, 1), ⟨4, 1, 7, 5, 1, 0⟩⟩] := by kernel_rfl
theorem fl2_D : dirS ⟨2, 3, 4⟩ [] 2 (gridL 2 fl2) = [] := by kernel_rfl
theorem fl2_f : (nmOf 2 (gridL 2 fl2)).f = 1 := by kernel_rfl
theorem Gth.n {α : Type} {A : List α} {y : Sq α} (h : Gth A y) : y.2.2.2.2.1 = A.length := h.2.1.symm
theorem Gth.tk {α : Type} {A : List α} {y : Sq α} (h : Gth A y) : y.2.2.2.1.take y.2.2.2.2.1 = A := h.1
theorem Gth.le {α : Type} {A : List α} {y : Sq α} (h : Gth A y) : y.2.2.2.2.1 ≤ y.2.2.2.1.length := Nat.le_trans h.2.2.1 h.2.2.2.1
theorem Gth.off {α : Type} {A : List α} {y : Sq α} (h : Gth A y) : y.1 = false → y.2.2.2.2.1 = 0 ∧ y.2.2.2.2.2 = 0 := h.2.2.2.2
theorem Gth.on {α : Type} {A : List α} {y : Sq α} (h : Gth A y) (hA : 0 < A.length) : y.1 = true := on_of h.off (by rw [h.n]; exact hA)
theorem Gth.get {α : Type} {A : List α} {y : Sq α} (h : Gth A y) {i : Nat} {d : α} (hi : i < A.length) : y.2.2.2.1.getD i d = A.getD i d := by
  rw [← h.tk, tk_get (by rw [h.n]; exact hi)]
structure F1 (y : Sq Slot × Sq Int × Sq Int × Sq Int × Sq Pl) : Prop where
  S : Gth [⟨2, (0, 1), ⟨2, 2, 5, 2, 0, 0⟩⟩] y.1
  F : Gth [1] y.2.1
  D : Gth [0] y.2.2.1
  O : Gth [(0, 2)] y.2.2.2.2
theorem F1.of {y : Sq Slot × Sq Int × Sq Int × Sq Int × Sq Pl} (h : OfS ⟨2, 3, 4⟩ [] fl1 y) : F1 y := ⟨by rw [← fl1_S]; exact h.2.1, by rw [← fl1_F]; exact h.2.2.1, by rw [← fl1_D]; exact h.2.2.2.1, by rw [← fl1_O]; exact h.2.2.2.2.2⟩
structure F2 (y : Sq Slot × Sq Int × Sq Int × Sq Int × Sq Pl) : Prop where
  S : Gth [⟨2, (0, 2), ⟨2, 2, 6, 3, 1, 0⟩⟩, ⟨9, (1, 1), ⟨4, 1, 7, 5, 1, 0⟩⟩] y.1
  D : Gth [] y.2.2.1
theorem F2.of {y : Sq Slot × Sq Int × Sq Int × Sq Int × Sq Pl} (h : OfS ⟨2, 3, 4⟩ [] fl2 y) : F2 y := ⟨by rw [← fl2_S]; exact h.2.1, by rw [← fl2_D]; exact h.2.2.2.1⟩
theorem first_ok : Tells (C := C0) Tryd.prog (.fn 8) [] [] (.bool .t) := by
  refine loc_pc (P := Tryd.prog) (E := ⟨[fcOf], [pcPage, pcSameInts], 103, [], [], []⟩) (L := []) mix Tryd.func8 rfl (by kernel_rfl) (by kernel_rfl) rfl rfl ?_
  ((conv => (arg 1; reduce)); with_reducible repeat' (first | exact Tr.yes_h | refine Tr.and_h ?_ ?_ | refine Tr.imp_h fun _ => ?_ | refine Tr.all_h fun _ => ?_ | refine Tr.lf_h ?_))
  all_goals try (first | first | (show Region.lexB _ _ = true; kernel_rfl) | (show planned _ _ = true; kernel_rfl) | exact rfl | exact True.intro | (first | exact key3 | exact zeroB | exact zeroR | exact zeroS | exact ⟨key3, zeroB⟩ | exact ⟨key3, zeroR⟩ | exact ⟨key3, zeroS⟩) | ((try dsimp only [imp, C0, cG, cInt, cPl, cSlot, cPg, gwCodec] at *); (try refine inR64 ?_ ?_) <;> (try simp only [List.length_set, List.length_append, List.length_take, List.length_drop]) <;> omega))
  · exact ⟨by decide, by decide, by decide, ⟨Nat.le_refl 0, by decide, fun _ => ⟨rfl, rfl⟩⟩, (Nat.le_refl 3 : 3 ≤ 3), (by decide : 3 < 1000000), fun h => Bool.noConfusion h⟩
  · rename_i b0 y1 h1 c1 d1
    exact (F1.of h1).S.on (by decide)
  · rename_i b0 y1 h1 c1 d1
    show (0 : Int) < ((y1.1.2.2.2.2.1 : Nat) : Int)
    rw [(F1.of h1).S.n]; decide
  · rename_i b0 y1 h1 c1 d1
    exact (F1.of h1).S.on (by decide)
  · rename_i b0 y1 h1 c1 d1
    exact Nat.lt_of_lt_of_le (by rw [(F1.of h1).S.n]; decide : 0 < y1.1.2.2.2.2.1) (F1.of h1).S.le
  · rename_i b0 y1 h1 c1 d1
    have f1 : F1 y1 := F1.of h1
    have d1 : (decide (((y1.1.2.2.2.2.1 : Nat) : Int) ≠ 1) || decide ((y1.1.2.2.2.1.getD 0 slot0).pl.2 ≠ 1)) = true := d1
    rw [f1.S.n, f1.S.get (d := slot0) (by decide)] at d1
    exact absurd d1 (by decide)
  · rename_i b0 y1 h1 c1 d1 u1
    have f1 : F1 y1 := F1.of h1
    exact ⟨f1.D.le, Nat.le_refl 1, by rw [f1.D.n]; decide, f1.D.off, fun h => Bool.noConfusion h⟩
  · rename_i b0 y1 h1 c1 d1 u1 d2
    have f1 : F1 y1 := F1.of h1
    have d2 : (!ieq (y1.2.2.1.2.2.2.1.take y1.2.2.1.2.2.2.2.1) [0] || decide (((y1.2.2.2.2.2.2.2.2.1 : Nat) : Int) ≠ 1)) = true := d2
    rw [f1.D.tk, f1.O.n, ieq_yes rfl] at d2
    exact absurd d2 (by decide)
  · rename_i b0 y1 h1 c1 d1 u1 d2 u2
    have f1 : F1 y1 := F1.of h1
    exact ⟨f1.F.le, Nat.le_refl 1, by rw [f1.F.n]; decide, f1.F.off, fun h => Bool.noConfusion h⟩
  · rename_i b0 y1 h1 c1 d1 u1 d2 u2 d3
    have f1 : F1 y1 := F1.of h1
    have d3 : (!ieq (y1.2.1.2.2.2.1.take y1.2.1.2.2.2.2.1) [1]) = true := d3
    rw [f1.F.tk, ieq_yes rfl] at d3
    exact absurd d3 (by decide)
  · refine ⟨Nat.le_refl 3, (Nat.le_refl 3 : 0 + 3 ≤ 3), (Nat.le_refl 2 : 0 + 2 ≤ 2), ?_⟩
    show (3 + 2) * Tryd.prog.types[55].bytes ≤ _
    rw [byP]; decide
  · rename_i b0 y1 h1 c1 d1 u1 d2 u2 d3 u3 b9 q9 sp cp e1 e2
    exact ⟨by decide, by decide, by decide, ⟨Nat.le_refl 0, by decide, fun _ => ⟨rfl, rfl⟩⟩, (by show 5 ≤ (fl2 ++ sp).length; rw [List.length_append]; exact Nat.le_add_right 5 _), (by decide : 5 < 1000000), fun h => Bool.noConfusion h⟩
  · rename_i b0 y1 h1 c1 d1 u1 d2 u2 d3 u3 b9 q9 sp cp e1 e2 y2 h2 c2 d4
    exact (F2.of h2).S.on (by decide)
  · rename_i b0 y1 h1 c1 d1 u1 d2 u2 d3 u3 b9 q9 sp cp e1 e2 y2 h2 c2 d4
    show (0 : Int) < ((y2.1.2.2.2.2.1 : Nat) : Int)
    rw [(F2.of h2).S.n]; decide
  · rename_i b0 y1 h1 c1 d1 u1 d2 u2 d3 u3 b9 q9 sp cp e1 e2 y2 h2 c2 d4
    exact (F2.of h2).S.on (by decide)
  · rename_i b0 y1 h1 c1 d1 u1 d2 u2 d3 u3 b9 q9 sp cp e1 e2 y2 h2 c2 d4
    exact Nat.lt_of_lt_of_le (by rw [(F2.of h2).S.n]; decide : 0 < y2.1.2.2.2.2.1) (F2.of h2).S.le
  · rename_i b0 y1 h1 c1 d1 u1 d2 u2 d3 u3 b9 q9 sp cp e1 e2 y2 h2 c2 d4
    exact (F2.of h2).S.on (by decide)
  · rename_i b0 y1 h1 c1 d1 u1 d2 u2 d3 u3 b9 q9 sp cp e1 e2 y2 h2 c2 d4
    show (1 : Int) < ((y2.1.2.2.2.2.1 : Nat) : Int)
    rw [(F2.of h2).S.n]; decide
  · rename_i b0 y1 h1 c1 d1 u1 d2 u2 d3 u3 b9 q9 sp cp e1 e2 y2 h2 c2 d4
    exact (F2.of h2).S.on (by decide)
  · rename_i b0 y1 h1 c1 d1 u1 d2 u2 d3 u3 b9 q9 sp cp e1 e2 y2 h2 c2 d4
    exact Nat.lt_of_lt_of_le (by rw [(F2.of h2).S.n]; decide : 1 < y2.1.2.2.2.2.1) (F2.of h2).S.le
  · rename_i b0 y1 h1 c1 d1 u1 d2 u2 d3 u3 b9 q9 sp cp e1 e2 y2 h2 c2
    have f2 : F2 y2 := F2.of h2
    show (decide ((nmOf 2 (gridL 2 fl2)).f = 1) && decide (((y2.1.2.2.2.2.1 : Nat) : Int) = 2) && decide ((y2.1.2.2.2.1.getD 0 slot0).pl.2 = 2) && decide ((y2.1.2.2.2.1.getD 1 slot0).key = 9) && decide (((y2.2.2.1.2.2.2.2.1 : Nat) : Int) = 0)) = true
    rw [fl2_f, f2.S.n, f2.D.n, f2.S.get (d := slot0) (by decide), f2.S.get (d := slot0) (by decide)]
    decide
  · rename_i b0 y1 h1 c1 d1 u1 d2 u2 d3 u3 b9 q9 sp cp e1 e2 y2 h2 c2
    obtain ⟨j, hj, hb⟩ := h2
    exact absurd ((fl2_bad j hj).symm.trans hb) (by decide)
  · rename_i b0 y1 h1 c1
    obtain ⟨j, hj, hb⟩ := h1
    exact absurd ((fl1_bad j hj).symm.trans hb) (by decide)
def pcFirst : Pc Tryd.prog C0 where
  tg := .fn 8
  X := Unit
  args _ := []
  mem _ := []
  pre _ := True
  res _ := .bool .t
  mat vs m := match vs with
    | [] => some ((), [])
    | _ => none
  ok _ _ := first_ok
end Go.Vx
set_option maxRecDepth 100000
namespace Go.Vx
open Go Go.Proofs
variable [Gl]
structure Rs where
  S : Sq Slot
  n : Nm
  F : Sq Int
  D : Sq Int
  B : Sq Int
  O : Sq Pl
abbrev Rs.sv (r : Rs) (k : Nat) : SV := .agg [svL k r.S, .int .i64 r.n.s, .int .i64 r.n.t, .int .i64 r.n.b, .int .i64 r.n.f, svI (k + 1) r.F, svI (k + 2) r.D, svI (k + 3) r.B, svO (k + 4) r.O]
abbrev roL : Sq Slot → Ck C0
  | (o, b, q, l, n, c) => ⟨b, q, 9, false, some o, .rows 40 l⟩
abbrev roI : Sq Int → Ck C0
  | (o, b, q, l, n, c) => ⟨b, q, 1, false, some o, .rows 3 l⟩
abbrev roO : Sq Pl → Ck C0
  | (o, b, q, l, n, c) => ⟨b, q, 2, false, some o, .rows 36 l⟩
abbrev Rs.ck (r : Rs) : List (Ck C0) := [roL r.S, roI r.F, roI r.D, roI r.B, roO r.O]
abbrev RsOK {α : Type} (s : Sq α) : Prop := s.2.2.2.2.1 ≤ s.2.2.2.1.length ∧ s.2.2.2.2.1 < 100000000 ∧ (s.1 = false → s.2.2.2.2.1 = 0 ∧ s.2.2.2.2.2 = 0)
structure Rs.ok (r : Rs) : Prop where
  S : RsOK r.S
  F : RsOK r.F
  D : RsOK r.D
  B : RsOK r.B
  O : RsOK r.O
def mgU (o : Option Slot) (s : Slot) : Option Slot := match o with
  | none => some s
  | some t => if newer s.me t.me then some s else some t
@[irreducible] def mgV (L : List Slot) (k : Int) : Option Slot := L.foldl (fun o s => if s.key = k then mgU o s else o) none
theorem mgV_nil (k : Int) : mgV [] k = none := by unfold mgV; rfl
theorem mgV_snoc (L : List Slot) (s : Slot) (k : Int) : mgV (L ++ [s]) k = if s.key = k then mgU (mgV L k) s else mgV L k := by
  unfold mgV; rw [List.foldl_append]; rfl
abbrev mgetS (M : MpS) (k : Int) : Slot := mget (C0 3) (C0 40) M k
abbrev mhsS (M : MpS) (k : Int) : Bool := mhas (C0 3) (C0 40) M k
abbrev mputS (M : MpS) (k : Int) (s : Slot) (clk : Nat) : MpS := mput (C0 3) (C0 40) M k s clk
abbrev mclkS (M : MpS) (k : Int) (clk : Nat) : Nat := mclk (C0 3) (C0 40) M k clk
structure MgK (M : MpS) (clk : Nat) (L : List Slot) : Prop where
  keys : MKeys (d := C0 40) M clk (L.map fun s => s.key)
  val : ∀ e ∈ M, mgV L e.1 = some e.2.1
theorem MgK.nil : MgK [] 0 [] := ⟨MKeys.nil, fun e he => by cases he⟩
theorem MgK.get {M : MpS} {clk : Nat} {L : List Slot} (h : MgK M clk L) {k : Int} (hk : k ∈ L.map fun s => s.key) : mgV L k = some (mgetS M k) := by
  obtain ⟨e, he, h1, h2⟩ := mget_ent (d := C0 40) ((h.keys.mem k).2 hk)
  have h1 : e.1 = k := h1
  have := h.val e he
  rw [h1] at this
  rw [this]
  exact congrArg some h2.symm
theorem mgV_no {k : Int} : ∀ {L : List Slot}, (k ∉ L.map fun s => s.key) → mgV L k = none := by
  intro L
  suffices h : ∀ n, n ≤ L.length → (k ∉ (L.take n).map fun s => s.key) → mgV (L.take n) k = none by
    intro hk
    have := h L.length (Nat.le_refl _)
    rw [List.take_length] at this
    exact this hk
  intro n
  induction n with
  | zero => intro _ _; rw [List.take_zero]; exact mgV_nil k
  | succ n ih =>
    intro hn hk
    rw [take_snoc (d := slot0) (by omega)] at hk ⊢
    rw [List.map_append, List.mem_append, not_or] at hk
    rw [mgV_snoc, if_neg (by intro h; exact hk.2 (List.mem_map.2 ⟨_, List.mem_singleton.2 rfl, h⟩)), ih (by omega) hk.1]
theorem MgK.has {M : MpS} {clk : Nat} {L : List Slot} (h : MgK M clk L) (k : Int) : mhsS M k = decide (k ∈ L.map fun s => s.key) := by
  have := mhas_keys (d := C0 40) M k
  rw [show mhsS M k = _ from this]
  exact decide_eq_decide.2 (h.keys.mem k)
theorem MgK.put {M : MpS} {clk : Nat} {L : List Slot} (h : MgK M clk L) {s : Slot} (hs : (!mhsS M s.key || newer s.me (mgetS M s.key).me) = true) : MgK (mputS M s.key s clk) (mclkS M s.key clk) (L ++ [s]) := by
  refine ⟨by rw [List.map_append]; exact h.keys.put s.key s, fun e he => ?_⟩
  rw [mgV_snoc]
  rcases mput_ent (d := C0 40) h.keys.nd he with ⟨h1, h2⟩ | ⟨h1, h2⟩
  · have h1 : e.1 = s.key := h1
    have h2 : e.2.1 = s := h2
    rw [h1, h2, if_pos rfl]
    by_cases hk : s.key ∈ L.map fun s => s.key
    · rw [h.get hk]
      rw [h.has, decide_eq_true hk] at hs
      have hs : newer s.me (mgetS M s.key).me = true := hs
      show (if newer s.me (mgetS M s.key).me then some s else some (mgetS M s.key)) = some s
      rw [if_pos hs]
    · rw [mgV_no hk]; rfl
  · have h1 : e.1 ≠ s.key := h1
    rw [if_neg (Ne.symm h1)]
    exact h.val e h2
theorem MgK.keep {M : MpS} {clk : Nat} {L : List Slot} (h : MgK M clk L) {s : Slot} (hs : (!mhsS M s.key || newer s.me (mgetS M s.key).me) = false) : MgK M clk (L ++ [s]) := by
  rw [Bool.or_eq_false_iff] at hs
  obtain ⟨h1, h2⟩ := hs
  have h1 : mhsS M s.key = true := by simpa using h1
  rw [h.has] at h1
  have hk := of_decide_eq_true h1
  refine ⟨⟨h.keys.born, h.keys.nd, fun k => ?_⟩, fun e he => ?_⟩
  · rw [h.keys.mem, List.map_append, List.mem_append]
    refine ⟨Or.inl, ?_⟩
    rintro (h3 | h3)
    · exact h3
    · simp at h3; rw [h3]; exact hk
  · rw [mgV_snoc]
    by_cases hke : s.key = e.1
    · rw [if_pos hke, ← hke, h.get hk]
      show (if newer s.me (mgetS M s.key).me then some s else some (mgetS M s.key)) = _
      rw [if_neg (by rw [h2]; decide)]
      have := h.val e he
      rw [← hke, h.get hk] at this
      exact this
    · rw [if_neg hke]
      exact h.val e he
theorem rise_last {A : List Int} (h : Rise A) {x y : Int} (hx : A.getLast? = some x) (hy : x < y) : Rise (A ++ [y]) := by
  have h : A.Pairwise (· < ·) := h
  show (A ++ [y]).Pairwise (· < ·)
  rw [List.pairwise_append]
  refine ⟨h, List.pairwise_singleton _ _, fun a ha b hb => ?_⟩
  rw [List.mem_singleton] at hb
  subst hb
  obtain ⟨B, rfl⟩ : ∃ B, A = B ++ [x] := by
    rcases List.eq_nil_or_concat A with rfl | ⟨B, z, rfl⟩
    · cases hx
    · simp at hx
      exact ⟨B, by simp [hx]⟩
  rcases List.mem_append.1 ha with ha | ha
  · have := (List.pairwise_append.1 h).2.2 a ha x (by simp)
    omega
  · rw [List.mem_singleton] at ha; omega
theorem ddp_rise {l : List Int} (h : l.Pairwise (· ≤ ·)) : Rise (ddp l) ∧ (∀ k, k ∈ ddp l ↔ k ∈ l) ∧ (ddp l).getLast? = l.getLast? := by
  suffices key : ∀ n, n ≤ l.length → Rise (ddp (l.take n)) ∧ (∀ k, k ∈ ddp (l.take n) ↔ k ∈ l.take n) ∧ (ddp (l.take n)).getLast? = (l.take n).getLast? by
    have := key l.length (Nat.le_refl _)
    rwa [List.take_length] at this
  intro n
  induction n with
  | zero => intro _; rw [List.take_zero, ddp_nil]; exact ⟨List.Pairwise.nil, fun _ => Iff.rfl, rfl⟩
  | succ n ih =>
    intro hn
    obtain ⟨i1, i2, i3⟩ := ih (by omega)
    have hm : l.getD n 0 ∈ l.drop n := by
      rw [List.getD_eq_getElem?_getD, List.getElem?_eq_getElem (by omega), Option.getD_some]
      exact List.mem_drop_iff_getElem.2 ⟨0, by omega, by simp⟩
    have hle : ∀ a ∈ l.take n, a ≤ l.getD n 0 := fun a ha => by
      have h' := h
      rw [← List.take_append_drop n l] at h'
      exact (List.pairwise_append.1 h').2.2 a ha _ hm
    refine ⟨?_, fun k => ?_, ?_⟩
    · rw [take_snoc (d := 0) (by omega), ddp_snoc]
      split
      · exact i1
      · rename_i hne
        cases hl : (ddp (l.take n)).getLast? with
        | none =>
          rw [List.getLast?_eq_none_iff.1 hl]
          exact List.pairwise_singleton _ _
        | some x =>
          refine rise_last i1 hl ?_
          rw [hl] at hne
          have hx : x ∈ l.take n := (i2 x).1 (List.mem_of_getLast? hl)
          have := hle x hx
          have : x ≠ l.getD n 0 := fun e => hne (by rw [e])
          omega
    · rw [take_snoc (d := 0) (by omega), ddp_snoc]
      split
      · rename_i he
        rw [i2, List.mem_append, List.mem_singleton]
        refine ⟨Or.inl, ?_⟩
        rintro (h1 | rfl)
        · exact h1
        · exact (i2 _).1 (List.mem_of_getLast? he)
      · rw [List.mem_append, List.mem_append, i2]
    · rw [take_snoc (d := 0) (by omega), ddp_last]
      simp
@[irreducible] def unL (l : List Int) : List Int := ddp (srt l)
theorem unL_rise (l : List Int) : Rise (unL l) := by unfold unL; exact (ddp_rise (srt_le l)).1
theorem mem_unL {l : List Int} {k : Int} : k ∈ unL l ↔ k ∈ l := by unfold unL; rw [(ddp_rise (srt_le l)).2.1, (srt_perm l).mem_iff]
theorem unL_len (l : List Int) : (unL l).length ≤ l.length := by
  unfold unL
  have : ∀ n, n ≤ (srt l).length → (ddp ((srt l).take n)).length ≤ n := by
    intro n
    induction n with
    | zero => intro _; rw [List.take_zero, ddp_nil]; exact Nat.le_refl _
    | succ n ih =>
      intro hn
      have := ih (by omega)
      rw [take_snoc (d := 0) (by omega), ddp_snoc]
      split
      · omega
      · rw [List.length_append]; simp; omega
  have := this _ (Nat.le_refl _)
  rw [List.take_length, srt_len] at this
  exact this
abbrev keK (L : List Slot) : List Int := unL (L.map fun s => s.key)
@[irreducible] def mgW (L : List Slot) (k : Int) : Slot := (mgV L k).getD slot0
def MgS (a b : Rs) (y : Sq Slot × Sq Int × Sq Int × Sq Int × Sq Pl) : Prop :=
  Gth ((keK (a.S.li ++ b.S.li)).map (mgW (a.S.li ++ b.S.li))) y.1 ∧
  Gth0 (unL (a.F.li ++ b.F.li)) y.2.1 ∧ Gth0 (unL (a.D.li ++ b.D.li)) y.2.2.1 ∧ Gth0 (unL (a.B.li ++ b.B.li)) y.2.2.2.1 ∧ ∃ A, Gth0 A y.2.2.2.2
theorem on_or {u : Nat} {y : Bool} {n : Nat} (h : y = false → n = 0) (hp : 0 < n + u) : (Nat.blt 0 u || y) = true := by
  cases hf : (Nat.blt 0 u || y) with
  | true => rfl
  | false => have := off_or h hf; omega
def M6 (L : List Slot) : Inv' C0 := ⟨6, Nat × MpS × Nat, fun y => [(66, .int .i64 (y.1 : Int))], fun y m => match m with
  | c0 :: c1 :: c2 :: c3 :: c4 :: c5 :: c6 :: c7 :: c8 :: c9 :: c10 :: c11 :: c12 :: c13 :: c14 :: c15 :: c16 :: c17 :: ⟨bm, _, _, _, _, _⟩ :: c19 :: c20 :: _ => [c0, c1, c2, c3, c4, c5, c6, c7, c8, c9, c10, c11, c12, c13, c14, c15, c16, c17, ⟨bm, 0, 0, true, none, .mp 3 40 y.2.1 y.2.2⟩, c19, c20]
  | _ => [], fun y => y.1 ≤ L.length ∧ MgK y.2.1 y.2.2 (L.take y.1), fun y => L.length - y.1⟩
def M13 (K : List Int) (V : Int → Slot) : Inv' C0 := ⟨13, Nat × Sq Slot, fun y => [(95, .int .i64 (y.1 : Int))], fun y m => match m with
  | c0 :: c1 :: c2 :: c3 :: c4 :: c5 :: c6 :: c7 :: c8 :: c9 :: c10 :: c11 :: c12 :: ⟨b13, q13, _, _, _, .one [_, a2, a3, a4, a5, a6, a7, a8, a9]⟩ :: c14 :: c15 :: c16 :: c17 :: c18 :: c19 :: c20 :: c21 :: c22 :: _ => [c0, c1, c2, c3, c4, c5, c6, c7, c8, c9, c10, c11, c12, ⟨b13, q13, 9, true, none, .one [.sl 23 0 y.2.2.2.2.2.1 y.2.2.2.2.2.2, a2, a3, a4, a5, a6, a7, a8, a9]⟩, c14, c15, c16, c17, c18, c19, c20, c21, c22, ⟨y.2.2.1, y.2.2.2.1, 9, true, some y.2.1, .rows 40 y.2.2.2.2.1⟩]
  | _ => [], fun y => y.1 ≤ K.length ∧ Gth ((K.take y.1).map V) y.2, fun y => K.length - y.1⟩
set_option maxHeartbeats 64000000 in
theorem merge_ok (a b : Rs) (ha : a.ok) (hb : b.ok) : Does (C := C0) Tryd.prog (.fn 23) (a.ck ++ b.ck) [a.sv 0, b.sv 5]
    [⟨Sq Slot × Sq Int × Sq Int × Sq Int × Sq Pl, MgS a b, fun y => .agg [svL 10 y.1, .int .i64 (max a.n.s b.n.s), .int .i64 (max a.n.t b.n.t), .int .i64 (max a.n.b b.n.b), .int .i64 (max a.n.f b.n.f), svI 11 y.2.1, svI 12 y.2.2.1, svI 13 y.2.2.2.1, svO 14 y.2.2.2.2],
      fun y => a.ck ++ b.ck ++ [chL y.1, chI y.2.1, chI y.2.2.1, chI y.2.2.2.1, chO y.2.2.2.2]⟩] := by
  obtain ⟨⟨so, sb, sq, sl, sn, sc⟩, ⟨ms, mt, mb, mf⟩, ⟨fo, fb, fq, fl, fn, fc⟩, ⟨d0, db, dq, dl, dn, dc⟩, ⟨bo, bb, bq, bl, bn, bc⟩, ⟨oo, ob, oq, ol, on, oc⟩⟩ := a
  obtain ⟨⟨so', sb', sq', sl', sn', sc'⟩, ⟨ms', mt', mb', mf'⟩, ⟨fo', fb', fq', fl', fn', fc'⟩, ⟨d0', db', dq', dl', dn', dc'⟩, ⟨bo', bb', bq', bl', bn', bc'⟩, ⟨oo', ob', oq', ol', on', oc'⟩⟩ := b
  obtain ⟨⟨h1, h2, h3⟩, hF, hD, hB, hO⟩ := ha
  obtain ⟨⟨h1', h2', h3'⟩, hF', hD', hB', hO'⟩ := hb
  change sn ≤ sl.length at h1
  change sn < 100000000 at h2
  change sn' ≤ sl'.length at h1'
  change sn' < 100000000 at h2'
  refine loc_fn (P := Tryd.prog) (E := ⟨[fcJoinI, fcJoinP, fcCloneS, fcKeysS, fcSortedS], [pcNewer], 109, [(2, [1000002, 1000003], merB), (5, [1000002, 1000003], [.p 0, .p 1, .p 3, .p 4, .p 7, .e 2, .e 5, .p 6])], [], []⟩) (L := [M6 (sl.take sn ++ sl'.take sn'), M13 (keK (sl.take sn ++ sl'.take sn')) (mgW (sl.take sn ++ sl'.take sn'))]) mix Tryd.func23 rfl (by kernel_rfl) (by kernel_rfl) rfl rfl ?_
  ((conv => (arg 1; reduce)); with_reducible repeat' (first | exact Tr.yes_h | refine Tr.and_h ?_ ?_ | refine Tr.imp_h fun _ => ?_ | refine Tr.all_h fun _ => ?_ | refine Tr.lf_h ?_))
  all_goals try (first | exact merB_ok _ rfl | (first | first | (show Region.lexB _ _ = true; kernel_rfl) | (show planned _ _ = true; kernel_rfl) | exact rfl | exact True.intro | (first | exact key3 | exact zeroB | exact zeroR | exact zeroS | exact ⟨key3, zeroB⟩ | exact ⟨key3, zeroR⟩ | exact ⟨key3, zeroS⟩) | ((try dsimp only [imp, C0, cG, cInt, cPl, cSlot, cPg, gwCodec] at *); (try refine inR64 ?_ ?_) <;> (try simp only [List.length_set, List.length_append, List.length_take, List.length_drop]) <;> omega)))
  · exact ⟨hF, hF'⟩
  · exact ⟨hD, hD'⟩
  · exact ⟨hB, hB'⟩
  · exact ⟨hO, hO'⟩
  · exact ⟨h1, by show sn < 1000000000; omega, h3⟩
  · rename_i b10 b11 b12 b13 yF kF yD kD yB kB yO kO bm y hy
    obtain ⟨yo, yb, yq, yl, yn, yc⟩ := y
    obtain ⟨y1, y2, y3, y4, y5⟩ := hy
    change (sl.take sn).length = yn at y2
    rw [tk_len h1] at y2
    subst y2
    change yl.take sn = sl.take sn at y1
    change sn ≤ yc at y3
    change yc ≤ yl.length at y4
    rw [byCS]
    exact ⟨y3, by show 0 + yc ≤ yl.length; omega, by show 0 + sn' ≤ sl'.length; omega, by show (sn + sn') * 72 ≤ _; omega⟩
  · rename_i b10 b11 b12 b13 yF kF yD kD yB kB yO kO bm y hy
    exact hy.2.2.2.2
  · exact fun h9 => ⟨(h3' h9).1, (h3' h9).1⟩
  · rename_i b10 b11 b12 b13 yF kF yD kD yB kB yO kO bm y hy b20 q20 sp cap e1 e2
    refine Stands.one (0, [], 0) ⟨⟨Nat.zero_le _, MgK.nil⟩, ?_⟩
    ((conv => (arg 1; reduce)); with_reducible repeat' (first | exact Tr.yes_h | refine Tr.and_h ?_ ?_ | refine Tr.imp_h fun _ => ?_ | refine Tr.all_h fun _ => ?_ | refine Tr.lf_h ?_))
    all_goals (first | first | (show Region.lexB _ _ = true; kernel_rfl) | (show planned _ _ = true; kernel_rfl) | exact rfl | exact True.intro | (first | exact key3 | exact zeroB | exact zeroR | exact zeroS | exact ⟨key3, zeroB⟩ | exact ⟨key3, zeroR⟩ | exact ⟨key3, zeroS⟩) | ((try dsimp only [imp, C0, cG, cInt, cPl, cSlot, cPg, gwCodec] at *); (try refine inR64 ?_ ?_) <;> (try simp only [List.length_set, List.length_append, List.length_take, List.length_drop]) <;> omega))
  · rename_i b10 b11 b12 b13 yF kF yD kD yB kB yO kO bm y hy b20 q20 sp cap e1 e2 x hx g1
    obtain ⟨yo, yb, yq, yl, yn, yc⟩ := y
    obtain ⟨y1, y2, y3, y4, y5⟩ := hy
    change (sl.take sn).length = yn at y2
    rw [tk_len h1] at y2
    subst y2
    change yl.take sn = sl.take sn at y1
    change sn ≤ yc at y3
    change yc ≤ yl.length at y4
    change List Slot at sp
    have hLn : (sl.take sn ++ sl'.take sn').length = sn + sn' := by rw [List.length_append, tk_len h1, tk_len h1']
    obtain ⟨i, M, clk⟩ := x
    obtain ⟨x1, x2⟩ := hx
    change i ≤ (sl.take sn ++ sl'.take sn').length at x1
    change MgK M clk ((sl.take sn ++ sl'.take sn').take i) at x2
    rw [hLn] at x1
    have g1 : (i : Int) < ((sn + sn' : Nat) : Int) := of_decide_eq_true g1
    have g1 : i < sn + sn' := by omega
    exact on_or (n := sn) (fun h9 => (y5 h9).1) (by omega)
  · rename_i b10 b11 b12 b13 yF kF yD kD yB kB yO kO bm y hy b20 q20 sp cap e1 e2 x hx g1
    exact of_decide_eq_true g1
  · rename_i b10 b11 b12 b13 yF kF yD kD yB kB yO kO bm y hy b20 q20 sp cap e1 e2 x hx g1
    obtain ⟨yo, yb, yq, yl, yn, yc⟩ := y
    obtain ⟨y1, y2, y3, y4, y5⟩ := hy
    change (sl.take sn).length = yn at y2
    rw [tk_len h1] at y2
    subst y2
    change yl.take sn = sl.take sn at y1
    change sn ≤ yc at y3
    change yc ≤ yl.length at y4
    change List Slot at sp
    have hLn : (sl.take sn ++ sl'.take sn').length = sn + sn' := by rw [List.length_append, tk_len h1, tk_len h1']
    obtain ⟨i, M, clk⟩ := x
    obtain ⟨x1, x2⟩ := hx
    change i ≤ (sl.take sn ++ sl'.take sn').length at x1
    change MgK M clk ((sl.take sn ++ sl'.take sn').take i) at x2
    rw [hLn] at x1
    have g1 : (i : Int) < ((sn + sn' : Nat) : Int) := of_decide_eq_true g1
    have g1 : i < sn + sn' := by omega
    exact on_or (n := sn) (fun h9 => (y5 h9).1) (by omega)
  · rename_i b10 b11 b12 b13 yF kF yD kD yB kB yO kO bm y hy b20 q20 sp cap e1 e2 x hx g1
    obtain ⟨yo, yb, yq, yl, yn, yc⟩ := y
    obtain ⟨y1, y2, y3, y4, y5⟩ := hy
    change (sl.take sn).length = yn at y2
    rw [tk_len h1] at y2
    subst y2
    change yl.take sn = sl.take sn at y1
    change sn ≤ yc at y3
    change yc ≤ yl.length at y4
    change List Slot at sp
    have hLn : (sl.take sn ++ sl'.take sn').length = sn + sn' := by rw [List.length_append, tk_len h1, tk_len h1']
    obtain ⟨i, M, clk⟩ := x
    obtain ⟨x1, x2⟩ := hx
    change i ≤ (sl.take sn ++ sl'.take sn').length at x1
    change MgK M clk ((sl.take sn ++ sl'.take sn').take i) at x2
    rw [hLn] at x1
    have g1 : (i : Int) < ((sn + sn' : Nat) : Int) := of_decide_eq_true g1
    have g1 : i < sn + sn' := by omega
    show i < (yl.take sn ++ sl'.take sn' ++ sp).length
    simp only [List.length_append, List.length_take]
    omega
  · rename_i b10 b11 b12 b13 yF kF yD kD yB kB yO kO bm y hy b20 q20 sp cap e1 e2 x hx g1 b21 b22 g2
    obtain ⟨yo, yb, yq, yl, yn, yc⟩ := y
    obtain ⟨y1, y2, y3, y4, y5⟩ := hy
    change (sl.take sn).length = yn at y2
    rw [tk_len h1] at y2
    subst y2
    change yl.take sn = sl.take sn at y1
    change sn ≤ yc at y3
    change yc ≤ yl.length at y4
    change List Slot at sp
    have hLn : (sl.take sn ++ sl'.take sn').length = sn + sn' := by rw [List.length_append, tk_len h1, tk_len h1']
    obtain ⟨i, M, clk⟩ := x
    obtain ⟨x1, x2⟩ := hx
    change i ≤ (sl.take sn ++ sl'.take sn').length at x1
    change MgK M clk ((sl.take sn ++ sl'.take sn').take i) at x2
    rw [hLn] at x1
    have g1 : (i : Int) < ((sn + sn' : Nat) : Int) := of_decide_eq_true g1
    have g1 : i < sn + sn' := by omega
    exact inR64 (by show -9223372036854775808 ≤ (i : Int) + 1; omega) (by show (i : Int) + 1 ≤ 9223372036854775807; omega)
  · rename_i b10 b11 b12 b13 yF kF yD kD yB kB yO kO bm y hy b20 q20 sp cap e1 e2 x hx g1 b21 b22 g2
    obtain ⟨yo, yb, yq, yl, yn, yc⟩ := y
    obtain ⟨y1, y2, y3, y4, y5⟩ := hy
    change (sl.take sn).length = yn at y2
    rw [tk_len h1] at y2
    subst y2
    change yl.take sn = sl.take sn at y1
    change sn ≤ yc at y3
    change yc ≤ yl.length at y4
    change List Slot at sp
    have hLn : (sl.take sn ++ sl'.take sn').length = sn + sn' := by rw [List.length_append, tk_len h1, tk_len h1']
    obtain ⟨i, M, clk⟩ := x
    obtain ⟨x1, x2⟩ := hx
    change i ≤ (sl.take sn ++ sl'.take sn').length at x1
    change MgK M clk ((sl.take sn ++ sl'.take sn').take i) at x2
    rw [hLn] at x1
    have g1 : (i : Int) < ((sn + sn' : Nat) : Int) := of_decide_eq_true g1
    have g1 : i < sn + sn' := by omega
    have hs : (sl.take sn ++ sl'.take sn').getD i slot0 = (yl.take sn ++ sl'.take sn' ++ sp).getD i slot0 := by
      rw [y1, List.getD_eq_getElem?_getD, List.getD_eq_getElem?_getD, List.getElem?_append_left (l₁ := sl.take sn ++ sl'.take sn') (by rw [hLn]; exact g1)]
    refine Stands.one (i + 1, mputS M ((yl.take sn ++ sl'.take sn' ++ sp).getD i slot0).key ((yl.take sn ++ sl'.take sn' ++ sp).getD i slot0) clk, mclkS M ((yl.take sn ++ sl'.take sn' ++ sp).getD i slot0).key clk) ⟨⟨by show i + 1 ≤ _; rw [hLn]; omega, ?_⟩, by show (sl.take sn ++ sl'.take sn').length - (i + 1) < (sl.take sn ++ sl'.take sn').length - i; omega, ?_⟩
    · show MgK _ _ ((sl.take sn ++ sl'.take sn').take (i + 1))
      rw [take_snoc (d := slot0) (by rw [hLn]; exact g1), hs]
      exact x2.put g2
    ((conv => (arg 1; reduce)); with_reducible repeat' (first | exact Tr.yes_h | refine Tr.and_h ?_ ?_ | refine Tr.imp_h fun _ => ?_ | refine Tr.all_h fun _ => ?_ | refine Tr.lf_h ?_))
    all_goals (first | first | (show Region.lexB _ _ = true; kernel_rfl) | (show planned _ _ = true; kernel_rfl) | exact rfl | exact True.intro | (first | exact key3 | exact zeroB | exact zeroR | exact zeroS | exact ⟨key3, zeroB⟩ | exact ⟨key3, zeroR⟩ | exact ⟨key3, zeroS⟩) | ((try dsimp only [imp, C0, cG, cInt, cPl, cSlot, cPg, gwCodec] at *); (try refine inR64 ?_ ?_) <;> (try simp only [List.length_set, List.length_append, List.length_take, List.length_drop]) <;> omega))
  · rename_i b10 b11 b12 b13 yF kF yD kD yB kB yO kO bm y hy b20 q20 sp cap e1 e2 x hx g1 b21 b22 g2
    obtain ⟨yo, yb, yq, yl, yn, yc⟩ := y
    obtain ⟨y1, y2, y3, y4, y5⟩ := hy
    change (sl.take sn).length = yn at y2
    rw [tk_len h1] at y2
    subst y2
    change yl.take sn = sl.take sn at y1
    change sn ≤ yc at y3
    change yc ≤ yl.length at y4
    change List Slot at sp
    have hLn : (sl.take sn ++ sl'.take sn').length = sn + sn' := by rw [List.length_append, tk_len h1, tk_len h1']
    obtain ⟨i, M, clk⟩ := x
    obtain ⟨x1, x2⟩ := hx
    change i ≤ (sl.take sn ++ sl'.take sn').length at x1
    change MgK M clk ((sl.take sn ++ sl'.take sn').take i) at x2
    rw [hLn] at x1
    have g1 : (i : Int) < ((sn + sn' : Nat) : Int) := of_decide_eq_true g1
    have g1 : i < sn + sn' := by omega
    exact inR64 (by show -9223372036854775808 ≤ (i : Int) + 1; omega) (by show (i : Int) + 1 ≤ 9223372036854775807; omega)
  · rename_i b10 b11 b12 b13 yF kF yD kD yB kB yO kO bm y hy b20 q20 sp cap e1 e2 x hx g1 b21 b22 g2
    obtain ⟨yo, yb, yq, yl, yn, yc⟩ := y
    obtain ⟨y1, y2, y3, y4, y5⟩ := hy
    change (sl.take sn).length = yn at y2
    rw [tk_len h1] at y2
    subst y2
    change yl.take sn = sl.take sn at y1
    change sn ≤ yc at y3
    change yc ≤ yl.length at y4
    change List Slot at sp
    have hLn : (sl.take sn ++ sl'.take sn').length = sn + sn' := by rw [List.length_append, tk_len h1, tk_len h1']
    obtain ⟨i, M, clk⟩ := x
    obtain ⟨x1, x2⟩ := hx
    change i ≤ (sl.take sn ++ sl'.take sn').length at x1
    change MgK M clk ((sl.take sn ++ sl'.take sn').take i) at x2
    rw [hLn] at x1
    have g1 : (i : Int) < ((sn + sn' : Nat) : Int) := of_decide_eq_true g1
    have g1 : i < sn + sn' := by omega
    have hs : (sl.take sn ++ sl'.take sn').getD i slot0 = (yl.take sn ++ sl'.take sn' ++ sp).getD i slot0 := by
      rw [y1, List.getD_eq_getElem?_getD, List.getD_eq_getElem?_getD, List.getElem?_append_left (l₁ := sl.take sn ++ sl'.take sn') (by rw [hLn]; exact g1)]
    refine Stands.one (i + 1, M, clk) ⟨⟨by show i + 1 ≤ _; rw [hLn]; omega, ?_⟩, by show (sl.take sn ++ sl'.take sn').length - (i + 1) < (sl.take sn ++ sl'.take sn').length - i; omega, ?_⟩
    · show MgK _ _ ((sl.take sn ++ sl'.take sn').take (i + 1))
      rw [take_snoc (d := slot0) (by rw [hLn]; exact g1), hs]
      exact x2.keep g2
    ((conv => (arg 1; reduce)); with_reducible repeat' (first | exact Tr.yes_h | refine Tr.and_h ?_ ?_ | refine Tr.imp_h fun _ => ?_ | refine Tr.all_h fun _ => ?_ | refine Tr.lf_h ?_))
    all_goals (first | first | (show Region.lexB _ _ = true; kernel_rfl) | (show planned _ _ = true; kernel_rfl) | exact rfl | exact True.intro | (first | exact key3 | exact zeroB | exact zeroR | exact zeroS | exact ⟨key3, zeroB⟩ | exact ⟨key3, zeroR⟩ | exact ⟨key3, zeroS⟩) | ((try dsimp only [imp, C0, cG, cInt, cPl, cSlot, cPg, gwCodec] at *); (try refine inR64 ?_ ?_) <;> (try simp only [List.length_set, List.length_append, List.length_take, List.length_drop]) <;> omega))
  · rename_i b10 b11 b12 b13 yF kF yD kD yB kB yO kO bm y hy b20 q20 sp cap e1 e2 x hx g1 z hz
    obtain ⟨yo, yb, yq, yl, yn, yc⟩ := y
    obtain ⟨y1, y2, y3, y4, y5⟩ := hy
    change (sl.take sn).length = yn at y2
    rw [tk_len h1] at y2
    subst y2
    change yl.take sn = sl.take sn at y1
    change sn ≤ yc at y3
    change yc ≤ yl.length at y4
    change List Slot at sp
    have hLn : (sl.take sn ++ sl'.take sn').length = sn + sn' := by rw [List.length_append, tk_len h1, tk_len h1']
    obtain ⟨i, M, clk⟩ := x
    obtain ⟨x1, x2⟩ := hx
    change i ≤ (sl.take sn ++ sl'.take sn').length at x1
    change MgK M clk ((sl.take sn ++ sl'.take sn').take i) at x2
    rw [hLn] at x1
    have := x2.keys.len
    rw [List.length_map, List.length_take] at this
    exact ⟨⟨x2.keys.born, x2.keys.nd, fun _ => Iff.rfl⟩, by show M.length < 1000000000; omega⟩
  · rename_i b10 b11 b12 b13 yF kF yD kD yB kB yO kO bm y hy b20 q20 sp cap e1 e2 x hx g1 z hz k hk
    refine Stands.one (0, (false, 0, 0, [], 0, 0)) ⟨⟨Nat.zero_le _, Gth.nil⟩, ?_⟩
    ((conv => (arg 1; reduce)); with_reducible repeat' (first | exact Tr.yes_h | refine Tr.and_h ?_ ?_ | refine Tr.imp_h fun _ => ?_ | refine Tr.all_h fun _ => ?_ | refine Tr.lf_h ?_))
    all_goals (first | first | (show Region.lexB _ _ = true; kernel_rfl) | (show planned _ _ = true; kernel_rfl) | exact rfl | exact True.intro | (first | exact key3 | exact zeroB | exact zeroR | exact zeroS | exact ⟨key3, zeroB⟩ | exact ⟨key3, zeroR⟩ | exact ⟨key3, zeroS⟩) | ((try dsimp only [imp, C0, cG, cInt, cPl, cSlot, cPg, gwCodec] at *); (try refine inR64 ?_ ?_) <;> (try simp only [List.length_set, List.length_append, List.length_take, List.length_drop]) <;> omega))
  · rename_i b10 b11 b12 b13 yF kF yD kD yB kB yO kO bm y hy b20 q20 sp cap e1 e2 x hx g1 z hz k hk u hu g3
    obtain ⟨yo, yb, yq, yl, yn, yc⟩ := y
    obtain ⟨y1, y2, y3, y4, y5⟩ := hy
    change (sl.take sn).length = yn at y2
    rw [tk_len h1] at y2
    subst y2
    change yl.take sn = sl.take sn at y1
    change sn ≤ yc at y3
    change yc ≤ yl.length at y4
    change List Slot at sp
    have hLn : (sl.take sn ++ sl'.take sn').length = sn + sn' := by rw [List.length_append, tk_len h1, tk_len h1']
    obtain ⟨i, M, clk⟩ := x
    obtain ⟨x1, x2⟩ := hx
    change i ≤ (sl.take sn ++ sl'.take sn').length at x1
    change MgK M clk ((sl.take sn ++ sl'.take sn').take i) at x2
    rw [hLn] at x1
    have g1 : ¬ (i : Int) < ((sn + sn' : Nat) : Int) := of_decide_eq_false g1
    have ei : i = sn + sn' := by omega
    subst ei
    rw [List.take_of_length_le (by rw [hLn]; exact Nat.le_refl _)] at x2
    obtain ⟨ko, kb, kq, kl, kn, kc⟩ := k
    have hK : Gth (keK (sl.take sn ++ sl'.take sn')) (ko, kb, kq, kl, kn, kc) := by
      obtain ⟨A, a1, a2, a3⟩ := hk
      have : A = keK (sl.take sn ++ sl'.take sn') := rise_one a1 (unL_rise _) fun j => (a2 j).trans ((x2.keys.mem j).trans mem_unL.symm)
      rw [← this]; exact a3
    have hKl : (keK (sl.take sn ++ sl'.take sn')).length ≤ sn + sn' := by
      have h9 := unL_len ((sl.take sn ++ sl'.take sn').map fun s => s.key)
      rw [List.length_map, hLn] at h9
      exact h9
    have hKn : kn = (keK (sl.take sn ++ sl'.take sn')).length := hK.n
    obtain ⟨j, uo, ub, uq, ul, un, uc⟩ := u
    obtain ⟨u1, u2⟩ := hu
    change j ≤ (keK (sl.take sn ++ sl'.take sn')).length at u1
    change Gth (((keK (sl.take sn ++ sl'.take sn')).take j).map (mgW (sl.take sn ++ sl'.take sn'))) (uo, ub, uq, ul, un, uc) at u2
    have u3 := u2.room
    rw [List.length_map, List.length_take] at u3
    have g3 : (j : Int) < (kn : Int) := of_decide_eq_true g3
    have g3 : j < (keK (sl.take sn ++ sl'.take sn')).length := by omega
    exact hK.on (by omega)
  · rename_i b10 b11 b12 b13 yF kF yD kD yB kB yO kO bm y hy b20 q20 sp cap e1 e2 x hx g1 z hz k hk u hu g3
    exact of_decide_eq_true g3
  · rename_i b10 b11 b12 b13 yF kF yD kD yB kB yO kO bm y hy b20 q20 sp cap e1 e2 x hx g1 z hz k hk u hu g3
    obtain ⟨yo, yb, yq, yl, yn, yc⟩ := y
    obtain ⟨y1, y2, y3, y4, y5⟩ := hy
    change (sl.take sn).length = yn at y2
    rw [tk_len h1] at y2
    subst y2
    change yl.take sn = sl.take sn at y1
    change sn ≤ yc at y3
    change yc ≤ yl.length at y4
    change List Slot at sp
    have hLn : (sl.take sn ++ sl'.take sn').length = sn + sn' := by rw [List.length_append, tk_len h1, tk_len h1']
    obtain ⟨i, M, clk⟩ := x
    obtain ⟨x1, x2⟩ := hx
    change i ≤ (sl.take sn ++ sl'.take sn').length at x1
    change MgK M clk ((sl.take sn ++ sl'.take sn').take i) at x2
    rw [hLn] at x1
    have g1 : ¬ (i : Int) < ((sn + sn' : Nat) : Int) := of_decide_eq_false g1
    have ei : i = sn + sn' := by omega
    subst ei
    rw [List.take_of_length_le (by rw [hLn]; exact Nat.le_refl _)] at x2
    obtain ⟨ko, kb, kq, kl, kn, kc⟩ := k
    have hK : Gth (keK (sl.take sn ++ sl'.take sn')) (ko, kb, kq, kl, kn, kc) := by
      obtain ⟨A, a1, a2, a3⟩ := hk
      have : A = keK (sl.take sn ++ sl'.take sn') := rise_one a1 (unL_rise _) fun j => (a2 j).trans ((x2.keys.mem j).trans mem_unL.symm)
      rw [← this]; exact a3
    have hKl : (keK (sl.take sn ++ sl'.take sn')).length ≤ sn + sn' := by
      have h9 := unL_len ((sl.take sn ++ sl'.take sn').map fun s => s.key)
      rw [List.length_map, hLn] at h9
      exact h9
    have hKn : kn = (keK (sl.take sn ++ sl'.take sn')).length := hK.n
    obtain ⟨j, uo, ub, uq, ul, un, uc⟩ := u
    obtain ⟨u1, u2⟩ := hu
    change j ≤ (keK (sl.take sn ++ sl'.take sn')).length at u1
    change Gth (((keK (sl.take sn ++ sl'.take sn')).take j).map (mgW (sl.take sn ++ sl'.take sn'))) (uo, ub, uq, ul, un, uc) at u2
    have u3 := u2.room
    rw [List.length_map, List.length_take] at u3
    have g3 : (j : Int) < (kn : Int) := of_decide_eq_true g3
    have g3 : j < (keK (sl.take sn ++ sl'.take sn')).length := by omega
    exact hK.on (by omega)
  · rename_i b10 b11 b12 b13 yF kF yD kD yB kB yO kO bm y hy b20 q20 sp cap e1 e2 x hx g1 z hz k hk u hu g3
    obtain ⟨yo, yb, yq, yl, yn, yc⟩ := y
    obtain ⟨y1, y2, y3, y4, y5⟩ := hy
    change (sl.take sn).length = yn at y2
    rw [tk_len h1] at y2
    subst y2
    change yl.take sn = sl.take sn at y1
    change sn ≤ yc at y3
    change yc ≤ yl.length at y4
    change List Slot at sp
    have hLn : (sl.take sn ++ sl'.take sn').length = sn + sn' := by rw [List.length_append, tk_len h1, tk_len h1']
    obtain ⟨i, M, clk⟩ := x
    obtain ⟨x1, x2⟩ := hx
    change i ≤ (sl.take sn ++ sl'.take sn').length at x1
    change MgK M clk ((sl.take sn ++ sl'.take sn').take i) at x2
    rw [hLn] at x1
    have g1 : ¬ (i : Int) < ((sn + sn' : Nat) : Int) := of_decide_eq_false g1
    have ei : i = sn + sn' := by omega
    subst ei
    rw [List.take_of_length_le (by rw [hLn]; exact Nat.le_refl _)] at x2
    obtain ⟨ko, kb, kq, kl, kn, kc⟩ := k
    have hK : Gth (keK (sl.take sn ++ sl'.take sn')) (ko, kb, kq, kl, kn, kc) := by
      obtain ⟨A, a1, a2, a3⟩ := hk
      have : A = keK (sl.take sn ++ sl'.take sn') := rise_one a1 (unL_rise _) fun j => (a2 j).trans ((x2.keys.mem j).trans mem_unL.symm)
      rw [← this]; exact a3
    have hKl : (keK (sl.take sn ++ sl'.take sn')).length ≤ sn + sn' := by
      have h9 := unL_len ((sl.take sn ++ sl'.take sn').map fun s => s.key)
      rw [List.length_map, hLn] at h9
      exact h9
    have hKn : kn = (keK (sl.take sn ++ sl'.take sn')).length := hK.n
    obtain ⟨j, uo, ub, uq, ul, un, uc⟩ := u
    obtain ⟨u1, u2⟩ := hu
    change j ≤ (keK (sl.take sn ++ sl'.take sn')).length at u1
    change Gth (((keK (sl.take sn ++ sl'.take sn')).take j).map (mgW (sl.take sn ++ sl'.take sn'))) (uo, ub, uq, ul, un, uc) at u2
    have u3 := u2.room
    rw [List.length_map, List.length_take] at u3
    have g3 : (j : Int) < (kn : Int) := of_decide_eq_true g3
    have g3 : j < (keK (sl.take sn ++ sl'.take sn')).length := by omega
    have := hK.le
    show j < kl.length
    change kn ≤ kl.length at this
    omega
  · rename_i b10 b11 b12 b13 yF kF yD kD yB kB yO kO bm y hy b20 q20 sp cap e1 e2 x hx g1 z hz k hk u hu g3 r1
    obtain ⟨yo, yb, yq, yl, yn, yc⟩ := y
    obtain ⟨y1, y2, y3, y4, y5⟩ := hy
    change (sl.take sn).length = yn at y2
    rw [tk_len h1] at y2
    subst y2
    change yl.take sn = sl.take sn at y1
    change sn ≤ yc at y3
    change yc ≤ yl.length at y4
    change List Slot at sp
    have hLn : (sl.take sn ++ sl'.take sn').length = sn + sn' := by rw [List.length_append, tk_len h1, tk_len h1']
    obtain ⟨i, M, clk⟩ := x
    obtain ⟨x1, x2⟩ := hx
    change i ≤ (sl.take sn ++ sl'.take sn').length at x1
    change MgK M clk ((sl.take sn ++ sl'.take sn').take i) at x2
    rw [hLn] at x1
    have g1 : ¬ (i : Int) < ((sn + sn' : Nat) : Int) := of_decide_eq_false g1
    have ei : i = sn + sn' := by omega
    subst ei
    rw [List.take_of_length_le (by rw [hLn]; exact Nat.le_refl _)] at x2
    obtain ⟨ko, kb, kq, kl, kn, kc⟩ := k
    have hK : Gth (keK (sl.take sn ++ sl'.take sn')) (ko, kb, kq, kl, kn, kc) := by
      obtain ⟨A, a1, a2, a3⟩ := hk
      have : A = keK (sl.take sn ++ sl'.take sn') := rise_one a1 (unL_rise _) fun j => (a2 j).trans ((x2.keys.mem j).trans mem_unL.symm)
      rw [← this]; exact a3
    have hKl : (keK (sl.take sn ++ sl'.take sn')).length ≤ sn + sn' := by
      have h9 := unL_len ((sl.take sn ++ sl'.take sn').map fun s => s.key)
      rw [List.length_map, hLn] at h9
      exact h9
    have hKn : kn = (keK (sl.take sn ++ sl'.take sn')).length := hK.n
    obtain ⟨j, uo, ub, uq, ul, un, uc⟩ := u
    obtain ⟨u1, u2⟩ := hu
    change j ≤ (keK (sl.take sn ++ sl'.take sn')).length at u1
    change Gth (((keK (sl.take sn ++ sl'.take sn')).take j).map (mgW (sl.take sn ++ sl'.take sn'))) (uo, ub, uq, ul, un, uc) at u2
    have u3 := u2.room
    rw [List.length_map, List.length_take] at u3
    have g3 : (j : Int) < (kn : Int) := of_decide_eq_true g3
    have g3 : j < (keK (sl.take sn ++ sl'.take sn')).length := by omega
    rw [byCS]
    exact ⟨u3.1, by show 0 + uc ≤ ul.length; omega, by simp, by show (un + 1) * 72 ≤ _; omega⟩
  · rename_i b10 b11 b12 b13 yF kF yD kD yB kB yO kO bm y hy b20 q20 sp cap e1 e2 x hx g1 z hz k hk u hu g3 r1
    obtain ⟨yo, yb, yq, yl, yn, yc⟩ := y
    obtain ⟨y1, y2, y3, y4, y5⟩ := hy
    change (sl.take sn).length = yn at y2
    rw [tk_len h1] at y2
    subst y2
    change yl.take sn = sl.take sn at y1
    change sn ≤ yc at y3
    change yc ≤ yl.length at y4
    change List Slot at sp
    have hLn : (sl.take sn ++ sl'.take sn').length = sn + sn' := by rw [List.length_append, tk_len h1, tk_len h1']
    obtain ⟨i, M, clk⟩ := x
    obtain ⟨x1, x2⟩ := hx
    change i ≤ (sl.take sn ++ sl'.take sn').length at x1
    change MgK M clk ((sl.take sn ++ sl'.take sn').take i) at x2
    rw [hLn] at x1
    have g1 : ¬ (i : Int) < ((sn + sn' : Nat) : Int) := of_decide_eq_false g1
    have ei : i = sn + sn' := by omega
    subst ei
    rw [List.take_of_length_le (by rw [hLn]; exact Nat.le_refl _)] at x2
    obtain ⟨ko, kb, kq, kl, kn, kc⟩ := k
    have hK : Gth (keK (sl.take sn ++ sl'.take sn')) (ko, kb, kq, kl, kn, kc) := by
      obtain ⟨A, a1, a2, a3⟩ := hk
      have : A = keK (sl.take sn ++ sl'.take sn') := rise_one a1 (unL_rise _) fun j => (a2 j).trans ((x2.keys.mem j).trans mem_unL.symm)
      rw [← this]; exact a3
    have hKl : (keK (sl.take sn ++ sl'.take sn')).length ≤ sn + sn' := by
      have h9 := unL_len ((sl.take sn ++ sl'.take sn').map fun s => s.key)
      rw [List.length_map, hLn] at h9
      exact h9
    have hKn : kn = (keK (sl.take sn ++ sl'.take sn')).length := hK.n
    obtain ⟨j, uo, ub, uq, ul, un, uc⟩ := u
    obtain ⟨u1, u2⟩ := hu
    change j ≤ (keK (sl.take sn ++ sl'.take sn')).length at u1
    change Gth (((keK (sl.take sn ++ sl'.take sn')).take j).map (mgW (sl.take sn ++ sl'.take sn'))) (uo, ub, uq, ul, un, uc) at u2
    have u3 := u2.room
    rw [List.length_map, List.length_take] at u3
    exact u3.2.2.2
  · rename_i b10 b11 b12 b13 yF kF yD kD yB kB yO kO bm y hy b20 q20 sp cap e1 e2 x hx g1 z hz k hk u hu g3 r1 b25 q25 sp2 cap2 e3 e4
    obtain ⟨yo, yb, yq, yl, yn, yc⟩ := y
    obtain ⟨y1, y2, y3, y4, y5⟩ := hy
    change (sl.take sn).length = yn at y2
    rw [tk_len h1] at y2
    subst y2
    change yl.take sn = sl.take sn at y1
    change sn ≤ yc at y3
    change yc ≤ yl.length at y4
    change List Slot at sp
    have hLn : (sl.take sn ++ sl'.take sn').length = sn + sn' := by rw [List.length_append, tk_len h1, tk_len h1']
    obtain ⟨i, M, clk⟩ := x
    obtain ⟨x1, x2⟩ := hx
    change i ≤ (sl.take sn ++ sl'.take sn').length at x1
    change MgK M clk ((sl.take sn ++ sl'.take sn').take i) at x2
    rw [hLn] at x1
    have g1 : ¬ (i : Int) < ((sn + sn' : Nat) : Int) := of_decide_eq_false g1
    have ei : i = sn + sn' := by omega
    subst ei
    rw [List.take_of_length_le (by rw [hLn]; exact Nat.le_refl _)] at x2
    obtain ⟨ko, kb, kq, kl, kn, kc⟩ := k
    have hK : Gth (keK (sl.take sn ++ sl'.take sn')) (ko, kb, kq, kl, kn, kc) := by
      obtain ⟨A, a1, a2, a3⟩ := hk
      have : A = keK (sl.take sn ++ sl'.take sn') := rise_one a1 (unL_rise _) fun j => (a2 j).trans ((x2.keys.mem j).trans mem_unL.symm)
      rw [← this]; exact a3
    have hKl : (keK (sl.take sn ++ sl'.take sn')).length ≤ sn + sn' := by
      have h9 := unL_len ((sl.take sn ++ sl'.take sn').map fun s => s.key)
      rw [List.length_map, hLn] at h9
      exact h9
    have hKn : kn = (keK (sl.take sn ++ sl'.take sn')).length := hK.n
    obtain ⟨j, uo, ub, uq, ul, un, uc⟩ := u
    obtain ⟨u1, u2⟩ := hu
    change j ≤ (keK (sl.take sn ++ sl'.take sn')).length at u1
    change Gth (((keK (sl.take sn ++ sl'.take sn')).take j).map (mgW (sl.take sn ++ sl'.take sn'))) (uo, ub, uq, ul, un, uc) at u2
    have u3 := u2.room
    rw [List.length_map, List.length_take] at u3
    have g3 : (j : Int) < (kn : Int) := of_decide_eq_true g3
    have g3 : j < (keK (sl.take sn ++ sl'.take sn')).length := by omega
    exact inR64 (by show -9223372036854775808 ≤ (j : Int) + 1; omega) (by show (j : Int) + 1 ≤ 9223372036854775807; omega)
  · rename_i b10 b11 b12 b13 yF kF yD kD yB kB yO kO bm y hy b20 q20 sp cap e1 e2 x hx g1 z hz k hk u hu g3 r1 b25 q25 sp2 cap2 e3 e4
    obtain ⟨yo, yb, yq, yl, yn, yc⟩ := y
    obtain ⟨y1, y2, y3, y4, y5⟩ := hy
    change (sl.take sn).length = yn at y2
    rw [tk_len h1] at y2
    subst y2
    change yl.take sn = sl.take sn at y1
    change sn ≤ yc at y3
    change yc ≤ yl.length at y4
    change List Slot at sp
    have hLn : (sl.take sn ++ sl'.take sn').length = sn + sn' := by rw [List.length_append, tk_len h1, tk_len h1']
    obtain ⟨i, M, clk⟩ := x
    obtain ⟨x1, x2⟩ := hx
    change i ≤ (sl.take sn ++ sl'.take sn').length at x1
    change MgK M clk ((sl.take sn ++ sl'.take sn').take i) at x2
    rw [hLn] at x1
    have g1 : ¬ (i : Int) < ((sn + sn' : Nat) : Int) := of_decide_eq_false g1
    have ei : i = sn + sn' := by omega
    subst ei
    rw [List.take_of_length_le (by rw [hLn]; exact Nat.le_refl _)] at x2
    obtain ⟨ko, kb, kq, kl, kn, kc⟩ := k
    have hK : Gth (keK (sl.take sn ++ sl'.take sn')) (ko, kb, kq, kl, kn, kc) := by
      obtain ⟨A, a1, a2, a3⟩ := hk
      have : A = keK (sl.take sn ++ sl'.take sn') := rise_one a1 (unL_rise _) fun j => (a2 j).trans ((x2.keys.mem j).trans mem_unL.symm)
      rw [← this]; exact a3
    have hKl : (keK (sl.take sn ++ sl'.take sn')).length ≤ sn + sn' := by
      have h9 := unL_len ((sl.take sn ++ sl'.take sn').map fun s => s.key)
      rw [List.length_map, hLn] at h9
      exact h9
    have hKn : kn = (keK (sl.take sn ++ sl'.take sn')).length := hK.n
    obtain ⟨j, uo, ub, uq, ul, un, uc⟩ := u
    obtain ⟨u1, u2⟩ := hu
    change j ≤ (keK (sl.take sn ++ sl'.take sn')).length at u1
    change Gth (((keK (sl.take sn ++ sl'.take sn')).take j).map (mgW (sl.take sn ++ sl'.take sn'))) (uo, ub, uq, ul, un, uc) at u2
    have u3 := u2.room
    rw [List.length_map, List.length_take] at u3
    have g3 : (j : Int) < (kn : Int) := of_decide_eq_true g3
    have g3 : j < (keK (sl.take sn ++ sl'.take sn')).length := by omega
    change List Slot at sp2
    have hkj : kl.getD j 0 = (keK (sl.take sn ++ sl'.take sn')).getD j 0 := hK.get g3
    have hin : (keK (sl.take sn ++ sl'.take sn')).getD j 0 ∈ (sl.take sn ++ sl'.take sn').map fun s => s.key := mem_unL.1 (getD_mem g3)
    have hv : mgW (sl.take sn ++ sl'.take sn') ((keK (sl.take sn ++ sl'.take sn')).getD j 0) = mgetS M (kl.getD j 0) := by
      unfold mgW; rw [x2.get hin, hkj]; rfl
    refine Stands.one (j + 1, (true, b25, q25, ul.take un ++ [mgetS M (kl.getD j 0)] ++ sp2, un + 1, cap2)) ⟨⟨by show j + 1 ≤ _; omega, ?_⟩, by show (keK (sl.take sn ++ sl'.take sn')).length - (j + 1) < (keK (sl.take sn ++ sl'.take sn')).length - j; omega, ?_⟩
    · show Gth (((keK (sl.take sn ++ sl'.take sn')).take (j + 1)).map (mgW (sl.take sn ++ sl'.take sn'))) _
      rw [take_snoc (d := 0) g3, List.map_append, List.map_singleton, hv]
      exact u2.snoc e3 e4
    ((conv => (arg 1; reduce)); with_reducible repeat' (first | exact Tr.yes_h | refine Tr.and_h ?_ ?_ | refine Tr.imp_h fun _ => ?_ | refine Tr.all_h fun _ => ?_ | refine Tr.lf_h ?_))
    all_goals (first | first | (show Region.lexB _ _ = true; kernel_rfl) | (show planned _ _ = true; kernel_rfl) | exact rfl | exact True.intro | (first | exact key3 | exact zeroB | exact zeroR | exact zeroS | exact ⟨key3, zeroB⟩ | exact ⟨key3, zeroR⟩ | exact ⟨key3, zeroS⟩) | ((try dsimp only [imp, C0, cG, cInt, cPl, cSlot, cPg, gwCodec] at *); (try refine inR64 ?_ ?_) <;> (try simp only [List.length_set, List.length_append, List.length_take, List.length_drop]) <;> omega))
  · rename_i b10 b11 b12 b13 yF kF yD kD yB kB yO kO bm y hy b20 q20 sp cap e1 e2 x hx g1 z hz k hk u hu g3
    obtain ⟨yo, yb, yq, yl, yn, yc⟩ := y
    obtain ⟨y1, y2, y3, y4, y5⟩ := hy
    change (sl.take sn).length = yn at y2
    rw [tk_len h1] at y2
    subst y2
    change yl.take sn = sl.take sn at y1
    change sn ≤ yc at y3
    change yc ≤ yl.length at y4
    change List Slot at sp
    have hLn : (sl.take sn ++ sl'.take sn').length = sn + sn' := by rw [List.length_append, tk_len h1, tk_len h1']
    obtain ⟨i, M, clk⟩ := x
    obtain ⟨x1, x2⟩ := hx
    change i ≤ (sl.take sn ++ sl'.take sn').length at x1
    change MgK M clk ((sl.take sn ++ sl'.take sn').take i) at x2
    rw [hLn] at x1
    have g1 : ¬ (i : Int) < ((sn + sn' : Nat) : Int) := of_decide_eq_false g1
    have ei : i = sn + sn' := by omega
    subst ei
    rw [List.take_of_length_le (by rw [hLn]; exact Nat.le_refl _)] at x2
    obtain ⟨ko, kb, kq, kl, kn, kc⟩ := k
    have hK : Gth (keK (sl.take sn ++ sl'.take sn')) (ko, kb, kq, kl, kn, kc) := by
      obtain ⟨A, a1, a2, a3⟩ := hk
      have : A = keK (sl.take sn ++ sl'.take sn') := rise_one a1 (unL_rise _) fun j => (a2 j).trans ((x2.keys.mem j).trans mem_unL.symm)
      rw [← this]; exact a3
    have hKl : (keK (sl.take sn ++ sl'.take sn')).length ≤ sn + sn' := by
      have h9 := unL_len ((sl.take sn ++ sl'.take sn').map fun s => s.key)
      rw [List.length_map, hLn] at h9
      exact h9
    have hKn : kn = (keK (sl.take sn ++ sl'.take sn')).length := hK.n
    obtain ⟨j, uo, ub, uq, ul, un, uc⟩ := u
    obtain ⟨u1, u2⟩ := hu
    change j ≤ (keK (sl.take sn ++ sl'.take sn')).length at u1
    change Gth (((keK (sl.take sn ++ sl'.take sn')).take j).map (mgW (sl.take sn ++ sl'.take sn'))) (uo, ub, uq, ul, un, uc) at u2
    have u3 := u2.room
    rw [List.length_map, List.length_take] at u3
    have g3 : ¬ (j : Int) < (kn : Int) := of_decide_eq_false g3
    have ej : j = (keK (sl.take sn ++ sl'.take sn')).length := by omega
    rw [ej, List.take_length] at u2
    refine Ends.one ((uo, ub, uq, ul, un, uc), yF, yD, yB, yO) ⟨u2, ?_, ?_, ?_, ?_⟩ ?_
    · unfold unL; exact kF
    · unfold unL; exact kD
    · unfold unL; exact kB
    · exact kO
    ((conv => (arg 1; reduce)); with_reducible repeat' (first | exact Tr.yes_h | refine Tr.and_h ?_ ?_ | refine Tr.imp_h fun _ => ?_ | refine Tr.all_h fun _ => ?_ | refine Tr.lf_h ?_))
    all_goals (first | first | (show Region.lexB _ _ = true; kernel_rfl) | (show planned _ _ = true; kernel_rfl) | exact rfl | exact True.intro | (first | exact key3 | exact zeroB | exact zeroR | exact zeroS | exact ⟨key3, zeroB⟩ | exact ⟨key3, zeroR⟩ | exact ⟨key3, zeroS⟩) | ((try dsimp only [imp, C0, cG, cInt, cPl, cSlot, cPg, gwCodec] at *); (try refine inR64 ?_ ?_) <;> (try simp only [List.length_set, List.length_append, List.length_take, List.length_drop]) <;> omega))
noncomputable def fcMerge : Fc Tryd.prog C0 where
  tg := .fn 23
  X := Rs × Rs
  args := fun (a, b) => [a.sv 0, b.sv 5]
  mem := fun (a, b) => a.ck ++ b.ck
  pre := fun (a, b) => a.ok ∧ b.ok
  alts := fun (a, b) => [⟨Sq Slot × Sq Int × Sq Int × Sq Int × Sq Pl, MgS a b, fun y => .agg [svL 10 y.1, .int .i64 (max a.n.s b.n.s), .int .i64 (max a.n.t b.n.t), .int .i64 (max a.n.b b.n.b), .int .i64 (max a.n.f b.n.f), svI 11 y.2.1, svI 12 y.2.2.1, svI 13 y.2.2.2.1, svO 14 y.2.2.2.2],
      fun y => a.ck ++ b.ck ++ [chL y.1, chI y.2.1, chI y.2.2.1, chI y.2.2.2.1, chO y.2.2.2.2]⟩]
  mat vs m := match vs with
    | [.agg [.sl i1 0 n1 c1, .int _ s1, .int _ s2, .int _ s3, .int _ s4, .sl i2 0 n2 c2, .sl i3 0 n3 c3, .sl i4 0 n4 c4, .sl i5 0 n5 c5], .agg [.sl j1 0 m1 d1, .int _ t1, .int _ t2, .int _ t3, .int _ t4, .sl j2 0 m2 d2, .sl j3 0 m3 d3, .sl j4 0 m4 d4, .sl j5 0 m5 d5]] =>
      match nth m i1, nth m i2, nth m i3, nth m i4, nth m i5, nth m j1, nth m j2, nth m j3, nth m j4, nth m j5 with
      | ⟨b1, q1, _, _, g1, .rows 40 l1⟩, ⟨b2, q2, _, _, g2, .rows 3 l2⟩, ⟨b3, q3, _, _, g3, .rows 3 l3⟩, ⟨b4, q4, _, _, g4, .rows 3 l4⟩, ⟨b5, q5, _, _, g5, .rows 36 l5⟩,
        ⟨b6, q6, _, _, g6, .rows 40 l6⟩, ⟨b7, q7, _, _, g7, .rows 3 l7⟩, ⟨b8, q8, _, _, g8, .rows 3 l8⟩, ⟨b9, q9, _, _, g9, .rows 3 l9⟩, ⟨b0, q0, _, _, g0, .rows 36 l0⟩ =>
        some ((⟨(onOf g1, b1, q1, l1, n1, c1), ⟨s1, s2, s3, s4⟩, (onOf g2, b2, q2, l2, n2, c2), (onOf g3, b3, q3, l3, n3, c3), (onOf g4, b4, q4, l4, n4, c4), (onOf g5, b5, q5, l5, n5, c5)⟩,
          ⟨(onOf g6, b6, q6, l6, m1, d1), ⟨t1, t2, t3, t4⟩, (onOf g7, b7, q7, l7, m2, d2), (onOf g8, b8, q8, l8, m3, d3), (onOf g9, b9, q9, l9, m4, d4), (onOf g0, b0, q0, l0, m5, d5)⟩), [i1, i2, i3, i4, i5, j1, j2, j3, j4, j5])
      | _, _, _, _, _, _, _, _, _, _ => none
    | _ => none
  ok := fun (a, b) h => merge_ok a b h.1 h.2
end Go.Vx
set_option maxRecDepth 100000
namespace Go.Vx
open Go Go.Proofs
variable [Gl]
theorem among0_ok (o : Bool) (b q : Nat) (l : List Int) (n c : Nat) (x : Int) (h : n ≤ l.length) (hn : n < 4611686018427387904) (ho0 : o = false → n = 0) :
    Tells (C := C0) Tryd.prog (.fn 13) [⟨b, q, 1, false, some o, .rows 3 l⟩] [.sl 0 0 n c, .int .i64 x] (.bool (.tm (anyF (eqI x) (l.take n)))) := by
  have hL := tk_len h
  refine loc_pc (P := Tryd.prog) (E := ⟨[], [], 18, [], [], []⟩) (L := [Iz (eqI x) (l.take n)]) mix Tryd.func13 rfl (by kernel_rfl) (by kernel_rfl) rfl rfl ?_
  ((conv => (arg 1; reduce)); with_reducible repeat' (first | exact Tr.yes_h | refine Tr.and_h ?_ ?_ | refine Tr.imp_h fun _ => ?_ | refine Tr.all_h fun _ => ?_ | refine Tr.lf_h ?_))
  all_goals try (first | (first | (first | first | (show Region.lexB _ _ = true; kernel_rfl) | (show planned _ _ = true; kernel_rfl) | exact rfl | exact True.intro | (first | exact key3 | exact zeroB | exact zeroR | exact zeroS | exact ⟨key3, zeroB⟩ | exact ⟨key3, zeroR⟩ | exact ⟨key3, zeroS⟩) | ((try dsimp only [imp, C0, cG, cInt, cPl, cSlot, cPg, gwCodec] at *); (try refine inR64 ?_ ?_) <;> (try simp only [List.length_set, List.length_append, List.length_take, List.length_drop]) <;> omega)) | ((try dsimp only [imp, C0, cG, cInt, cPl, cSlot, cPg, gwCodec, Iz] at *); (try simp only [decide_eq_true_eq, decide_eq_false_iff_not, Bool.and_eq_true, Bool.or_eq_true, Bool.or_eq_false_iff, Bool.and_eq_false_iff, Bool.not_eq_true', Bool.not_eq_false', SB.val, List.length_append, List.length_cons, List.length_nil, List.length_take, List.length_drop] at *); (first | omega | exact inR64 (by omega) (by omega) | (refine inR64 ?_ ?_ <;> omega)))) | (refine on_of0 ho0 ?_; ((try dsimp only [imp, C0, cG, cInt, cPl, cSlot, cPg, gwCodec, Iz] at *); (try simp only [decide_eq_true_eq, decide_eq_false_iff_not, Bool.and_eq_true, Bool.or_eq_true, Bool.or_eq_false_iff, Bool.and_eq_false_iff, Bool.not_eq_true', Bool.not_eq_false', SB.val, List.length_append, List.length_cons, List.length_nil, List.length_take, List.length_drop] at *); (first | omega | exact inR64 (by omega) (by omega) | (refine inR64 ?_ ?_ <;> omega)))))
  · refine Stands.one (0 : Nat) ⟨⟨Nat.zero_le _, anyF_zero⟩, ?_⟩
    ((conv => (arg 1; reduce)); with_reducible repeat' (first | exact Tr.yes_h | refine Tr.and_h ?_ ?_ | refine Tr.imp_h fun _ => ?_ | refine Tr.all_h fun _ => ?_ | refine Tr.lf_h ?_))
    all_goals (first | first | (show Region.lexB _ _ = true; kernel_rfl) | (show planned _ _ = true; kernel_rfl) | exact rfl | exact True.intro | (first | exact key3 | exact zeroB | exact zeroR | exact zeroS | exact ⟨key3, zeroB⟩ | exact ⟨key3, zeroR⟩ | exact ⟨key3, zeroS⟩) | ((try dsimp only [imp, C0, cG, cInt, cPl, cSlot, cPg, gwCodec] at *); (try refine inR64 ?_ ?_) <;> (try simp only [List.length_set, List.length_append, List.length_take, List.length_drop]) <;> omega))
  · rename_i v hv h1 h2
    change Nat at v
    have h1 : v < n := by have := of_decide_eq_true h1; omega
    have h2 : l.getD v 0 = x := of_decide_eq_true h2
    refine (anyF_at (i := v) (d := 0) (by rw [hL]; exact h1) ?_).symm
    rw [tk_get h1, h2]
    exact decide_eq_true rfl
  · rename_i v hv h1 h2
    change Nat at v
    obtain ⟨e1, e2⟩ := hv
    have h1 : v < n := by have := of_decide_eq_true h1; omega
    have h2 : ¬ l.getD v 0 = x := of_decide_eq_false h2
    refine Stands.one (v + 1 : Nat) ⟨⟨by rw [hL]; exact h1, ?_⟩, ?_, ?_⟩
    · show anyF _ ((l.take n).take (v + 1)) = false
      rw [anyF_snoc (d := 0) (by rw [hL]; exact h1), e2, tk_get h1]
      exact decide_eq_false fun e => h2 e.symm
    · show (l.take n).length - (v + 1) < (l.take n).length - v
      rw [hL]; omega
    ((conv => (arg 1; reduce)); with_reducible repeat' (first | exact Tr.yes_h | refine Tr.and_h ?_ ?_ | refine Tr.imp_h fun _ => ?_ | refine Tr.all_h fun _ => ?_ | refine Tr.lf_h ?_))
    all_goals (first | first | (show Region.lexB _ _ = true; kernel_rfl) | (show planned _ _ = true; kernel_rfl) | exact rfl | exact True.intro | (first | exact key3 | exact zeroB | exact zeroR | exact zeroS | exact ⟨key3, zeroB⟩ | exact ⟨key3, zeroR⟩ | exact ⟨key3, zeroS⟩) | ((try dsimp only [imp, C0, cG, cInt, cPl, cSlot, cPg, gwCodec] at *); (try refine inR64 ?_ ?_) <;> (try simp only [List.length_set, List.length_append, List.length_take, List.length_drop]) <;> omega))
  · rename_i v hv h1
    change Nat at v
    obtain ⟨e1, e2⟩ := hv
    have h1 : ¬ v < n := by have := of_decide_eq_false h1; omega
    rw [List.take_of_length_le (by rw [hL]; omega)] at e2
    exact e2.symm
def pcAmong0 : Pc Tryd.prog C0 where
  tg := .fn 13
  X := Bool × Nat × Nat × List Int × Nat × Nat × Int
  args := fun (o, b, q, l, n, c, x) => [.sl 0 0 n c, .int .i64 x]
  mem := fun (o, b, q, l, n, c, x) => [⟨b, q, 1, false, some o, .rows 3 l⟩]
  pre := fun (o, b, q, l, n, c, x) => n ≤ l.length ∧ n < 4611686018427387904 ∧ (o = false → n = 0)
  res := fun (o, b, q, l, n, c, x) => .bool (.tm (anyF (eqI x) (l.take n)))
  mat vs m := match vs with
    | [.sl a 0 n c, .int _ x] => match nth m a with
      | ⟨b, q, _, _, g, .rows 3 l⟩ => some ((onOf g, b, q, l, n, c, x), [a])
      | _ => none
    | _ => none
  ok := fun (o, b, q, l, n, c, x) h => among0_ok o b q l n c x h.1 h.2.1 h.2.2
theorem among_yes {x : Int} {A : List Int} (h : x ∈ A) : anyF (eqI x) A = true := anyF_iff.2 ⟨x, h, decide_eq_true rfl⟩
theorem rise_lt {A : List Int} (h : Rise A) {i j : Nat} (hij : i < j) (hj : j < A.length) : A.getD i 0 < A.getD j 0 := by
  have h : A.Pairwise (· < ·) := h
  have := List.pairwise_iff_getElem.1 h i j (by omega) hj hij
  simpa [List.getD, List.getElem?_eq_getElem hj, List.getElem?_eq_getElem (show i < A.length by omega)] using this
abbrev SqOK {α : Type} (s : Sq α) : Prop := s.2.2.2.2.1 ≤ s.2.2.2.1.length ∧ s.2.2.2.2.1 < 1000000000 ∧ (s.1 = false → s.2.2.2.2.1 = 0)
def Un (k sl n : Nat) : Inv' C0 := ⟨k, Nat, fun i => [(sl, .int .i64 (i : Int))], fun _ m => m, fun i => i ≤ n, fun i => n - i⟩
def UnP (s a b : Sq Int) : Prop := SqOK s ∧ SqOK a ∧ SqOK b ∧ Rise s.li ∧ (∀ k, k ∈ s.li ↔ k ∈ a.li ∨ k ∈ b.li)
set_option maxHeartbeats 8000000 in
theorem union_ok (s a b : Sq Int) (h : UnP s a b) : Tells (C := C0) Tryd.prog (.fn 24) [roI s, roI a, roI b] [svI 0 s, svI 1 a, svI 2 b] (.bool .t) := by
  obtain ⟨so, sb, sq, sl, sn, sc⟩ := s
  obtain ⟨ao, ab, aq, al, an, ac⟩ := a
  obtain ⟨bo, bb, bq, bl, bn, bc⟩ := b
  obtain ⟨⟨hs1, hs2, hs3⟩, ⟨ha1, ha2, ha3⟩, ⟨hb1, hb2, hb3⟩, hR, hM⟩ := h
  change sn ≤ sl.length at hs1
  change sn < 1000000000 at hs2
  change so = false → sn = 0 at hs3
  change an ≤ al.length at ha1
  change an < 1000000000 at ha2
  change ao = false → an = 0 at ha3
  change bn ≤ bl.length at hb1
  change bn < 1000000000 at hb2
  change bo = false → bn = 0 at hb3
  change Rise (sl.take sn) at hR
  change ∀ k, k ∈ sl.take sn ↔ k ∈ al.take an ∨ k ∈ bl.take bn at hM
  refine loc_pc (P := Tryd.prog) (E := ⟨[], [pcAmong0], 74, [], [], []⟩) (L := [Un 2 7 sn, Un 7 8 an, Un 12 9 bn]) mix Tryd.func24 rfl (by kernel_rfl) (by kernel_rfl) rfl rfl ?_
  ((conv => (arg 1; reduce)); with_reducible repeat' (first | exact Tr.yes_h | refine Tr.and_h ?_ ?_ | refine Tr.imp_h fun _ => ?_ | refine Tr.all_h fun _ => ?_ | refine Tr.lf_h ?_))
  all_goals try (first | (first | (first | first | (show Region.lexB _ _ = true; kernel_rfl) | (show planned _ _ = true; kernel_rfl) | exact rfl | exact True.intro | (first | exact key3 | exact zeroB | exact zeroR | exact zeroS | exact ⟨key3, zeroB⟩ | exact ⟨key3, zeroR⟩ | exact ⟨key3, zeroS⟩) | ((try dsimp only [imp, C0, cG, cInt, cPl, cSlot, cPg, gwCodec] at *); (try refine inR64 ?_ ?_) <;> (try simp only [List.length_set, List.length_append, List.length_take, List.length_drop]) <;> omega)) | ((try dsimp only [imp, C0, cG, cInt, cPl, cSlot, cPg, gwCodec, Un] at *); (try simp only [decide_eq_true_eq, decide_eq_false_iff_not, Bool.and_eq_true, Bool.or_eq_true, Bool.or_eq_false_iff, Bool.and_eq_false_iff, Bool.not_eq_true', Bool.not_eq_false', SB.val, List.length_append, List.length_cons, List.length_nil, List.length_take, List.length_drop] at *); (first | omega | exact inR64 (by omega) (by omega) | (refine inR64 ?_ ?_ <;> omega)))) | (refine on_of0 hs3 ?_; ((try dsimp only [imp, C0, cG, cInt, cPl, cSlot, cPg, gwCodec, Un] at *); (try simp only [decide_eq_true_eq, decide_eq_false_iff_not, Bool.and_eq_true, Bool.or_eq_true, Bool.or_eq_false_iff, Bool.and_eq_false_iff, Bool.not_eq_true', Bool.not_eq_false', SB.val, List.length_append, List.length_cons, List.length_nil, List.length_take, List.length_drop] at *); (first | omega | exact inR64 (by omega) (by omega) | (refine inR64 ?_ ?_ <;> omega)))) | (refine on_of0 ha3 ?_; ((try dsimp only [imp, C0, cG, cInt, cPl, cSlot, cPg, gwCodec, Un] at *); (try simp only [decide_eq_true_eq, decide_eq_false_iff_not, Bool.and_eq_true, Bool.or_eq_true, Bool.or_eq_false_iff, Bool.and_eq_false_iff, Bool.not_eq_true', Bool.not_eq_false', SB.val, List.length_append, List.length_cons, List.length_nil, List.length_take, List.length_drop] at *); (first | omega | exact inR64 (by omega) (by omega) | (refine inR64 ?_ ?_ <;> omega)))) | (refine on_of0 hb3 ?_; ((try dsimp only [imp, C0, cG, cInt, cPl, cSlot, cPg, gwCodec, Un] at *); (try simp only [decide_eq_true_eq, decide_eq_false_iff_not, Bool.and_eq_true, Bool.or_eq_true, Bool.or_eq_false_iff, Bool.and_eq_false_iff, Bool.not_eq_true', Bool.not_eq_false', SB.val, List.length_append, List.length_cons, List.length_nil, List.length_take, List.length_drop] at *); (first | omega | exact inR64 (by omega) (by omega) | (refine inR64 ?_ ?_ <;> omega)))) | exact ⟨ha1, Nat.lt_trans ha2 (by decide), ha3⟩ | exact ⟨hb1, Nat.lt_trans hb2 (by decide), hb3⟩ | exact ⟨hs1, Nat.lt_trans hs2 (by decide), hs3⟩)
  · refine Stands.one (0 : Nat) ⟨Nat.zero_le _, ?_⟩
    ((conv => (arg 1; reduce)); with_reducible repeat' (first | exact Tr.yes_h | refine Tr.and_h ?_ ?_ | refine Tr.imp_h fun _ => ?_ | refine Tr.all_h fun _ => ?_ | refine Tr.lf_h ?_))
    all_goals (first | first | (show Region.lexB _ _ = true; kernel_rfl) | (show planned _ _ = true; kernel_rfl) | exact rfl | exact True.intro | (first | exact key3 | exact zeroB | exact zeroR | exact zeroS | exact ⟨key3, zeroB⟩ | exact ⟨key3, zeroR⟩ | exact ⟨key3, zeroS⟩) | ((try dsimp only [imp, C0, cG, cInt, cPl, cSlot, cPg, gwCodec] at *); (try refine inR64 ?_ ?_) <;> (try simp only [List.length_set, List.length_append, List.length_take, List.length_drop]) <;> omega))
  · rename_i i hi g1 g2
    change Nat at i
    exfalso
    have g1 : (i : Int) < (sn : Int) := of_decide_eq_true g1
    have hin : sl.getD i 0 ∈ sl.take sn := by
      have := getD_mem (l := sl.take sn) (i := i) (d := 0) (by rw [tk_len hs1]; omega)
      rwa [tk_get (by omega)] at this
    rcases Bool.or_eq_true_iff.1 g2 with g3 | g3
    · have g4 : (0 : Int) < (i : Int) := of_decide_eq_true (and_l g3)
      have g5 : sl.getD ((i : Int).toNat + 0) 0 ≤ sl.getD (((i : Int) - 1).toNat + 0) 0 := of_decide_eq_true (and_r g3)
      have e : ((i : Int) - 1).toNat + 0 = i - 1 := by omega
      rw [e] at g5
      have := rise_lt hR (i := i - 1) (j := i) (by omega) (by rw [tk_len hs1]; omega)
      rw [tk_get (by omega), tk_get (by omega)] at this
      have g5 : sl.getD i 0 ≤ sl.getD (i - 1) 0 := g5
      omega
    · have g4 : (!anyF (eqI (sl.getD i 0)) (al.take an)) = true := and_l g3
      have g5 : (!anyF (eqI (sl.getD i 0)) (bl.take bn)) = true := and_r g3
      rcases (hM _).1 hin with h9 | h9
      · rw [among_yes h9] at g4; cases g4
      · rw [among_yes h9] at g5; cases g5
  · rename_i i hi g1 g2
    change Nat at i
    have g1 : (i : Int) < (sn : Int) := of_decide_eq_true g1
    refine Stands.one (i + 1 : Nat) ⟨by show i + 1 ≤ sn; omega, by show sn - (i + 1) < sn - i; omega, ?_⟩
    ((conv => (arg 1; reduce)); with_reducible repeat' (first | exact Tr.yes_h | refine Tr.and_h ?_ ?_ | refine Tr.imp_h fun _ => ?_ | refine Tr.all_h fun _ => ?_ | refine Tr.lf_h ?_))
    all_goals (first | first | (show Region.lexB _ _ = true; kernel_rfl) | (show planned _ _ = true; kernel_rfl) | exact rfl | exact True.intro | (first | exact key3 | exact zeroB | exact zeroR | exact zeroS | exact ⟨key3, zeroB⟩ | exact ⟨key3, zeroR⟩ | exact ⟨key3, zeroS⟩) | ((try dsimp only [imp, C0, cG, cInt, cPl, cSlot, cPg, gwCodec] at *); (try refine inR64 ?_ ?_) <;> (try simp only [List.length_set, List.length_append, List.length_take, List.length_drop]) <;> omega))
  · refine Stands.one (0 : Nat) ⟨Nat.zero_le _, ?_⟩
    ((conv => (arg 1; reduce)); with_reducible repeat' (first | exact Tr.yes_h | refine Tr.and_h ?_ ?_ | refine Tr.imp_h fun _ => ?_ | refine Tr.all_h fun _ => ?_ | refine Tr.lf_h ?_))
    all_goals (first | first | (show Region.lexB _ _ = true; kernel_rfl) | (show planned _ _ = true; kernel_rfl) | exact rfl | exact True.intro | (first | exact key3 | exact zeroB | exact zeroR | exact zeroS | exact ⟨key3, zeroB⟩ | exact ⟨key3, zeroR⟩ | exact ⟨key3, zeroS⟩) | ((try dsimp only [imp, C0, cG, cInt, cPl, cSlot, cPg, gwCodec] at *); (try refine inR64 ?_ ?_) <;> (try simp only [List.length_set, List.length_append, List.length_take, List.length_drop]) <;> omega))
  · rename_i i hi g1 g2
    change Nat at i
    exfalso
    have g1 : (i : Int) < (an : Int) := of_decide_eq_true g1
    have hin : al.getD i 0 ∈ al.take an := by
      have := getD_mem (l := al.take an) (i := i) (d := 0) (by rw [tk_len ha1]; omega)
      rwa [tk_get (by omega)] at this
    have g2 : (!anyF (eqI (al.getD i 0)) (sl.take sn)) = true := g2
    rw [among_yes ((hM _).2 (.inl hin))] at g2
    cases g2
  · rename_i i hi g1 g2
    change Nat at i
    have g1 : (i : Int) < (an : Int) := of_decide_eq_true g1
    refine Stands.one (i + 1 : Nat) ⟨by show i + 1 ≤ an; omega, by show an - (i + 1) < an - i; omega, ?_⟩
    ((conv => (arg 1; reduce)); with_reducible repeat' (first | exact Tr.yes_h | refine Tr.and_h ?_ ?_ | refine Tr.imp_h fun _ => ?_ | refine Tr.all_h fun _ => ?_ | refine Tr.lf_h ?_))
    all_goals (first | first | (show Region.lexB _ _ = true; kernel_rfl) | (show planned _ _ = true; kernel_rfl) | exact rfl | exact True.intro | (first | exact key3 | exact zeroB | exact zeroR | exact zeroS | exact ⟨key3, zeroB⟩ | exact ⟨key3, zeroR⟩ | exact ⟨key3, zeroS⟩) | ((try dsimp only [imp, C0, cG, cInt, cPl, cSlot, cPg, gwCodec] at *); (try refine inR64 ?_ ?_) <;> (try simp only [List.length_set, List.length_append, List.length_take, List.length_drop]) <;> omega))
  · refine Stands.one (0 : Nat) ⟨Nat.zero_le _, ?_⟩
    ((conv => (arg 1; reduce)); with_reducible repeat' (first | exact Tr.yes_h | refine Tr.and_h ?_ ?_ | refine Tr.imp_h fun _ => ?_ | refine Tr.all_h fun _ => ?_ | refine Tr.lf_h ?_))
    all_goals (first | first | (show Region.lexB _ _ = true; kernel_rfl) | (show planned _ _ = true; kernel_rfl) | exact rfl | exact True.intro | (first | exact key3 | exact zeroB | exact zeroR | exact zeroS | exact ⟨key3, zeroB⟩ | exact ⟨key3, zeroR⟩ | exact ⟨key3, zeroS⟩) | ((try dsimp only [imp, C0, cG, cInt, cPl, cSlot, cPg, gwCodec] at *); (try refine inR64 ?_ ?_) <;> (try simp only [List.length_set, List.length_append, List.length_take, List.length_drop]) <;> omega))
  · rename_i i hi g1 g2
    change Nat at i
    exfalso
    have g1 : (i : Int) < (bn : Int) := of_decide_eq_true g1
    have hin : bl.getD i 0 ∈ bl.take bn := by
      have := getD_mem (l := bl.take bn) (i := i) (d := 0) (by rw [tk_len hb1]; omega)
      rwa [tk_get (by omega)] at this
    have g2 : (!anyF (eqI (bl.getD i 0)) (sl.take sn)) = true := g2
    rw [among_yes ((hM _).2 (.inr hin))] at g2
    cases g2
  · rename_i i hi g1 g2
    change Nat at i
    have g1 : (i : Int) < (bn : Int) := of_decide_eq_true g1
    refine Stands.one (i + 1 : Nat) ⟨by show i + 1 ≤ bn; omega, by show bn - (i + 1) < bn - i; omega, ?_⟩
    ((conv => (arg 1; reduce)); with_reducible repeat' (first | exact Tr.yes_h | refine Tr.and_h ?_ ?_ | refine Tr.imp_h fun _ => ?_ | refine Tr.all_h fun _ => ?_ | refine Tr.lf_h ?_))
    all_goals (first | first | (show Region.lexB _ _ = true; kernel_rfl) | (show planned _ _ = true; kernel_rfl) | exact rfl | exact True.intro | (first | exact key3 | exact zeroB | exact zeroR | exact zeroS | exact ⟨key3, zeroB⟩ | exact ⟨key3, zeroR⟩ | exact ⟨key3, zeroS⟩) | ((try dsimp only [imp, C0, cG, cInt, cPl, cSlot, cPg, gwCodec] at *); (try refine inR64 ?_ ?_) <;> (try simp only [List.length_set, List.length_append, List.length_take, List.length_drop]) <;> omega))
def pcUnion : Pc Tryd.prog C0 where
  tg := .fn 24
  X := Sq Int × Sq Int × Sq Int
  args := fun (s, a, b) => [svI 0 s, svI 1 a, svI 2 b]
  mem := fun (s, a, b) => [roI s, roI a, roI b]
  pre := fun (s, a, b) => UnP s a b
  res := fun (s, a, b) => .bool .t
  mat vs m := match vs with
    | [.sl i 0 n1 c1, .sl j 0 n2 c2, .sl k 0 n3 c3] => match nth m i, nth m j, nth m k with
      | ⟨b1, q1, _, _, g1, .rows 3 l1⟩, ⟨b2, q2, _, _, g2, .rows 3 l2⟩, ⟨b3, q3, _, _, g3, .rows 3 l3⟩ => some (((onOf g1, b1, q1, l1, n1, c1), (onOf g2, b2, q2, l2, n2, c2), (onOf g3, b3, q3, l3, n3, c3)), [i, j, k])
      | _, _, _ => none
    | _ => none
  ok := fun (s, a, b) h => union_ok s a b h
end Go.Vx
set_option maxRecDepth 100000
namespace Go.Vx
open Go Go.Proofs
variable [Gl]
end Go.Vx
set_option maxRecDepth 100000
namespace Go.Vx
open Go Go.Proofs
variable [Gl]
end Go.Vx
set_option maxRecDepth 100000
namespace Go.Vx
open Go Go.Proofs
variable [Gl]
end Go.Vx
set_option maxRecDepth 100000
namespace Go.Vx
open Go Go.Proofs
variable [Gl]
theorem plLt_irr {a : Pl} (h : plLt a a) : False := by unfold plLt at h; omega
structure InP (bs ps : Int) (x : Pg) : Prop where
  b : 0 ≤ x.pl.1 ∧ x.pl.1 < bs
  p : 0 ≤ x.pl.2 ∧ x.pl.2 < ps
  c : 1 ≤ x.cl ∧ x.cl ≤ 3
structure Okl (bs ps : Int) (L : List Pg) : Prop where
  mem : ∀ p ∈ L, InP bs ps p
  ord : L.Pairwise fun p q => plLt p.pl q.pl
theorem getD_ix {α : Type} {l : List α} {i : Nat} {d : α} (h : i < l.length) : l.getD i d = l[i] := by
  rw [List.getD_eq_getElem?_getD, List.getElem?_eq_getElem h]; rfl
theorem Okl.filter {bs ps : Int} {L : List Pg} (h : Okl bs ps L) (f : Pg → Bool) : Okl bs ps (L.filter f) :=
  ⟨fun p hp => h.mem p (List.mem_filter.1 hp).1, List.Pairwise.filter f h.ord⟩
theorem Okl.one {bs ps : Int} {L : List Pg} (h : Okl bs ps L) {p q : Pg} (hp : p ∈ L) (hq : q ∈ L) (e : p.pl = q.pl) : p = q := by
  obtain ⟨i, hi, rfl⟩ := List.getElem_of_mem hp
  obtain ⟨j, hj, rfl⟩ := List.getElem_of_mem hq
  have ho := List.pairwise_iff_getElem.1 h.ord
  rcases Nat.lt_trichotomy i j with h1 | h1 | h1
  · have := ho i j hi hj h1
    rw [e] at this
    exact (plLt_irr this).elim
  · subst h1; rfl
  · have := ho j i hj hi h1
    rw [e] at this
    exact (plLt_irr this).elim
theorem badL_len {n : Nat} {Q : List (List Pg)} : (badL n Q).length ≤ n := by
  unfold badL
  exact Nat.le_trans (List.length_filter_le _ _) (by rw [upTo_len]; exact Nat.le_refl n)
end Go.Vx
set_option maxRecDepth 100000
namespace Go.Vx
open Go Go.Proofs
variable [Gl]
section
variable {g : Geo} {L : List Pg} {p : Pg}
end
theorem rise_slots {g : Geo} {n : Nat} {Q : List (List Pg)} : (sloS g n Q).Pairwise fun a b => a.key < b.key := by
  unfold sloS sloL
  rw [List.pairwise_map]
  exact List.Pairwise.filter _ (rise_keyL (g := g) (P := cntP n Q))
theorem numL_len' {p : Nat → Bool} {n : Nat} : (numL p n).length ≤ n := numL_len
end Go.Vx
set_option maxRecDepth 100000
namespace Go.Vx
open Go Go.Proofs
variable [Gl]
end Go.Vx
set_option maxRecDepth 100000
namespace Go.Vx
open Go Go.Proofs
variable [Gl]
abbrev g8 : Geo := ⟨8, 8, 16⟩
abbrev sl8 (L : List Pg) : List Slot := sloS g8 8 (gridL 8 L)
theorem ixF_hit {α : Type} {f : α → Bool} {A : List α} {d : α} (h : 0 ≤ ixF f A) : ∃ i, i < A.length ∧ ixF f A = (i : Int) ∧ f (A.getD i d) = true := by
  unfold ixF at h ⊢
  cases ha : A.any f with
  | false => rw [ha, if_neg Bool.false_ne_true] at h; omega
  | true =>
    rw [if_pos rfl]
    have hlt : A.findIdx f < A.length := List.findIdx_lt_length_of_exists (List.any_eq_true.1 ha)
    refine ⟨A.findIdx f, hlt, rfl, ?_⟩
    rw [getD_ix hlt]
    exact List.findIdx_getElem
end Go.Vx
set_option maxRecDepth 100000
namespace Go.Vx
open Go Go.Proofs
variable [Gl]
def Sm1 : Inv' C0 := ⟨4, Nat, fun i => [(5, .int .i64 (i : Int))], fun _ m => m, fun i => i ≤ 1, fun i => 1 - i⟩
set_option maxHeartbeats 8000000 in
theorem sameOne_ok (o : Bool) (b q : Nat) (l : List Slot) (k c : Nat) (o' : Bool) (b' q' : Nat) (l' : List Slot) (c' : Nat) (h : k < l.length) (h' : 0 < l'.length) (ho : o = true) (ho' : o' = true) (he : l.getD k slot0 = l'.getD 0 slot0) :
    Tells (C := C0) Tryd.prog (.fn 20) [⟨b, q, 9, false, some o, .rows 59 l⟩, ⟨b', q', 9, false, some o', .rows 59 l'⟩] [.sl 0 k 1 c, .sl 1 0 1 c'] (.bool .t) := by
  refine loc_pc (P := Tryd.prog) (E := ⟨[], [pcSamePlace, pcSameMeta], 60, [(6, [0, 1], [.p 0, .p 1, .p 2, .p 3, .p 4, .p 5, .p 6, .p 7, .p 8, .p 9, .e 10, .p 11]), (7, [0, 1], [.p 0, .p 1, .p 2, .p 3, .p 4, .p 5, .p 6, .p 7, .p 8, .p 9, .e 10, .p 11])], [], []⟩) (L := [Sm1]) mix Tryd.func20 rfl (by kernel_rfl) (by kernel_rfl) rfl rfl ?_
  ((conv => (arg 1; reduce)); with_reducible repeat' (first | exact Tr.yes_h | refine Tr.and_h ?_ ?_ | refine Tr.imp_h fun _ => ?_ | refine Tr.all_h fun _ => ?_ | refine Tr.lf_h ?_))
  all_goals try (first | first | (show Region.lexB _ _ = true; kernel_rfl) | (show planned _ _ = true; kernel_rfl) | exact rfl | exact True.intro | (first | exact key3 | exact zeroB | exact zeroR | exact zeroS | exact ⟨key3, zeroB⟩ | exact ⟨key3, zeroR⟩ | exact ⟨key3, zeroS⟩) | ((try dsimp only [imp, C0, cG, cInt, cPl, cSlot, cPg, gwCodec] at *); (try refine inR64 ?_ ?_) <;> (try simp only [List.length_set, List.length_append, List.length_take, List.length_drop]) <;> omega))
  · rename_i h0
    exact absurd (of_decide_eq_true h0) (fun h9 => h9 rfl)
  · refine Stands.one (0 : Nat) ⟨Nat.zero_le _, ?_⟩
    ((conv => (arg 1; reduce)); with_reducible repeat' (first | exact Tr.yes_h | refine Tr.and_h ?_ ?_ | refine Tr.imp_h fun _ => ?_ | refine Tr.all_h fun _ => ?_ | refine Tr.lf_h ?_))
    all_goals (first | first | (show Region.lexB _ _ = true; kernel_rfl) | (show planned _ _ = true; kernel_rfl) | exact rfl | exact True.intro | (first | exact key3 | exact zeroB | exact zeroR | exact zeroS | exact ⟨key3, zeroB⟩ | exact ⟨key3, zeroR⟩ | exact ⟨key3, zeroS⟩) | ((try dsimp only [imp, C0, cG, cInt, cPl, cSlot, cPg, gwCodec] at *); (try refine inR64 ?_ ?_) <;> (try simp only [List.length_set, List.length_append, List.length_take, List.length_drop]) <;> omega))
  all_goals try (
    rename_i h0 v hv h1
    change Nat at v
    have h1 : (v : Int) < ((1 : Nat) : Int) := of_decide_eq_true h1
    first
      | exact h1
      | (show (v : Int).toNat + k < l.length; omega)
      | (show (v : Int).toNat + 0 < l'.length; omega))
  · rename_i h0 v hv h1 h2
    change Nat at v
    have h1 : (v : Int) < ((1 : Nat) : Int) := of_decide_eq_true h1
    have hv : v = 0 := by omega
    subst hv
    exfalso
    have h2 := ne_slot.symm.trans h2
    have h2 : (!eqSlot (l.getD ((0 : Nat) + k) slot0) (l'.getD 0 slot0)) = true := h2
    rw [Nat.zero_add, eqSlot_iff.2 he] at h2
    cases h2
  · rename_i h0 v hv h1 h2
    change Nat at v
    have h1 : (v : Int) < ((1 : Nat) : Int) := of_decide_eq_true h1
    exact inR64 (by show _ ≤ (v : Int) + 1; omega) (by show (v : Int) + 1 ≤ _; omega)
  · rename_i h0 v hv h1 h2
    change Nat at v
    have h1 : (v : Int) < ((1 : Nat) : Int) := of_decide_eq_true h1
    refine Stands.one (Nat.succ v) ⟨by show v + 1 ≤ 1; omega, by show 1 - (v + 1) < 1 - v; omega, ?_⟩
    ((conv => (arg 1; reduce)); with_reducible repeat' (first | exact Tr.yes_h | refine Tr.and_h ?_ ?_ | refine Tr.imp_h fun _ => ?_ | refine Tr.all_h fun _ => ?_ | refine Tr.lf_h ?_))
    all_goals (first | first | (show Region.lexB _ _ = true; kernel_rfl) | (show planned _ _ = true; kernel_rfl) | exact rfl | exact True.intro | (first | exact key3 | exact zeroB | exact zeroR | exact zeroS | exact ⟨key3, zeroB⟩ | exact ⟨key3, zeroR⟩ | exact ⟨key3, zeroS⟩) | ((try dsimp only [imp, C0, cG, cInt, cPl, cSlot, cPg, gwCodec] at *); (try refine inR64 ?_ ?_) <;> (try simp only [List.length_set, List.length_append, List.length_take, List.length_drop]) <;> omega))
def pcSameOne : Pc Tryd.prog C0 where
  tg := .fn 20
  X := (Bool × Nat × Nat × List Slot × Nat × Nat) × (Bool × Nat × Nat × List Slot × Nat)
  args := fun ((o, b, q, l, k, c), (o', b', q', l', c')) => [.sl 0 k 1 c, .sl 1 0 1 c']
  mem := fun ((o, b, q, l, k, c), (o', b', q', l', c')) => [⟨b, q, 9, false, some o, .rows 59 l⟩, ⟨b', q', 9, false, some o', .rows 59 l'⟩]
  pre := fun ((o, b, q, l, k, c), (o', b', q', l', c')) => k < l.length ∧ 0 < l'.length ∧ o = true ∧ o' = true ∧ l.getD k slot0 = l'.getD 0 slot0
  res := fun ((o, b, q, l, k, c), (o', b', q', l', c')) => .bool .t
  mat vs m := match vs with
    | [.sl a k _ c, .sl a' 0 _ c'] => match nth m a, nth m a' with
      | ⟨b, q, _, _, g, .rows 59 l⟩, ⟨b', q', _, _, g', .rows 59 l'⟩ => some (((onOf g, b, q, l, k, c), (onOf g', b', q', l', c')), [a, a'])
      | _, _ => none
    | _ => none
  ok := fun ((o, b, q, l, k, c), (o', b', q', l', c')) h => sameOne_ok o b q l k c o' b' q' l' c' h.1 h.2.1 h.2.2.1 h.2.2.2.1 h.2.2.2.2
abbrev Inc (A : List Slot) : Prop := A.Pairwise fun a b => a.key < b.key
theorem mgV_app (A B : List Slot) (k : Int) : mgV (A ++ B) k = B.foldl (fun o s => if s.key = k then mgU o s else o) (mgV A k) := by unfold mgV; rw [List.foldl_append]
theorem fold_out {k : Int} : ∀ {B : List Slot} (o : Option Slot), (∀ s ∈ B, s.key ≠ k) → B.foldl (fun o s => if s.key = k then mgU o s else o) o = o
  | [], _, _ => rfl
  | s :: r, o, h => by
    rw [List.foldl_cons, if_neg (h s (List.mem_cons_self ..))]
    exact fold_out o fun t ht => h t (List.mem_cons_of_mem _ ht)
theorem fold_in {k : Int} : ∀ {B : List Slot} (o : Option Slot) {i : Nat}, Inc B → i < B.length → (B.getD i slot0).key = k → B.foldl (fun o s => if s.key = k then mgU o s else o) o = mgU o (B.getD i slot0)
  | s :: r, o, 0, h, _, hk => by
    have hk : s.key = k := hk
    rw [List.foldl_cons, if_pos hk]
    exact fold_out _ fun t ht => by have := (List.pairwise_cons.1 h).1 t ht; omega
  | s :: r, o, i + 1, h, hi, hk => by
    have hi : i < r.length := by simpa using hi
    have hk : (r.getD i slot0).key = k := by simpa using hk
    have hs : s.key ≠ k := by
      have := (List.pairwise_cons.1 h).1 _ (getD_mem (d := slot0) hi)
      omega
    rw [List.foldl_cons, if_neg hs, fold_in o (List.pairwise_cons.1 h).2 hi hk]
    simp
def mgR (A B : List Slot) (i : Nat) : Slot :=
  if 0 ≤ ixF (keyIs (A.getD i slot0).key) B ∧ newer (B.getD (ixF (keyIs (A.getD i slot0).key) B).toNat slot0).me (A.getD i slot0).me = true then B.getD (ixF (keyIs (A.getD i slot0).key) B).toNat slot0 else A.getD i slot0
theorem ixF_neg {α : Type} {f : α → Bool} {A : List α} (h : ¬ 0 ≤ ixF f A) : ∀ x ∈ A, f x = false := by
  intro x hx
  cases hf : f x with
  | false => rfl
  | true =>
    have : anyF f A = true := anyF_iff.2 ⟨x, hx, hf⟩
    rw [← ixF_ge] at this
    exact absurd (of_decide_eq_true this) h
theorem mgV_A {A B : List Slot} (hA : Inc A) (hB : Inc B) {i : Nat} (hi : i < A.length) : mgV (A ++ B) (A.getD i slot0).key = some (mgR A B i) := by
  rw [mgV_app]
  have e1 : mgV A (A.getD i slot0).key = some (A.getD i slot0) := by
    have := fold_in (k := (A.getD i slot0).key) none hA hi rfl
    unfold mgV
    rw [this]; rfl
  rw [e1]
  unfold mgR
  by_cases hx : 0 ≤ ixF (keyIs (A.getD i slot0).key) B
  · obtain ⟨j, hj, h2, h3⟩ := ixF_hit (d := slot0) hx
    have h3 : (B.getD j slot0).key = (A.getD i slot0).key := of_decide_eq_true h3
    rw [fold_in _ hB hj h3]
    have e : (ixF (keyIs (A.getD i slot0).key) B).toNat = j := by rw [h2]; rfl
    rw [e]
    show (if newer (B.getD j slot0).me (A.getD i slot0).me then some (B.getD j slot0) else some (A.getD i slot0)) = _
    cases newer (B.getD j slot0).me (A.getD i slot0).me
    · rw [if_neg (by decide), if_neg (fun h => by cases h.2)]
    · rw [if_pos rfl, if_pos ⟨hx, rfl⟩]
  · rw [if_neg (fun h => hx h.1), fold_out]
    intro s hs
    exact of_decide_eq_false (ixF_neg hx s hs)
theorem mgV_key {L : List Slot} {k : Int} {s : Slot} (h : mgV L k = some s) : s.key = k := by
  revert s
  suffices key : ∀ n, n ≤ L.length → ∀ s, mgV (L.take n) k = some s → s.key = k by
    intro s h
    exact key L.length (Nat.le_refl _) s (by rw [List.take_length]; exact h)
  intro n
  induction n with
  | zero => intro _ s h; rw [List.take_zero, mgV_nil] at h; cases h
  | succ n ih =>
    intro hn s h
    rw [take_snoc (d := slot0) (by omega), mgV_snoc] at h
    split at h
    · rename_i hk
      cases ho : mgV (L.take n) k with
      | none => rw [ho] at h; rw [← Option.some.inj h]; exact hk
      | some t =>
        rw [ho] at h
        have h : (if newer (L.getD n slot0).me t.me then some (L.getD n slot0) else some t) = some s := h
        split at h
        · rw [← Option.some.inj h]; exact hk
        · rw [← Option.some.inj h]; exact ih (by omega) t ho
    · exact ih (by omega) s h
theorem mgV_has {L : List Slot} {k : Int} (h : k ∈ L.map fun s => s.key) : ∃ s, mgV L k = some s := by
  suffices key : ∀ n, n ≤ L.length → (k ∈ (L.take n).map fun s => s.key) → ∃ s, mgV (L.take n) k = some s by
    have := key L.length (Nat.le_refl _)
    rw [List.take_length] at this
    exact this h
  intro n
  induction n with
  | zero => intro _ h; rw [List.take_zero] at h; cases h
  | succ n ih =>
    intro hn h
    rw [take_snoc (d := slot0) (by omega)] at h ⊢
    rw [mgV_snoc]
    by_cases hk : (L.getD n slot0).key = k
    · rw [if_pos hk]
      cases mgV (L.take n) k with
      | none => exact ⟨_, rfl⟩
      | some t =>
        show ∃ s, (if newer (L.getD n slot0).me t.me then some (L.getD n slot0) else some t) = some s
        split
        · exact ⟨_, rfl⟩
        · exact ⟨_, rfl⟩
    · rw [if_neg hk]
      rw [List.map_append, List.mem_append] at h
      rcases h with h | h
      · exact ih (by omega) h
      · simp at h; exact absurd h.symm hk
abbrev mgZ (L : List Slot) : List Slot := (keK L).map (mgW L)
theorem mgW_key {L : List Slot} {k : Int} (h : k ∈ keK L) : (mgW L k).key = k := by
  obtain ⟨s, hs⟩ := mgV_has (mem_unL.1 h)
  unfold mgW
  rw [hs]
  exact mgV_key hs
theorem mgZ_inc (L : List Slot) : Inc (mgZ L) := by
  show ((keK L).map (mgW L)).Pairwise _
  rw [List.pairwise_map]
  have h : (keK L).Pairwise (· < ·) := unL_rise _
  exact h.imp_of_mem fun ha hb hab => by rw [mgW_key ha, mgW_key hb]; exact hab
theorem mgZ_find {L : List Slot} {k : Int} (h : k ∈ L.map fun s => s.key) : 0 ≤ ixF (keyIs k) (mgZ L) ∧ (ixF (keyIs k) (mgZ L)).toNat < (mgZ L).length ∧ (mgZ L).getD (ixF (keyIs k) (mgZ L)).toNat slot0 = mgW L k := by
  have hk : k ∈ keK L := mem_unL.2 h
  have hx : 0 ≤ ixF (keyIs k) (mgZ L) := by
    have : anyF (keyIs k) (mgZ L) = true := anyF_iff.2 ⟨_, List.mem_map.2 ⟨k, hk, rfl⟩, decide_eq_true (mgW_key hk)⟩
    rw [← ixF_ge] at this
    exact of_decide_eq_true this
  obtain ⟨j, hj, h2, h3⟩ := ixF_hit (d := slot0) hx
  have h3 : ((mgZ L).getD j slot0).key = k := of_decide_eq_true h3
  have e : (ixF (keyIs k) (mgZ L)).toNat = j := by rw [h2]; rfl
  rw [e]
  refine ⟨hx, hj, ?_⟩
  have hj' : j < (keK L).length := by rw [List.length_map] at hj; exact hj
  have e2 : (mgZ L).getD j slot0 = mgW L ((keK L).getD j 0) := by
    simp [List.getD, List.getElem?_eq_getElem hj']
  rw [e2] at h3 ⊢
  rw [mgW_key (getD_mem hj')] at h3
  rw [h3]
theorem mgZ_A {A B : List Slot} (hA : Inc A) (hB : Inc B) {i : Nat} (hi : i < A.length) : 0 ≤ ixF (keyIs (A.getD i slot0).key) (mgZ (A ++ B)) ∧ (ixF (keyIs (A.getD i slot0).key) (mgZ (A ++ B))).toNat < (mgZ (A ++ B)).length ∧ (mgZ (A ++ B)).getD (ixF (keyIs (A.getD i slot0).key) (mgZ (A ++ B))).toNat slot0 = mgR A B i := by
  have hk : (A.getD i slot0).key ∈ (A ++ B).map fun s => s.key := List.mem_map.2 ⟨_, List.mem_append.2 (.inl (getD_mem hi)), rfl⟩
  obtain ⟨h1, h2, h3⟩ := mgZ_find hk
  refine ⟨h1, h2, h3.trans ?_⟩
  unfold mgW
  rw [mgV_A hA hB hi]; rfl
theorem mgZ_rise {L : List Slot} {n : Nat} (h0 : 0 < n) (h : n < (mgZ L).length) : ((mgZ L).getD (n - 1) slot0).key < ((mgZ L).getD n slot0).key := by
  have := List.pairwise_iff_getElem.1 (mgZ_inc L) (n - 1) n (by omega) h (by omega)
  simpa only [List.getD_eq_getElem?_getD, List.getElem?_eq_getElem h, List.getElem?_eq_getElem (show n - 1 < (mgZ L).length by omega), Option.getD_some] using this
theorem mgZ_from {A B : List Slot} {n : Nat} (h : n < (mgZ (A ++ B)).length) : ¬ (ixF (keyIs ((mgZ (A ++ B)).getD n slot0).key) A < 0 ∧ ixF (keyIs ((mgZ (A ++ B)).getD n slot0).key) B < 0) := by
  rintro ⟨h1, h2⟩
  have hn : n < (keK (A ++ B)).length := by rw [List.length_map] at h; exact h
  have hk : (keK (A ++ B)).getD n 0 ∈ keK (A ++ B) := getD_mem hn
  have e2 : (mgZ (A ++ B)).getD n slot0 = mgW (A ++ B) ((keK (A ++ B)).getD n 0) := by
    simp [List.getD, List.getElem?_eq_getElem hn]
  rw [e2, mgW_key hk] at h1 h2
  obtain ⟨s, hs, hsk⟩ := List.mem_map.1 (mem_unL.1 hk)
  rcases List.mem_append.1 hs with hs | hs
  · have := ixF_neg (f := keyIs ((keK (A ++ B)).getD n 0)) (A := A) (by omega) s hs
    exact absurd hsk (of_decide_eq_false this)
  · have := ixF_neg (f := keyIs ((keK (A ++ B)).getD n 0)) (A := B) (by omega) s hs
    exact absurd hsk (of_decide_eq_false this)
theorem rwL_len {L : List Pg} {n i : Nat} : (rw (gridL n L) i).length ≤ L.length := by
  by_cases h : i < n
  · rw [gridL_at h]; unfold blkL; exact List.length_filter_le _ _
  · have e : rw (gridL n L) i = [] := by
      unfold rw
      rw [List.getD_eq_getElem?_getD, List.getElem?_eq_none (by rw [gridL_len]; omega)]; rfl
    rw [e]; exact Nat.zero_le _
theorem orf_len {L : List Pg} (h : L.length ≤ 120) : (orfS 8 (gridL 8 L)).length < 100000000 := by
  unfold orfS cntP
  have h1 := pgsTo_len (f := cntF 8 (gridL 8 L)) (Q := gridL 8 L) (fun i => Nat.le_trans rwL_len (by omega)) 8
  exact Nat.lt_of_le_of_lt (Nat.le_trans orfL_len h1) (by decide)
theorem sl8_len (L : List Pg) : (sl8 L).length ≤ 33 := by
  refine Nat.le_trans sloL_len ?_
  unfold keyL
  refine Nat.le_trans (List.length_filter_le _ _) ?_
  rw [upTo_len]
  decide
theorem mgZ_len (L : List Slot) : (mgZ L).length ≤ L.length := by
  rw [List.length_map]
  have := unL_len (L.map fun s => s.key)
  rw [List.length_map] at this
  exact this
theorem unP_of {s a b : Sq Int} {A B : List Int} (h : Gth0 (unL (a.li ++ b.li)) s) (ha : Gth A a) (hb : Gth B b) (hA : A.length ≤ 8) (hB : B.length ≤ 8) : UnP s a b := by
  have ea : a.li = A := ha.1
  have eb : b.li = B := hb.1
  have hn : s.2.2.2.2.1 ≤ 16 := by
    rw [← h.2.1, ea, eb]
    refine Nat.le_trans (unL_len _) ?_
    rw [List.length_append]; omega
  have es : s.li = unL (a.li ++ b.li) := h.1
  refine ⟨⟨Nat.le_trans h.2.2.1 h.2.2.2.1, by omega, h.2.2.2.2⟩, ⟨ha.le, by rw [ha.n]; omega, fun h9 => (ha.off h9).1⟩, ⟨hb.le, by rw [hb.n]; omega, fun h9 => (hb.off h9).1⟩, ?_, fun k => ?_⟩
  · rw [es]; exact unL_rise _
  · rw [es, mem_unL, List.mem_append]
theorem mgZ_B {A B : List Slot} {j : Nat} (h : j < B.length) : 0 ≤ ixF (keyIs (B.getD j slot0).key) (mgZ (A ++ B)) :=
  (mgZ_find (List.mem_map.2 ⟨_, List.mem_append.2 (.inr (getD_mem h)), rfl⟩)).1
end Go.Vx
