/-
  Round 22: a scan: the walk of Of.
  Round 22: the document's places and records.
  Round 22: lists that are the same.
  Round 22: what the law looks for.
  Round 22: copies of pages and slots.
  Round 22: the contract of Of; the chapter's examples.
  Round 22: ScanCommits: plain facts.
  Round 22: ScanCommits: what its scan says.
  Round 22: ScanCommits: the walk.
  Round 22: the errors that are laid; the inputs.
  Conditions: none.
-/
import Derived.Test.YtnihemjnhbickaaDoorM4
import Derived.Test.YtnihemjnhbickaaDoorM7
import Derived.Test.YtnihemjnhbickaaDoorRows
import Derived.LaidMore
import Derived.ChangeOld
import Derived.Below
import Derived.Stop.Joined
import Derived.Lib.SmallJoins
set_option linter.unusedVariables false
set_option linter.unusedSimpArgs false
set_option linter.unusedSectionVars false
set_option maxRecDepth 100000
namespace Go.Vx
open Go Go.Proofs
variable [Gl]

abbrev V5 (bs ps : Int) (n : Nat) (so : Bool) (sb : Nat) (lo : Bool) (lb : Nat) (sk : List Int) (L : List Pg) : Inv' C0 := ⟨5, Nat × List (Rw Pg), fun y => [(52, .int .i64 (y.1 : Int))],
  fun y m => match m with
    | c0 :: c1 :: c2 :: ⟨gb, gq, _, _, _, _⟩ :: c4 :: c5 :: _ => [c0, c1, c2, ⟨gb, gq, 1, true, none, .rows 33 y.2⟩, c4, c5]
    | _ => [],
  fun y => y.1 ≤ L.length ∧ GOK n so sb lo lb (L.take y.1) y.2 ∧ ∀ j, j < y.1 → pgBad bs ps sk L j = false, fun y => L.length - y.1⟩
abbrev resA (v : Nm) (S : Sq Slot) (F D B : Sq Int) (O : Sq Pl) : SV := .agg [svL 2 S, .int .i64 v.s, .int .i64 v.t, .int .i64 v.b, .int .i64 v.f, svI 3 F, svI 4 D, svI 5 B, svO 6 O]
abbrev resN : SV := .agg [.nils, .int .i64 0, .int .i64 0, .int .i64 0, .int .i64 0, .nils, .nils, .nils, .nils]
abbrev chK : Sq Int → Ck C0
  | (so, sb, sq, sl, sn, sc) => ⟨sb, sq, 1, false, some so, .rows 3 sl⟩
abbrev chP : Sq Pg → Ck C0
  | (so, sb, sq, sl, sn, sc) => ⟨sb, sq, 9, false, some so, .rows 55 sl⟩
abbrev svP (k : Nat) : Sq Pg → SV
  | (so, sb, sq, sl, sn, sc) => .sl k 0 sn sc
abbrev errSV (g : Nat) : SV := .ifc 142 (.val (.pointer (some (Gl.A g))))
/-- What a scan that is told says. -/
def OfS (g : Geo) (sk : List Int) (L : List Pg) (y : Sq Slot × Sq Int × Sq Int × Sq Int × Sq Pl) : Prop :=
  (∀ j, j < L.length → pgBad g.bs g.ps sk L j = false) ∧ Gth (sloS g g.bs.toNat (gridL g.bs.toNat L)) y.1 ∧ Gth (freS sk g.bs.toNat (gridL g.bs.toNat L)) y.2.1 ∧
  Gth (dirS g sk g.bs.toNat (gridL g.bs.toNat L)) y.2.2.1 ∧ Gth (badL g.bs.toNat (gridL g.bs.toNat L)) y.2.2.2.1 ∧ Gth (orfS g.bs.toNat (gridL g.bs.toNat L)) y.2.2.2.2
abbrev pl4 : List Tk := [.p 0, .p 1, .e 2, .p 3]
set_option maxHeartbeats 64000000 in
theorem of_ok (bs ps ss : Int) (hbs : 1 ≤ bs ∧ bs ≤ 64) (hps : 1 ≤ ps ∧ ps ≤ 64) (hss : 1 ≤ ss ∧ ss ≤ 536870912) (s : Sq Int) (l : Sq Pg)
    (hs : s.2.2.2.2.1 ≤ s.2.2.2.1.length ∧ s.2.2.2.2.1 < 1000000000 ∧ (s.1 = false → s.2.2.2.2.1 = 0 ∧ s.2.2.2.2.2 = 0))
    (hl : l.2.2.2.2.1 ≤ l.2.2.2.1.length ∧ l.2.2.2.2.1 < 1000000 ∧ (l.1 = false → l.2.2.2.2.1 = 0 ∧ l.2.2.2.2.2 = 0)) :
    Does (C := C0) Tryd.prog (.fn 9) [chK s, chP l] [.int .i64 bs, .int .i64 ps, .int .i64 ss, svI 0 s, svP 1 l]
    [⟨Sq Slot × Sq Int × Sq Int × Sq Int × Sq Pl, OfS ⟨bs, ps, ss⟩ s.li l.li,
      fun y => .tup [resA (nmOf bs.toNat (gridL bs.toNat l.li)) y.1 y.2.1 y.2.2.1 y.2.2.2.1 y.2.2.2.2, .nili],
      fun y => [chK s, chP l, chL y.1, chI y.2.1, chI y.2.2.1, chI y.2.2.2.1, chO y.2.2.2.2]⟩,
     ⟨Unit, fun _ => ∃ j, j < l.li.length ∧ pgBad bs ps s.li l.li j = true, fun _ => .tup [resN, errSV 0], fun _ => [chK s, chP l]⟩] := by
  obtain ⟨so, sb, sq, sl, sn, sc⟩ := s
  obtain ⟨lo, lb, lq, ll, ln, lc⟩ := l
  change sn ≤ sl.length ∧ sn < 1000000000 ∧ (so = false → sn = 0 ∧ sc = 0) at hs
  change ln ≤ ll.length ∧ ln < 1000000 ∧ (lo = false → ln = 0 ∧ lc = 0) at hl
  refine loc_fn (P := Tryd.prog) (E := ⟨[fcNumbers, fcSlots, fcRest], [pcPlaces, pcContains], 146, [(2, [], pl4), (10, [], pl4), (12, [1000012, 1000014, 1000015, 3], ofB)], [fG], []⟩) (L := [V5 bs ps bs.toNat so sb lo lb (sl.take sn) (ll.take ln)]) mix Tryd.func9 rfl (by kernel_rfl) (by kernel_rfl) rfl rfl ?_
  ((conv => (arg 1; reduce)); with_reducible repeat' (first | exact Tr.yes_h | refine Tr.and_h ?_ ?_ | refine Tr.imp_h fun _ => ?_ | refine Tr.all_h fun _ => ?_ | refine Tr.lf_h ?_))
  all_goals try (first | first | (show Region.lexB _ _ = true; kernel_rfl) | (show planned _ _ = true; kernel_rfl) | exact rfl | exact True.intro | (first | exact key3 | exact zeroB | exact zeroR | exact zeroS | exact ⟨key3, zeroB⟩ | exact ⟨key3, zeroR⟩ | exact ⟨key3, zeroS⟩) | ((try dsimp only [imp, C0, cG, cInt, cPl, cSlot, cPg, gwCodec] at *); (try refine inR64 ?_ ?_) <;> (try simp only [List.length_set, List.length_append, List.length_take, List.length_drop]) <;> omega))
  · rename_i u0 hg
    exfalso
    have hg : (decide (bs < 1) || decide (64 < bs) || decide (ps < 1) || decide (64 < ps) || decide (ss < 1) || decide (536870912 < ss)) = true := hg
    simp only [Bool.or_eq_true, decide_eq_true_eq] at hg
    omega
  · have e : Tryd.prog.types[33].bytes = 24 := by kernel_rfl
    rw [e]
    exact ⟨by omega, Int.le_refl _, by show (24 : Int) * bs ≤ _; omega, by omega⟩
  · refine Stands.one (0, List.replicate bs.toNat Rw.nil) ⟨⟨Nat.zero_le _, by show GOK _ _ _ _ _ ((ll.take ln).take 0) _; rw [List.take_zero]; exact GOK.nil, fun j hj => absurd hj (Nat.not_lt_zero j)⟩, ?_⟩
    ((conv => (arg 1; reduce)); with_reducible repeat' (first | exact Tr.yes_h | refine Tr.and_h ?_ ?_ | refine Tr.imp_h fun _ => ?_ | refine Tr.all_h fun _ => ?_ | refine Tr.lf_h ?_))
    all_goals (first | first | (show Region.lexB _ _ = true; kernel_rfl) | (show planned _ _ = true; kernel_rfl) | exact rfl | exact True.intro | (first | exact key3 | exact zeroB | exact zeroR | exact zeroS | exact ⟨key3, zeroB⟩ | exact ⟨key3, zeroR⟩ | exact ⟨key3, zeroS⟩) | ((try dsimp only [imp, C0, cG, cInt, cPl, cSlot, cPg, gwCodec] at *); (try refine inR64 ?_ ?_) <;> (try simp only [List.length_set, List.length_append, List.length_take, List.length_drop]) <;> omega))
  · rename_i u0 hg u1 u2 u3 y hy h1
    obtain ⟨i, R⟩ := y
    have hy : i ≤ (ll.take ln).length ∧ GOK bs.toNat so sb lo lb ((ll.take ln).take i) R ∧ ∀ j, j < i → pgBad bs ps (sl.take sn) (ll.take ln) j = false := hy
    have h1 : (i : Int) < (ln : Int) := of_decide_eq_true h1
    exact on_of hl.2.2 (by omega)
  · rename_i u0 hg u1 u2 u3 y hy h1
    obtain ⟨i, R⟩ := y
    have hy : i ≤ (ll.take ln).length ∧ GOK bs.toNat so sb lo lb ((ll.take ln).take i) R ∧ ∀ j, j < i → pgBad bs ps (sl.take sn) (ll.take ln) j = false := hy
    have h1 : (i : Int) < (ln : Int) := of_decide_eq_true h1
    exact h1
  · rename_i u0 hg u1 u2 u3 y hy h1
    obtain ⟨i, R⟩ := y
    have hy : i ≤ (ll.take ln).length ∧ GOK bs.toNat so sb lo lb ((ll.take ln).take i) R ∧ ∀ j, j < i → pgBad bs ps (sl.take sn) (ll.take ln) j = false := hy
    have h1 : (i : Int) < (ln : Int) := of_decide_eq_true h1
    exact on_of hl.2.2 (by omega)
  · rename_i u0 hg u1 u2 u3 y hy h1
    obtain ⟨i, R⟩ := y
    have hy : i ≤ (ll.take ln).length ∧ GOK bs.toNat so sb lo lb ((ll.take ln).take i) R ∧ ∀ j, j < i → pgBad bs ps (sl.take sn) (ll.take ln) j = false := hy
    have h1 : (i : Int) < (ln : Int) := of_decide_eq_true h1
    show i < ll.length
    omega
  · rename_i u0 hg u1 u2 u3 y hy h1 v1 v2 hin h0
    obtain ⟨i, R⟩ := y
    have hy : i ≤ (ll.take ln).length ∧ GOK bs.toNat so sb lo lb ((ll.take ln).take i) R ∧ ∀ j, j < i → pgBad bs ps (sl.take sn) (ll.take ln) j = false := hy
    have h1 : (i : Int) < (ln : Int) := of_decide_eq_true h1
    have h0 : (0 : Int) < (i : Int) := of_decide_eq_true h0
    exact inR64 (by show -9223372036854775808 ≤ (i : Int) - 1; omega) (by show (i : Int) - 1 ≤ 9223372036854775807; omega)
  · rename_i u0 hg u1 u2 u3 y hy h1 v1 v2 hin h0
    obtain ⟨i, R⟩ := y
    have hy : i ≤ (ll.take ln).length ∧ GOK bs.toNat so sb lo lb ((ll.take ln).take i) R ∧ ∀ j, j < i → pgBad bs ps (sl.take sn) (ll.take ln) j = false := hy
    have h1 : (i : Int) < (ln : Int) := of_decide_eq_true h1
    have h0 : (0 : Int) < (i : Int) := of_decide_eq_true h0
    exact on_of hl.2.2 (by omega)
  · rename_i u0 hg u1 u2 u3 y hy h1 v1 v2 hin h0
    obtain ⟨i, R⟩ := y
    have hy : i ≤ (ll.take ln).length ∧ GOK bs.toNat so sb lo lb ((ll.take ln).take i) R ∧ ∀ j, j < i → pgBad bs ps (sl.take sn) (ll.take ln) j = false := hy
    have h1 : (i : Int) < (ln : Int) := of_decide_eq_true h1
    have h0 : (0 : Int) < (i : Int) := of_decide_eq_true h0
    show (0 : Int) ≤ (i : Int) - 1
    omega
  · rename_i u0 hg u1 u2 u3 y hy h1 v1 v2 hin h0
    obtain ⟨i, R⟩ := y
    have hy : i ≤ (ll.take ln).length ∧ GOK bs.toNat so sb lo lb ((ll.take ln).take i) R ∧ ∀ j, j < i → pgBad bs ps (sl.take sn) (ll.take ln) j = false := hy
    have h1 : (i : Int) < (ln : Int) := of_decide_eq_true h1
    have h0 : (0 : Int) < (i : Int) := of_decide_eq_true h0
    show (i : Int) - 1 < (ln : Int)
    omega
  · rename_i u0 hg u1 u2 u3 y hy h1 v1 v2 hin h0
    obtain ⟨i, R⟩ := y
    have hy : i ≤ (ll.take ln).length ∧ GOK bs.toNat so sb lo lb ((ll.take ln).take i) R ∧ ∀ j, j < i → pgBad bs ps (sl.take sn) (ll.take ln) j = false := hy
    have h1 : (i : Int) < (ln : Int) := of_decide_eq_true h1
    have h0 : (0 : Int) < (i : Int) := of_decide_eq_true h0
    exact on_of hl.2.2 (by omega)
  · rename_i u0 hg u1 u2 u3 y hy h1 v1 v2 hin h0
    obtain ⟨i, R⟩ := y
    have hy : i ≤ (ll.take ln).length ∧ GOK bs.toNat so sb lo lb ((ll.take ln).take i) R ∧ ∀ j, j < i → pgBad bs ps (sl.take sn) (ll.take ln) j = false := hy
    have h1 : (i : Int) < (ln : Int) := of_decide_eq_true h1
    have h0 : (0 : Int) < (i : Int) := of_decide_eq_true h0
    show ((i : Int) - 1).toNat + 0 < ll.length
    omega
  · rename_i u0 hg u1 u2 u3 y hy h1 v1 v2 hc
    obtain ⟨i, R⟩ := y
    have hy : i ≤ (ll.take ln).length ∧ GOK bs.toNat so sb lo lb ((ll.take ln).take i) R ∧ ∀ j, j < i → pgBad bs ps (sl.take sn) (ll.take ln) j = false := hy
    have h1 : (i : Int) < (ln : Int) := of_decide_eq_true h1
    exact ⟨hs.1, by show sn < 4611686018427387904; omega, hs.2.2⟩
  · rename_i u0 hg u1 u2 u3 y hy h1 v1 v2 hc
    obtain ⟨i, R⟩ := y
    have hy : i ≤ (ll.take ln).length ∧ GOK bs.toNat so sb lo lb ((ll.take ln).take i) R ∧ ∀ j, j < i → pgBad bs ps (sl.take sn) (ll.take ln) j = false := hy
    have h1 : (i : Int) < (ln : Int) := of_decide_eq_true h1
    have e1 : ((i : Int) - 1).toNat + 0 = i - 1 := by omega
    have hb : pgBad bs ps (sl.take sn) (ll.take ln) i = true := by
      unfold pgBad
      rw [tk_get (by omega), tk_get (by omega), ← e1]
      exact hc
    refine Ends.next (Ends.one () ⟨i, by show i < (ll.take ln).length; rw [tk_len hl.1]; omega, hb⟩ ?_)
    ((conv => (arg 1; reduce)); with_reducible repeat' (first | exact Tr.yes_h | refine Tr.and_h ?_ ?_ | refine Tr.imp_h fun _ => ?_ | refine Tr.all_h fun _ => ?_ | refine Tr.lf_h ?_))
    all_goals (first | first | (show Region.lexB _ _ = true; kernel_rfl) | (show planned _ _ = true; kernel_rfl) | exact rfl | exact True.intro | (first | exact key3 | exact zeroB | exact zeroR | exact zeroS | exact ⟨key3, zeroB⟩ | exact ⟨key3, zeroR⟩ | exact ⟨key3, zeroS⟩) | ((try dsimp only [imp, C0, cG, cInt, cPl, cSlot, cPg, gwCodec] at *); (try refine inR64 ?_ ?_) <;> (try simp only [List.length_set, List.length_append, List.length_take, List.length_drop]) <;> omega))
  · rename_i u0 hg u1 u2 u3 y hy h1 v1 v2 hc hcl
    obtain ⟨i, R⟩ := y
    have hy : i ≤ (ll.take ln).length ∧ GOK bs.toNat so sb lo lb ((ll.take ln).take i) R ∧ ∀ j, j < i → pgBad bs ps (sl.take sn) (ll.take ln) j = false := hy
    have h1 : (i : Int) < (ln : Int) := of_decide_eq_true h1
    have e1 : ((i : Int) - 1).toNat + 0 = i - 1 := by omega
    have hb : pgBad bs ps (sl.take sn) (ll.take ln) i = false := by
      unfold pgBad
      rw [tk_get (by omega), tk_get (by omega), ← e1]
      exact hc
    have hf := pgBad_no hb
    rw [tk_get (by omega)] at hf
    have hLi : (ll.take ln).take (i + 1) = (ll.take ln).take i ++ [ll.getD i pg0] := by rw [take_snoc (d := pg0) (by rw [tk_len hl.1]; omega), tk_get (by omega)]
    have hbd : ∀ j, j < i + 1 → pgBad bs ps (sl.take sn) (ll.take ln) j = false := by
      intro j hj
      by_cases e : j = i
      · rw [e]; exact hb
      · exact hy.2.2 j (by omega)
    have hcl : ¬ (ll.getD i pg0).cl = 2 := of_decide_eq_true hcl
    exact hf.1
  · rename_i u0 hg u1 u2 u3 y hy h1 v1 v2 hc hcl
    obtain ⟨i, R⟩ := y
    have hy : i ≤ (ll.take ln).length ∧ GOK bs.toNat so sb lo lb ((ll.take ln).take i) R ∧ ∀ j, j < i → pgBad bs ps (sl.take sn) (ll.take ln) j = false := hy
    have h1 : (i : Int) < (ln : Int) := of_decide_eq_true h1
    have e1 : ((i : Int) - 1).toNat + 0 = i - 1 := by omega
    have hb : pgBad bs ps (sl.take sn) (ll.take ln) i = false := by
      unfold pgBad
      rw [tk_get (by omega), tk_get (by omega), ← e1]
      exact hc
    have hf := pgBad_no hb
    rw [tk_get (by omega)] at hf
    have hLi : (ll.take ln).take (i + 1) = (ll.take ln).take i ++ [ll.getD i pg0] := by rw [take_snoc (d := pg0) (by rw [tk_len hl.1]; omega), tk_get (by omega)]
    have hbd : ∀ j, j < i + 1 → pgBad bs ps (sl.take sn) (ll.take ln) j = false := by
      intro j hj
      by_cases e : j = i
      · rw [e]; exact hb
      · exact hy.2.2 j (by omega)
    have hcl : ¬ (ll.getD i pg0).cl = 2 := of_decide_eq_true hcl
    show (ll.getD i pg0).pl.1 < (bs.toNat : Int)
    omega
  · rename_i u0 hg u1 u2 u3 y hy h1 v1 v2 hc hcl
    obtain ⟨i, R⟩ := y
    have hy : i ≤ (ll.take ln).length ∧ GOK bs.toNat so sb lo lb ((ll.take ln).take i) R ∧ ∀ j, j < i → pgBad bs ps (sl.take sn) (ll.take ln) j = false := hy
    have h1 : (i : Int) < (ln : Int) := of_decide_eq_true h1
    have e1 : ((i : Int) - 1).toNat + 0 = i - 1 := by omega
    have hb : pgBad bs ps (sl.take sn) (ll.take ln) i = false := by
      unfold pgBad
      rw [tk_get (by omega), tk_get (by omega), ← e1]
      exact hc
    have hf := pgBad_no hb
    rw [tk_get (by omega)] at hf
    have hLi : (ll.take ln).take (i + 1) = (ll.take ln).take i ++ [ll.getD i pg0] := by rw [take_snoc (d := pg0) (by rw [tk_len hl.1]; omega), tk_get (by omega)]
    have hbd : ∀ j, j < i + 1 → pgBad bs ps (sl.take sn) (ll.take ln) j = false := by
      intro j hj
      by_cases e : j = i
      · rw [e]; exact hb
      · exact hy.2.2 j (by omega)
    have hcl : ¬ (ll.getD i pg0).cl = 2 := of_decide_eq_true hcl
    show (ll.getD i pg0).pl.1.toNat + 0 < R.length
    rw [hy.2.1.len]
    omega
  · rename_i u0 hg u1 u2 u3 y hy h1 v1 v2 hc hcl rA hrA u5
    obtain ⟨i, R⟩ := y
    have hy : i ≤ (ll.take ln).length ∧ GOK bs.toNat so sb lo lb ((ll.take ln).take i) R ∧ ∀ j, j < i → pgBad bs ps (sl.take sn) (ll.take ln) j = false := hy
    have h1 : (i : Int) < (ln : Int) := of_decide_eq_true h1
    have e1 : ((i : Int) - 1).toNat + 0 = i - 1 := by omega
    have hb : pgBad bs ps (sl.take sn) (ll.take ln) i = false := by
      unfold pgBad
      rw [tk_get (by omega), tk_get (by omega), ← e1]
      exact hc
    have hf := pgBad_no hb
    rw [tk_get (by omega)] at hf
    have hLi : (ll.take ln).take (i + 1) = (ll.take ln).take i ++ [ll.getD i pg0] := by rw [take_snoc (d := pg0) (by rw [tk_len hl.1]; omega), tk_get (by omega)]
    have hbd : ∀ j, j < i + 1 → pgBad bs ps (sl.take sn) (ll.take ln) j = false := by
      intro j hj
      by_cases e : j = i
      · rw [e]; exact hb
      · exact hy.2.2 j (by omega)
    have hcl : ¬ (ll.getD i pg0).cl = 2 := of_decide_eq_true hcl
    change Rw Pg at rA
    have hrA : R.getD (ll.getD i pg0).pl.1.toNat Rw.nil = rA := hrA
    have han : (ll.getD i pg0).pl.1.toNat < bs.toNat := by omega
    have hg1 := hy.2.1.row _ han
    have hg2 := hy.2.1.rok _ han
    rw [hrA] at hg1 hg2
    have hgl : rA.l.length < 1000000 := by
      rw [hg1]
      refine Nat.lt_of_le_of_lt blkL_len ?_
      rw [List.length_take, tk_len hl.1]
      omega
    show rA.l.length = rA.l.length ∧ rA.l.length ≤ rA.m ∧ 0 + 1 ≤ _ ∧ 1 = 1 ∧ (rA.l.length + 1) * Tryd.prog.types[55].bytes ≤ _
    rw [byP]
    exact ⟨rfl, hg2.2, (Nat.le_refl 1 : 0 + 1 ≤ 1), rfl, by omega⟩
  · rename_i u0 hg u1 u2 u3 y hy h1 v1 v2 hc hcl rA hrA u5
    obtain ⟨i, R⟩ := y
    have hy : i ≤ (ll.take ln).length ∧ GOK bs.toNat so sb lo lb ((ll.take ln).take i) R ∧ ∀ j, j < i → pgBad bs ps (sl.take sn) (ll.take ln) j = false := hy
    have h1 : (i : Int) < (ln : Int) := of_decide_eq_true h1
    have e1 : ((i : Int) - 1).toNat + 0 = i - 1 := by omega
    have hb : pgBad bs ps (sl.take sn) (ll.take ln) i = false := by
      unfold pgBad
      rw [tk_get (by omega), tk_get (by omega), ← e1]
      exact hc
    have hf := pgBad_no hb
    rw [tk_get (by omega)] at hf
    have hLi : (ll.take ln).take (i + 1) = (ll.take ln).take i ++ [ll.getD i pg0] := by rw [take_snoc (d := pg0) (by rw [tk_len hl.1]; omega), tk_get (by omega)]
    have hbd : ∀ j, j < i + 1 → pgBad bs ps (sl.take sn) (ll.take ln) j = false := by
      intro j hj
      by_cases e : j = i
      · rw [e]; exact hb
      · exact hy.2.2 j (by omega)
    have hcl : ¬ (ll.getD i pg0).cl = 2 := of_decide_eq_true hcl
    change Rw Pg at rA
    have hrA : R.getD (ll.getD i pg0).pl.1.toNat Rw.nil = rA := hrA
    have han : (ll.getD i pg0).pl.1.toNat < bs.toNat := by omega
    have hg1 := hy.2.1.row _ han
    have hg2 := hy.2.1.rok _ han
    rw [hrA] at hg1 hg2
    have hgl : rA.l.length < 1000000 := by
      rw [hg1]
      refine Nat.lt_of_le_of_lt blkL_len ?_
      rw [List.length_take, tk_len hl.1]
      omega
    exact hg2.1
  · rename_i u0 hg u1 u2 u3 y hy h1 v1 v2 hc hcl rA hrA u5
    obtain ⟨i, R⟩ := y
    have hy : i ≤ (ll.take ln).length ∧ GOK bs.toNat so sb lo lb ((ll.take ln).take i) R ∧ ∀ j, j < i → pgBad bs ps (sl.take sn) (ll.take ln) j = false := hy
    have h1 : (i : Int) < (ln : Int) := of_decide_eq_true h1
    have e1 : ((i : Int) - 1).toNat + 0 = i - 1 := by omega
    have hb : pgBad bs ps (sl.take sn) (ll.take ln) i = false := by
      unfold pgBad
      rw [tk_get (by omega), tk_get (by omega), ← e1]
      exact hc
    have hf := pgBad_no hb
    rw [tk_get (by omega)] at hf
    have hLi : (ll.take ln).take (i + 1) = (ll.take ln).take i ++ [ll.getD i pg0] := by rw [take_snoc (d := pg0) (by rw [tk_len hl.1]; omega), tk_get (by omega)]
    have hbd : ∀ j, j < i + 1 → pgBad bs ps (sl.take sn) (ll.take ln) j = false := by
      intro j hj
      by_cases e : j = i
      · rw [e]; exact hb
      · exact hy.2.2 j (by omega)
    have hcl : ¬ (ll.getD i pg0).cl = 2 := of_decide_eq_true hcl
    change Rw Pg at rA
    have hrA : R.getD (ll.getD i pg0).pl.1.toNat Rw.nil = rA := hrA
    have han : (ll.getD i pg0).pl.1.toNat < bs.toNat := by omega
    have hg1 := hy.2.1.row _ han
    have hg2 := hy.2.1.rok _ han
    rw [hrA] at hg1 hg2
    have hgl : rA.l.length < 1000000 := by
      rw [hg1]
      refine Nat.lt_of_le_of_lt blkL_len ?_
      rw [List.length_take, tk_len hl.1]
      omega
    intro hon hroom
    have hon : rA.on = true := hon
    have hfar := hy.2.1.far _ han (by rw [hrA]; exact hon)
    have hex := hy.2.1.excl han (by rw [hrA]; exact hon)
    rw [hrA] at hfar hex
    refine ⟨⟨(ll.getD i pg0).pl.1.toNat, by show _ < R.length; rw [hy.2.1.len]; exact han, ?_, hex⟩, And.intro (fun hso => Ne.symm (hfar.1 hso)) (And.intro (fun hlo => Ne.symm (hfar.2 hlo)) trivial)⟩
    refine Eq.trans (b := rA) hrA ?_
    show rA = ⟨true, rA.b, rA.base, rA.m, rA.l⟩
    rw [← hon]
  · rename_i u0 hg u1 u2 u3 y hy h1 v1 v2 hc hcl rA hrA u5 bA qA cA hcA hS
    obtain ⟨i, R⟩ := y
    have hy : i ≤ (ll.take ln).length ∧ GOK bs.toNat so sb lo lb ((ll.take ln).take i) R ∧ ∀ j, j < i → pgBad bs ps (sl.take sn) (ll.take ln) j = false := hy
    have h1 : (i : Int) < (ln : Int) := of_decide_eq_true h1
    have e1 : ((i : Int) - 1).toNat + 0 = i - 1 := by omega
    have hb : pgBad bs ps (sl.take sn) (ll.take ln) i = false := by
      unfold pgBad
      rw [tk_get (by omega), tk_get (by omega), ← e1]
      exact hc
    have hf := pgBad_no hb
    rw [tk_get (by omega)] at hf
    have hLi : (ll.take ln).take (i + 1) = (ll.take ln).take i ++ [ll.getD i pg0] := by rw [take_snoc (d := pg0) (by rw [tk_len hl.1]; omega), tk_get (by omega)]
    have hbd : ∀ j, j < i + 1 → pgBad bs ps (sl.take sn) (ll.take ln) j = false := by
      intro j hj
      by_cases e : j = i
      · rw [e]; exact hb
      · exact hy.2.2 j (by omega)
    have hcl : ¬ (ll.getD i pg0).cl = 2 := of_decide_eq_true hcl
    change Rw Pg at rA
    have hrA : R.getD (ll.getD i pg0).pl.1.toNat Rw.nil = rA := hrA
    have han : (ll.getD i pg0).pl.1.toNat < bs.toNat := by omega
    have hg1 := hy.2.1.row _ han
    have hg2 := hy.2.1.rok _ han
    rw [hrA] at hg1 hg2
    have hgl : rA.l.length < 1000000 := by
      rw [hg1]
      refine Nat.lt_of_le_of_lt blkL_len ?_
      rw [List.length_take, tk_len hl.1]
      omega
    exact hf.1
  · rename_i u0 hg u1 u2 u3 y hy h1 v1 v2 hc hcl rA hrA u5 bA qA cA hcA hS
    obtain ⟨i, R⟩ := y
    have hy : i ≤ (ll.take ln).length ∧ GOK bs.toNat so sb lo lb ((ll.take ln).take i) R ∧ ∀ j, j < i → pgBad bs ps (sl.take sn) (ll.take ln) j = false := hy
    have h1 : (i : Int) < (ln : Int) := of_decide_eq_true h1
    have e1 : ((i : Int) - 1).toNat + 0 = i - 1 := by omega
    have hb : pgBad bs ps (sl.take sn) (ll.take ln) i = false := by
      unfold pgBad
      rw [tk_get (by omega), tk_get (by omega), ← e1]
      exact hc
    have hf := pgBad_no hb
    rw [tk_get (by omega)] at hf
    have hLi : (ll.take ln).take (i + 1) = (ll.take ln).take i ++ [ll.getD i pg0] := by rw [take_snoc (d := pg0) (by rw [tk_len hl.1]; omega), tk_get (by omega)]
    have hbd : ∀ j, j < i + 1 → pgBad bs ps (sl.take sn) (ll.take ln) j = false := by
      intro j hj
      by_cases e : j = i
      · rw [e]; exact hb
      · exact hy.2.2 j (by omega)
    have hcl : ¬ (ll.getD i pg0).cl = 2 := of_decide_eq_true hcl
    change Rw Pg at rA
    have hrA : R.getD (ll.getD i pg0).pl.1.toNat Rw.nil = rA := hrA
    have han : (ll.getD i pg0).pl.1.toNat < bs.toNat := by omega
    have hg1 := hy.2.1.row _ han
    have hg2 := hy.2.1.rok _ han
    rw [hrA] at hg1 hg2
    have hgl : rA.l.length < 1000000 := by
      rw [hg1]
      refine Nat.lt_of_le_of_lt blkL_len ?_
      rw [List.length_take, tk_len hl.1]
      omega
    show (ll.getD i pg0).pl.1 < (bs.toNat : Int)
    omega
  · rename_i u0 hg u1 u2 u3 y hy h1 v1 v2 hc hcl rA hrA u5 bA qA cA hcA hS
    obtain ⟨i, R⟩ := y
    have hy : i ≤ (ll.take ln).length ∧ GOK bs.toNat so sb lo lb ((ll.take ln).take i) R ∧ ∀ j, j < i → pgBad bs ps (sl.take sn) (ll.take ln) j = false := hy
    have h1 : (i : Int) < (ln : Int) := of_decide_eq_true h1
    have e1 : ((i : Int) - 1).toNat + 0 = i - 1 := by omega
    have hb : pgBad bs ps (sl.take sn) (ll.take ln) i = false := by
      unfold pgBad
      rw [tk_get (by omega), tk_get (by omega), ← e1]
      exact hc
    have hf := pgBad_no hb
    rw [tk_get (by omega)] at hf
    have hLi : (ll.take ln).take (i + 1) = (ll.take ln).take i ++ [ll.getD i pg0] := by rw [take_snoc (d := pg0) (by rw [tk_len hl.1]; omega), tk_get (by omega)]
    have hbd : ∀ j, j < i + 1 → pgBad bs ps (sl.take sn) (ll.take ln) j = false := by
      intro j hj
      by_cases e : j = i
      · rw [e]; exact hb
      · exact hy.2.2 j (by omega)
    have hcl : ¬ (ll.getD i pg0).cl = 2 := of_decide_eq_true hcl
    change Rw Pg at rA
    have hrA : R.getD (ll.getD i pg0).pl.1.toNat Rw.nil = rA := hrA
    have han : (ll.getD i pg0).pl.1.toNat < bs.toNat := by omega
    have hg1 := hy.2.1.row _ han
    have hg2 := hy.2.1.rok _ han
    rw [hrA] at hg1 hg2
    have hgl : rA.l.length < 1000000 := by
      rw [hg1]
      refine Nat.lt_of_le_of_lt blkL_len ?_
      rw [List.length_take, tk_len hl.1]
      omega
    show (ll.getD i pg0).pl.1.toNat + 0 < R.length
    rw [hy.2.1.len]
    omega
  · rename_i u0 hg u1 u2 u3 y hy h1 v1 v2 hc hcl rA hrA u5 bA qA cA hcA hS
    obtain ⟨i, R⟩ := y
    have hy : i ≤ (ll.take ln).length ∧ GOK bs.toNat so sb lo lb ((ll.take ln).take i) R ∧ ∀ j, j < i → pgBad bs ps (sl.take sn) (ll.take ln) j = false := hy
    have h1 : (i : Int) < (ln : Int) := of_decide_eq_true h1
    have e1 : ((i : Int) - 1).toNat + 0 = i - 1 := by omega
    have hb : pgBad bs ps (sl.take sn) (ll.take ln) i = false := by
      unfold pgBad
      rw [tk_get (by omega), tk_get (by omega), ← e1]
      exact hc
    have hf := pgBad_no hb
    rw [tk_get (by omega)] at hf
    have hLi : (ll.take ln).take (i + 1) = (ll.take ln).take i ++ [ll.getD i pg0] := by rw [take_snoc (d := pg0) (by rw [tk_len hl.1]; omega), tk_get (by omega)]
    have hbd : ∀ j, j < i + 1 → pgBad bs ps (sl.take sn) (ll.take ln) j = false := by
      intro j hj
      by_cases e : j = i
      · rw [e]; exact hb
      · exact hy.2.2 j (by omega)
    have hcl : ¬ (ll.getD i pg0).cl = 2 := of_decide_eq_true hcl
    change Rw Pg at rA
    have hrA : R.getD (ll.getD i pg0).pl.1.toNat Rw.nil = rA := hrA
    have han : (ll.getD i pg0).pl.1.toNat < bs.toNat := by omega
    have hg1 := hy.2.1.row _ han
    have hg2 := hy.2.1.rok _ han
    rw [hrA] at hg1 hg2
    have hgl : rA.l.length < 1000000 := by
      rw [hg1]
      refine Nat.lt_of_le_of_lt blkL_len ?_
      rw [List.length_take, tk_len hl.1]
      omega
    show rA.l.length + 1 = (rA.l ++ [ll.getD i pg0]).length
    simp
  · rename_i u0 hg u1 u2 u3 y hy h1 v1 v2 hc hcl rA hrA u5 bA qA cA hcA hS
    obtain ⟨i, R⟩ := y
    have hy : i ≤ (ll.take ln).length ∧ GOK bs.toNat so sb lo lb ((ll.take ln).take i) R ∧ ∀ j, j < i → pgBad bs ps (sl.take sn) (ll.take ln) j = false := hy
    have h1 : (i : Int) < (ln : Int) := of_decide_eq_true h1
    have e1 : ((i : Int) - 1).toNat + 0 = i - 1 := by omega
    have hb : pgBad bs ps (sl.take sn) (ll.take ln) i = false := by
      unfold pgBad
      rw [tk_get (by omega), tk_get (by omega), ← e1]
      exact hc
    have hf := pgBad_no hb
    rw [tk_get (by omega)] at hf
    have hLi : (ll.take ln).take (i + 1) = (ll.take ln).take i ++ [ll.getD i pg0] := by rw [take_snoc (d := pg0) (by rw [tk_len hl.1]; omega), tk_get (by omega)]
    have hbd : ∀ j, j < i + 1 → pgBad bs ps (sl.take sn) (ll.take ln) j = false := by
      intro j hj
      by_cases e : j = i
      · rw [e]; exact hb
      · exact hy.2.2 j (by omega)
    have hcl : ¬ (ll.getD i pg0).cl = 2 := of_decide_eq_true hcl
    change Rw Pg at rA
    have hrA : R.getD (ll.getD i pg0).pl.1.toNat Rw.nil = rA := hrA
    have han : (ll.getD i pg0).pl.1.toNat < bs.toNat := by omega
    have hg1 := hy.2.1.row _ han
    have hg2 := hy.2.1.rok _ han
    rw [hrA] at hg1 hg2
    have hgl : rA.l.length < 1000000 := by
      rw [hg1]
      refine Nat.lt_of_le_of_lt blkL_len ?_
      rw [List.length_take, tk_len hl.1]
      omega
    exact inR64 (by show -9223372036854775808 ≤ (i : Int) + 1; omega) (by show (i : Int) + 1 ≤ 9223372036854775807; omega)
  · rename_i u0 hg u1 u2 u3 y hy h1 v1 v2 hc hcl rA hrA u5 bA qA cA hcA hS
    obtain ⟨i, R⟩ := y
    have hy : i ≤ (ll.take ln).length ∧ GOK bs.toNat so sb lo lb ((ll.take ln).take i) R ∧ ∀ j, j < i → pgBad bs ps (sl.take sn) (ll.take ln) j = false := hy
    have h1 : (i : Int) < (ln : Int) := of_decide_eq_true h1
    have e1 : ((i : Int) - 1).toNat + 0 = i - 1 := by omega
    have hb : pgBad bs ps (sl.take sn) (ll.take ln) i = false := by
      unfold pgBad
      rw [tk_get (by omega), tk_get (by omega), ← e1]
      exact hc
    have hf := pgBad_no hb
    rw [tk_get (by omega)] at hf
    have hLi : (ll.take ln).take (i + 1) = (ll.take ln).take i ++ [ll.getD i pg0] := by rw [take_snoc (d := pg0) (by rw [tk_len hl.1]; omega), tk_get (by omega)]
    have hbd : ∀ j, j < i + 1 → pgBad bs ps (sl.take sn) (ll.take ln) j = false := by
      intro j hj
      by_cases e : j = i
      · rw [e]; exact hb
      · exact hy.2.2 j (by omega)
    have hcl : ¬ (ll.getD i pg0).cl = 2 := of_decide_eq_true hcl
    change Rw Pg at rA
    have hrA : R.getD (ll.getD i pg0).pl.1.toNat Rw.nil = rA := hrA
    have han : (ll.getD i pg0).pl.1.toNat < bs.toNat := by omega
    have hg1 := hy.2.1.row _ han
    have hg2 := hy.2.1.rok _ han
    rw [hrA] at hg1 hg2
    have hgl : rA.l.length < 1000000 := by
      rw [hg1]
      refine Nat.lt_of_le_of_lt blkL_len ?_
      rw [List.length_take, tk_len hl.1]
      omega
    have hput : GOK bs.toNat so sb lo lb ((ll.take ln).take (i + 1)) (R.set (ll.getD i pg0).pl.1.toNat ⟨true, bA, qA, cA, rA.l ++ [ll.getD i pg0]⟩) := by
      rw [hLi, hg1]
      refine hy.2.1.put han (by omega) hcl (by rw [← hg1]; exact hcA) ?_
      rw [hrA]
      rcases hS with hS | hS
      · exact .inl ⟨hS.1, hS.2.2.1⟩
      · have hF := freshL_to hS
        exact .inr ⟨fun hso e => (hF 0 (show 0 < 10 by decide)).1 hso e.symm, fun hlo e => (hF 1 (show 1 < 10 by decide)).1 hlo e.symm, fun r hr => (hF 3 (show 3 < 10 by decide)).2 33 r (.rows hr)⟩
    refine Stands.one (i + 1, R.set (ll.getD i pg0).pl.1.toNat ⟨true, bA, qA, cA, rA.l ++ [ll.getD i pg0]⟩) ⟨⟨by show i + 1 ≤ (ll.take ln).length; rw [tk_len hl.1]; omega, hput, hbd⟩, by show (ll.take ln).length - (i + 1) < (ll.take ln).length - i; rw [tk_len hl.1]; omega, ?_⟩
    ((conv => (arg 1; reduce)); with_reducible repeat' (first | exact Tr.yes_h | refine Tr.and_h ?_ ?_ | refine Tr.imp_h fun _ => ?_ | refine Tr.all_h fun _ => ?_ | refine Tr.lf_h ?_))
    all_goals (first | first | (show Region.lexB _ _ = true; kernel_rfl) | (show planned _ _ = true; kernel_rfl) | exact rfl | exact True.intro | (first | exact key3 | exact zeroB | exact zeroR | exact zeroS | exact ⟨key3, zeroB⟩ | exact ⟨key3, zeroR⟩ | exact ⟨key3, zeroS⟩) | ((try dsimp only [imp, C0, cG, cInt, cPl, cSlot, cPg, gwCodec] at *); (try refine inR64 ?_ ?_) <;> (try simp only [List.length_set, List.length_append, List.length_take, List.length_drop]) <;> omega))
  · rename_i u0 hg u1 u2 u3 y hy h1 v1 v2 hc hcl
    obtain ⟨i, R⟩ := y
    have hy : i ≤ (ll.take ln).length ∧ GOK bs.toNat so sb lo lb ((ll.take ln).take i) R ∧ ∀ j, j < i → pgBad bs ps (sl.take sn) (ll.take ln) j = false := hy
    have h1 : (i : Int) < (ln : Int) := of_decide_eq_true h1
    have e1 : ((i : Int) - 1).toNat + 0 = i - 1 := by omega
    have hb : pgBad bs ps (sl.take sn) (ll.take ln) i = false := by
      unfold pgBad
      rw [tk_get (by omega), tk_get (by omega), ← e1]
      exact hc
    have hf := pgBad_no hb
    rw [tk_get (by omega)] at hf
    have hLi : (ll.take ln).take (i + 1) = (ll.take ln).take i ++ [ll.getD i pg0] := by rw [take_snoc (d := pg0) (by rw [tk_len hl.1]; omega), tk_get (by omega)]
    have hbd : ∀ j, j < i + 1 → pgBad bs ps (sl.take sn) (ll.take ln) j = false := by
      intro j hj
      by_cases e : j = i
      · rw [e]; exact hb
      · exact hy.2.2 j (by omega)
    have hcl : (ll.getD i pg0).cl = 2 := Decidable.of_not_not (of_decide_eq_false hcl)
    exact inR64 (by show -9223372036854775808 ≤ (i : Int) + 1; omega) (by show (i : Int) + 1 ≤ 9223372036854775807; omega)
  · rename_i u0 hg u1 u2 u3 y hy h1 v1 v2 hc hcl
    obtain ⟨i, R⟩ := y
    have hy : i ≤ (ll.take ln).length ∧ GOK bs.toNat so sb lo lb ((ll.take ln).take i) R ∧ ∀ j, j < i → pgBad bs ps (sl.take sn) (ll.take ln) j = false := hy
    have h1 : (i : Int) < (ln : Int) := of_decide_eq_true h1
    have e1 : ((i : Int) - 1).toNat + 0 = i - 1 := by omega
    have hb : pgBad bs ps (sl.take sn) (ll.take ln) i = false := by
      unfold pgBad
      rw [tk_get (by omega), tk_get (by omega), ← e1]
      exact hc
    have hf := pgBad_no hb
    rw [tk_get (by omega)] at hf
    have hLi : (ll.take ln).take (i + 1) = (ll.take ln).take i ++ [ll.getD i pg0] := by rw [take_snoc (d := pg0) (by rw [tk_len hl.1]; omega), tk_get (by omega)]
    have hbd : ∀ j, j < i + 1 → pgBad bs ps (sl.take sn) (ll.take ln) j = false := by
      intro j hj
      by_cases e : j = i
      · rw [e]; exact hb
      · exact hy.2.2 j (by omega)
    have hcl : (ll.getD i pg0).cl = 2 := Decidable.of_not_not (of_decide_eq_false hcl)
    refine Stands.one (i + 1, R) ⟨⟨by show i + 1 ≤ (ll.take ln).length; rw [tk_len hl.1]; omega, by show GOK _ _ _ _ _ ((ll.take ln).take (i + 1)) _; rw [hLi]; exact hy.2.1.no hcl, hbd⟩, by show (ll.take ln).length - (i + 1) < (ll.take ln).length - i; rw [tk_len hl.1]; omega, ?_⟩
    ((conv => (arg 1; reduce)); with_reducible repeat' (first | exact Tr.yes_h | refine Tr.and_h ?_ ?_ | refine Tr.imp_h fun _ => ?_ | refine Tr.all_h fun _ => ?_ | refine Tr.lf_h ?_))
    all_goals (first | first | (show Region.lexB _ _ = true; kernel_rfl) | (show planned _ _ = true; kernel_rfl) | exact rfl | exact True.intro | (first | exact key3 | exact zeroB | exact zeroR | exact zeroS | exact ⟨key3, zeroB⟩ | exact ⟨key3, zeroR⟩ | exact ⟨key3, zeroS⟩) | ((try dsimp only [imp, C0, cG, cInt, cPl, cSlot, cPg, gwCodec] at *); (try refine inR64 ?_ ?_) <;> (try simp only [List.length_set, List.length_append, List.length_take, List.length_drop]) <;> omega))
  · rename_i u0 hg u1 u2 u3 y hy h1
    obtain ⟨i, R⟩ := y
    have hy : i ≤ (ll.take ln).length ∧ GOK bs.toNat so sb lo lb ((ll.take ln).take i) R ∧ ∀ j, j < i → pgBad bs ps (sl.take sn) (ll.take ln) j = false := hy
    have h1 : ¬ (i : Int) < (ln : Int) := of_decide_eq_false h1
    have ei : i = (ll.take ln).length := by have := hy.1; rw [tk_len hl.1] at this ⊢; omega
    have hG : GOK bs.toNat so sb lo lb (ll.take ln) R := by
      have := hy.2.1
      rw [ei, List.take_of_length_le (Nat.le_refl _)] at this
      exact this
    have hM := hG.mem (by rw [tk_len hl.1]; exact hl.2.1)
    have hgr := hG.grid
    have hbn : bs = (bs.toNat : Int) := by omega
    have hx : Cx.ok ⟨u3, 0, bs, ps, ss, so, sb, sq, sl, sn, sc, u1, 0, R, bs.toNat, bs.toNat, u2⟩ :=
      ⟨hbn, hG.len.symm, by show bs.toNat ≤ 64; omega, ⟨by show 0 ≤ ps; omega, hps.2⟩, ⟨by show 0 ≤ ss; omega, hss.2⟩, fun r hr => (hM r hr).1, fun r hr => (hM r hr).2, hs⟩
    exact hx
  · rename_i u0 hg u1 u2 u3 y hy h1 Y1 hY1
    obtain ⟨i, R⟩ := y
    have hy : i ≤ (ll.take ln).length ∧ GOK bs.toNat so sb lo lb ((ll.take ln).take i) R ∧ ∀ j, j < i → pgBad bs ps (sl.take sn) (ll.take ln) j = false := hy
    have h1 : ¬ (i : Int) < (ln : Int) := of_decide_eq_false h1
    have ei : i = (ll.take ln).length := by have := hy.1; rw [tk_len hl.1] at this ⊢; omega
    have hG : GOK bs.toNat so sb lo lb (ll.take ln) R := by
      have := hy.2.1
      rw [ei, List.take_of_length_le (Nat.le_refl _)] at this
      exact this
    have hM := hG.mem (by rw [tk_len hl.1]; exact hl.2.1)
    have hgr := hG.grid
    have hbn : bs = (bs.toNat : Int) := by omega
    have hx : Cx.ok ⟨u3, 0, bs, ps, ss, so, sb, sq, sl, sn, sc, u1, 0, R, bs.toNat, bs.toNat, u2⟩ :=
      ⟨hbn, hG.len.symm, by show bs.toNat ≤ 64; omega, ⟨by show 0 ≤ ps; omega, hps.2⟩, ⟨by show 0 ≤ ss; omega, hss.2⟩, fun r hr => (hM r hr).1, fun r hr => (hM r hr).2, hs⟩
    exact ⟨hx, hY1.1⟩
  · rename_i u0 hg u1 u2 u3 y hy h1 Y1 hY1 Y2 hY2
    obtain ⟨i, R⟩ := y
    have hy : i ≤ (ll.take ln).length ∧ GOK bs.toNat so sb lo lb ((ll.take ln).take i) R ∧ ∀ j, j < i → pgBad bs ps (sl.take sn) (ll.take ln) j = false := hy
    have h1 : ¬ (i : Int) < (ln : Int) := of_decide_eq_false h1
    have ei : i = (ll.take ln).length := by have := hy.1; rw [tk_len hl.1] at this ⊢; omega
    have hG : GOK bs.toNat so sb lo lb (ll.take ln) R := by
      have := hy.2.1
      rw [ei, List.take_of_length_le (Nat.le_refl _)] at this
      exact this
    have hM := hG.mem (by rw [tk_len hl.1]; exact hl.2.1)
    have hgr := hG.grid
    have hbn : bs = (bs.toNat : Int) := by omega
    have hx : Cx.ok ⟨u3, 0, bs, ps, ss, so, sb, sq, sl, sn, sc, u1, 0, R, bs.toNat, bs.toNat, u2⟩ :=
      ⟨hbn, hG.len.symm, by show bs.toNat ≤ 64; omega, ⟨by show 0 ≤ ps; omega, hps.2⟩, ⟨by show 0 ≤ ss; omega, hss.2⟩, fun r hr => (hM r hr).1, fun r hr => (hM r hr).2, hs⟩
    refine ⟨hx, hY1.1, ?_, ?_⟩
    · have h9 := hY2.1
      have e : _ = _ := h9.1
      rw [← e] at h9
      exact h9
    · have e : _ = _ := hY2.1.1
      rw [e]
      exact Nat.le_trans sloL_len (keyL_len ⟨⟨by show 0 ≤ bs; omega, by show bs ≤ 64; omega⟩, ⟨by show 0 ≤ ps; omega, hps.2⟩, ⟨by show 0 ≤ ss; omega, hss.2⟩⟩)
  · rename_i u0 hg u1 u2 u3 y hy h1 Y1 hY1 Y2 hY2 Y3 hY3
    obtain ⟨i, R⟩ := y
    have hy : i ≤ (ll.take ln).length ∧ GOK bs.toNat so sb lo lb ((ll.take ln).take i) R ∧ ∀ j, j < i → pgBad bs ps (sl.take sn) (ll.take ln) j = false := hy
    have h1 : ¬ (i : Int) < (ln : Int) := of_decide_eq_false h1
    have ei : i = (ll.take ln).length := by have := hy.1; rw [tk_len hl.1] at this ⊢; omega
    have hG : GOK bs.toNat so sb lo lb (ll.take ln) R := by
      have := hy.2.1
      rw [ei, List.take_of_length_le (Nat.le_refl _)] at this
      exact this
    have hM := hG.mem (by rw [tk_len hl.1]; exact hl.2.1)
    have hgr := hG.grid
    have hbn : bs = (bs.toNat : Int) := by omega
    have hx : Cx.ok ⟨u3, 0, bs, ps, ss, so, sb, sq, sl, sn, sc, u1, 0, R, bs.toNat, bs.toNat, u2⟩ :=
      ⟨hbn, hG.len.symm, by show bs.toNat ≤ 64; omega, ⟨by show 0 ≤ ps; omega, hps.2⟩, ⟨by show 0 ≤ ss; omega, hss.2⟩, fun r hr => (hM r hr).1, fun r hr => (hM r hr).2, hs⟩
    have hbd : ∀ j, j < (ll.take ln).length → pgBad bs ps (sl.take sn) (ll.take ln) j = false := by
      intro j hj
      exact hy.2.2 j (by omega)
    have hA : Gth (sloS ⟨bs, ps, ss⟩ bs.toNat (R.map fun r => r.l)) Y2.1 ∧ Gth (orfS bs.toNat (R.map fun r => r.l)) Y2.2 := hY2
    have eA : _ = _ := hA.1.1
    have hB : Gth (freS (sl.take sn) bs.toNat (R.map fun r => r.l)) Y3.1 ∧ Gth (numL (dirP (sl.take sn) bs.toNat (R.map fun r => r.l) (nmOf bs.toNat (R.map fun r => r.l)).f (Y2.1.2.2.2.1.take Y2.1.2.2.2.2.1)) bs.toNat) Y3.2 := hY3
    rw [eA] at hB
    have hC : Gth (badL bs.toNat (R.map fun r => r.l)) Y1.2.2 := hY1.2
    have e1 : fTo (mxH Me.seq) allF (R.map fun r => r.l) bs.toNat = (nmOf bs.toNat (gridL bs.toNat (ll.take ln))).s := by rw [← hgr]; rfl
    have e2 : fTo (mxH Me.stamp) allF (R.map fun r => r.l) bs.toNat = (nmOf bs.toNat (gridL bs.toNat (ll.take ln))).t := by rw [← hgr]; rfl
    have e3 : max (fTo (mxH Me.batch) allF (R.map fun r => r.l) bs.toNat) (fTo flH (cntF bs.toNat (R.map fun r => r.l)) (R.map fun r => r.l) bs.toNat) = (nmOf bs.toNat (gridL bs.toNat (ll.take ln))).b := by rw [← hgr]; rfl
    have e4 : fTo flH (cntF bs.toNat (R.map fun r => r.l)) (R.map fun r => r.l) bs.toNat = (nmOf bs.toNat (gridL bs.toNat (ll.take ln))).f := by rw [← hgr]; rfl
    rw [hgr] at hA hB hC
    refine Ends.one (Y2.1, Y3.1, Y3.2, Y1.2.2, Y2.2) ⟨hbd, hA.1, hB.1, hB.2, hC, hA.2⟩ ?_
    ((conv => (arg 1; reduce)); with_reducible repeat' (first | exact Tr.yes_h | refine Tr.and_h ?_ ?_ | refine Tr.imp_h fun _ => ?_ | refine Tr.all_h fun _ => ?_ | refine Tr.lf_h ?_))
    all_goals first | (first | first | (show Region.lexB _ _ = true; kernel_rfl) | (show planned _ _ = true; kernel_rfl) | exact rfl | exact True.intro | (first | exact key3 | exact zeroB | exact zeroR | exact zeroS | exact ⟨key3, zeroB⟩ | exact ⟨key3, zeroR⟩ | exact ⟨key3, zeroS⟩) | ((try dsimp only [imp, C0, cG, cInt, cPl, cSlot, cPg, gwCodec] at *); (try refine inR64 ?_ ?_) <;> (try simp only [List.length_set, List.length_append, List.length_take, List.length_drop]) <;> omega)) | exact e1 | exact e1.symm | exact e2 | exact e2.symm | exact e3 | exact e3.symm | exact e4 | exact e4.symm
end Go.Vx
set_option maxRecDepth 100000
namespace Go.Vx
open Go Go.Proofs
variable [Gl]

theorem samePlace_ok (a b : Pl) : Tells (C := C0) Tryd.prog (.fn 14) [] [.agg (plE a), .agg (plE b)] (.bool (.tm (decide (a.1 = b.1) && decide (a.2 = b.2)))) := by
  refine loc_pc (P := Tryd.prog) (E := ⟨[], [], 17, [], [], []⟩) (L := []) mix Tryd.func14 rfl (by kernel_rfl) (by kernel_rfl) rfl rfl ?_
  ((conv => (arg 1; reduce)); with_reducible repeat' (first | exact Tr.yes_h | refine Tr.and_h ?_ ?_ | refine Tr.imp_h fun _ => ?_ | refine Tr.all_h fun _ => ?_ | refine Tr.lf_h ?_))
  all_goals (first | first | (show Region.lexB _ _ = true; kernel_rfl) | (show planned _ _ = true; kernel_rfl) | exact rfl | exact True.intro | (first | exact key3 | exact zeroB | exact zeroR | exact zeroS | exact ⟨key3, zeroB⟩ | exact ⟨key3, zeroR⟩ | exact ⟨key3, zeroS⟩) | ((try dsimp only [imp, C0, cG, cInt, cPl, cSlot, cPg, gwCodec] at *); (try refine inR64 ?_ ?_) <;> (try simp only [List.length_set, List.length_append, List.length_take, List.length_drop]) <;> omega))
def pcSamePlace : Pc Tryd.prog C0 where
  tg := .fn 14
  X := Pl × Pl
  args x := [.agg (plE x.1), .agg (plE x.2)]
  mem _ := []
  pre _ := True
  res x := .bool (.tm (decide (x.1.1 = x.2.1) && decide (x.1.2 = x.2.2)))
  mat vs _ := match vs with
    | [.agg [.int _ a1, .int _ a2], .agg [.int _ b1, .int _ b2]] => some (((a1, a2), (b1, b2)), [])
    | _ => none
  ok x _ := samePlace_ok x.1 x.2
theorem sameMeta_ok (a b : Me) : Tells (C := C0) Tryd.prog (.fn 16) [] [.agg (meE a), .agg (meE b)] (.bool (.tm (eqMe a b))) := by
  refine loc_pc (P := Tryd.prog) (E := ⟨[], [], 45, [], [], []⟩) (L := []) mix Tryd.func16 rfl (by kernel_rfl) (by kernel_rfl) rfl rfl ?_
  ((conv => (arg 1; reduce)); with_reducible repeat' (first | exact Tr.yes_h | refine Tr.and_h ?_ ?_ | refine Tr.imp_h fun _ => ?_ | refine Tr.all_h fun _ => ?_ | refine Tr.lf_h ?_))
  all_goals (first | first | (show Region.lexB _ _ = true; kernel_rfl) | (show planned _ _ = true; kernel_rfl) | exact rfl | exact True.intro | (first | exact key3 | exact zeroB | exact zeroR | exact zeroS | exact ⟨key3, zeroB⟩ | exact ⟨key3, zeroR⟩ | exact ⟨key3, zeroS⟩) | ((try dsimp only [imp, C0, cG, cInt, cPl, cSlot, cPg, gwCodec] at *); (try refine inR64 ?_ ?_) <;> (try simp only [List.length_set, List.length_append, List.length_take, List.length_drop]) <;> omega))
def pcSameMeta : Pc Tryd.prog C0 where
  tg := .fn 16
  X := Me × Me
  args x := [.agg (meE x.1), .agg (meE x.2)]
  mem _ := []
  pre _ := True
  res x := .bool (.tm (eqMe x.1 x.2))
  mat vs _ := match vs with
    | [.agg [.int _ a1, .int _ a2, .int _ a3, .int _ a4, .int _ a5, .int _ a6], .agg [.int _ b1, .int _ b2, .int _ b3, .int _ b4, .int _ b5, .int _ b6]] => some ((⟨a1, a2, a3, a4, a5, a6⟩, ⟨b1, b2, b3, b4, b5, b6⟩), [])
    | _ => none
  ok x _ := sameMeta_ok x.1 x.2
theorem rnewer_ok (a b : Me) : Tells (C := C0) Tryd.prog (.fn 17) [] [.agg (meE a), .agg (meE b)] (.bool (.tm (newer a b))) := by
  refine loc_pc (P := Tryd.prog) (E := ⟨[], [], 24, [], [], []⟩) (L := []) mix Tryd.func17 rfl (by kernel_rfl) (by kernel_rfl) rfl rfl ?_
  ((conv => (arg 1; reduce)); with_reducible repeat' (first | exact Tr.yes_h | refine Tr.and_h ?_ ?_ | refine Tr.imp_h fun _ => ?_ | refine Tr.all_h fun _ => ?_ | refine Tr.lf_h ?_))
  all_goals (first | first | (show Region.lexB _ _ = true; kernel_rfl) | (show planned _ _ = true; kernel_rfl) | exact rfl | exact True.intro | (first | exact key3 | exact zeroB | exact zeroR | exact zeroS | exact ⟨key3, zeroB⟩ | exact ⟨key3, zeroR⟩ | exact ⟨key3, zeroS⟩) | ((try dsimp only [imp, C0, cG, cInt, cPl, cSlot, cPg, gwCodec] at *); (try refine inR64 ?_ ?_) <;> (try simp only [List.length_set, List.length_append, List.length_take, List.length_drop]) <;> omega))
def pcRnewer : Pc Tryd.prog C0 where
  tg := .fn 17
  X := Me × Me
  args x := [.agg (meE x.1), .agg (meE x.2)]
  mem _ := []
  pre _ := True
  res x := .bool (.tm (newer x.1 x.2))
  mat vs _ := match vs with
    | [.agg [.int _ a1, .int _ a2, .int _ a3, .int _ a4, .int _ a5, .int _ a6], .agg [.int _ b1, .int _ b2, .int _ b3, .int _ b4, .int _ b5, .int _ b6]] => some ((⟨a1, a2, a3, a4, a5, a6⟩, ⟨b1, b2, b3, b4, b5, b6⟩), [])
    | _ => none
  ok x _ := rnewer_ok x.1 x.2
theorem ralive_ok (m : Me) (f : Int) : Tells (C := C0) Tryd.prog (.fn 15) [] [.agg (meE m), .int .i64 f] (.bool (.tm (alive m f))) := by
  refine loc_pc (P := Tryd.prog) (E := ⟨[], [], 14, [], [], []⟩) (L := []) mix Tryd.func15 rfl (by kernel_rfl) (by kernel_rfl) rfl rfl ?_
  ((conv => (arg 1; reduce)); with_reducible repeat' (first | exact Tr.yes_h | refine Tr.and_h ?_ ?_ | refine Tr.imp_h fun _ => ?_ | refine Tr.all_h fun _ => ?_ | refine Tr.lf_h ?_))
  all_goals (first | first | (show Region.lexB _ _ = true; kernel_rfl) | (show planned _ _ = true; kernel_rfl) | exact rfl | exact True.intro | (first | exact key3 | exact zeroB | exact zeroR | exact zeroS | exact ⟨key3, zeroB⟩ | exact ⟨key3, zeroR⟩ | exact ⟨key3, zeroS⟩) | ((try dsimp only [imp, C0, cG, cInt, cPl, cSlot, cPg, gwCodec] at *); (try refine inR64 ?_ ?_) <;> (try simp only [List.length_set, List.length_append, List.length_take, List.length_drop]) <;> omega))
def pcRalive : Pc Tryd.prog C0 where
  tg := .fn 15
  X := Me × Int
  args x := [.agg (meE x.1), .int .i64 x.2]
  mem _ := []
  pre _ := True
  res x := .bool (.tm (alive x.1 x.2))
  mat vs _ := match vs with
    | [.agg [.int _ a1, .int _ a2, .int _ a3, .int _ a4, .int _ a5, .int _ a6], .int _ f] => some ((⟨a1, a2, a3, a4, a5, a6⟩, f), [])
    | _ => none
  ok x _ := ralive_ok x.1 x.2
theorem page_ok (b a : Int) (m : Me) : Tells (C := C0) Tryd.prog (.fn 21) [] [.int .i64 b, .int .i64 a, .agg (meE m)] (.agg (pgE ⟨(b, a), 1, m⟩)) := by
  refine loc_pc (P := Tryd.prog) (E := ⟨[], [], 12, [], [], []⟩) (L := []) mix Tryd.func21 rfl (by kernel_rfl) (by kernel_rfl) rfl rfl ?_
  ((conv => (arg 1; reduce)); with_reducible repeat' (first | exact Tr.yes_h | refine Tr.and_h ?_ ?_ | refine Tr.imp_h fun _ => ?_ | refine Tr.all_h fun _ => ?_ | refine Tr.lf_h ?_))
  all_goals (first | first | (show Region.lexB _ _ = true; kernel_rfl) | (show planned _ _ = true; kernel_rfl) | exact rfl | exact True.intro | (first | exact key3 | exact zeroB | exact zeroR | exact zeroS | exact ⟨key3, zeroB⟩ | exact ⟨key3, zeroR⟩ | exact ⟨key3, zeroS⟩) | ((try dsimp only [imp, C0, cG, cInt, cPl, cSlot, cPg, gwCodec] at *); (try refine inR64 ?_ ?_) <;> (try simp only [List.length_set, List.length_append, List.length_take, List.length_drop]) <;> omega))
def pcPage : Pc Tryd.prog C0 where
  tg := .fn 21
  X := Int × Int × Me
  args x := [.int .i64 x.1, .int .i64 x.2.1, .agg (meE x.2.2)]
  mem _ := []
  pre _ := True
  res x := .agg (pgE ⟨(x.1, x.2.1), 1, x.2.2⟩)
  mat vs _ := match vs with
    | [.int _ b, .int _ a, .agg [.int _ a1, .int _ a2, .int _ a3, .int _ a4, .int _ a5, .int _ a6]] => some ((b, a, ⟨a1, a2, a3, a4, a5, a6⟩), [])
    | _ => none
  ok x _ := page_ok x.1 x.2.1 x.2.2
/-- A page's key, az the document tells it; -1: it has none. -/
@[irreducible] def rkey (bs ps ss : Int) (m : Me) : Int := if keyH bs ps ss m then keyV bs ps ss m else -1
theorem rkey_spec (m : Me) {bs ps ss : Int} (h : 0 ≤ bs ∧ bs ≤ 64 ∧ 0 ≤ ps ∧ ps ≤ 64 ∧ 0 ≤ ss ∧ ss ≤ 536870912) :
    rkey bs ps ss m = if m.kind = 4 then ss + bs + ps else if m.key < 0 then -1 else if m.kind = 2 ∨ m.kind = 3 then (if m.key < ss then m.key else -1)
      else if m.kind = 5 then (if m.key < bs then ss + m.key else -1) else if m.kind = 6 then (if m.key < ps then ss + bs + m.key else -1) else -1 := by
  have hw : ∀ a b : Int, 0 ≤ a → a ≤ 536871000 → 0 ≤ b → b ≤ 536871000 → IntKind.wrap .i64 (a + b) = a + b := fun a b h1 h2 h3 h4 => inR64 (by omega) (by omega)
  unfold rkey keyH keyV keyN
  by_cases h4 : m.kind = 4
  · simp [h4]
  by_cases h2 : m.kind = 2 ∨ m.kind = 3
  · simp only [if_neg h4, if_pos h2, Bool.and_eq_true, decide_eq_true_eq]
    (repeat' split) <;> first | omega | (rw [hw] <;> omega)
  by_cases h5 : m.kind = 5
  · simp only [if_neg h4, if_neg h2, if_pos h5, Bool.and_eq_true, decide_eq_true_eq]
    (repeat' split) <;> first | omega | (rw [hw] <;> omega)
  by_cases h6 : m.kind = 6
  · simp only [if_neg h4, if_neg h2, if_neg h5, if_pos h6, Bool.and_eq_true, decide_eq_true_eq]
    (repeat' split) <;> first | omega | (rw [hw] <;> omega)
  simp only [if_neg h4, if_neg h2, if_neg h5, if_neg h6, Bool.and_eq_true, decide_eq_true_eq]
  (repeat' split) <;> first | omega | (rw [hw] <;> omega)
theorem rkey_ok (m : Me) (bs ps ss : Int) (h : 0 ≤ bs ∧ bs ≤ 64 ∧ 0 ≤ ps ∧ ps ≤ 64 ∧ 0 ≤ ss ∧ ss ≤ 536870912) :
    Tells (C := C0) Tryd.prog (.fn 11) [] [.agg (meE m), .int .i64 bs, .int .i64 ps, .int .i64 ss] (.int .i64 (rkey bs ps ss m)) := by
  refine loc_pc (P := Tryd.prog) (E := ⟨[], [], 57, [], [], []⟩) (L := []) mix Tryd.func11 rfl (by kernel_rfl) (by kernel_rfl) rfl rfl ?_
  ((conv => (arg 1; reduce)); with_reducible repeat' (first | exact Tr.yes_h | refine Tr.and_h ?_ ?_ | refine Tr.imp_h fun _ => ?_ | refine Tr.all_h fun _ => ?_ | refine Tr.lf_h ?_))
  all_goals try (first | first | (show Region.lexB _ _ = true; kernel_rfl) | (show planned _ _ = true; kernel_rfl) | exact rfl | exact True.intro | (first | exact key3 | exact zeroB | exact zeroR | exact zeroS | exact ⟨key3, zeroB⟩ | exact ⟨key3, zeroR⟩ | exact ⟨key3, zeroS⟩) | ((try dsimp only [imp, C0, cG, cInt, cPl, cSlot, cPg, gwCodec] at *); (try refine inR64 ?_ ?_) <;> (try simp only [List.length_set, List.length_append, List.length_take, List.length_drop]) <;> omega))
  all_goals
    have hh := rkey_spec m h
    simp only [Bool.and_eq_true, Bool.and_eq_false_iff, decide_eq_true_eq, decide_eq_false_iff_not, SB.val] at *
    first
      | exact inR64 (by omega) (by omega)
      | (rw [hh]; (repeat' split) <;> omega)
def pcRkey : Pc Tryd.prog C0 where
  tg := .fn 11
  X := Me × Int × Int × Int
  args x := [.agg (meE x.1), .int .i64 x.2.1, .int .i64 x.2.2.1, .int .i64 x.2.2.2]
  mem _ := []
  pre x := 0 ≤ x.2.1 ∧ x.2.1 ≤ 64 ∧ 0 ≤ x.2.2.1 ∧ x.2.2.1 ≤ 64 ∧ 0 ≤ x.2.2.2 ∧ x.2.2.2 ≤ 536870912
  res x := .int .i64 (rkey x.2.1 x.2.2.1 x.2.2.2 x.1)
  mat vs _ := match vs with
    | [.agg [.int _ a1, .int _ a2, .int _ a3, .int _ a4, .int _ a5, .int _ a6], .int _ b, .int _ p, .int _ s] => some ((⟨a1, a2, a3, a4, a5, a6⟩, b, p, s), [])
    | _ => none
  ok x h := rkey_ok x.1 x.2.1 x.2.2.1 x.2.2.2 h
end Go.Vx
set_option maxRecDepth 100000
namespace Go.Vx
open Go Go.Proofs
variable [Gl]

@[irreducible] def ieq (a b : List Int) : Bool := decide (a = b)
theorem ieq_iff {a b : List Int} : ieq a b = true ↔ a = b := by unfold ieq; exact decide_eq_true_iff
theorem ieq_no {a b : List Int} (h : a ≠ b) : ieq a b = false := by unfold ieq; exact decide_eq_false h
theorem ieq_yes {a b : List Int} (h : a = b) : ieq a b = true := ieq_iff.2 h
theorem tk_at {α : Type} {l : List α} {n v : Nat} {d : α} (hv : v < n) : (l.take n).getD v d = l.getD v d := tk_get hv
/-- The first i are the same. -/
def Sm {α : Type} (A B : List α) (n : Nat) : Inv' C0 := ⟨4, Nat, fun i => [(5, .int .i64 (i : Int))], fun _ m => m, fun i => i ≤ n ∧ A.take i = B.take i, fun i => n - i⟩
set_option maxHeartbeats 8000000 in
theorem SameInts_ok (o : Bool) (b q : Nat) (l : List Int) (n c : Nat) (o' : Bool) (b' q' : Nat) (l' : List Int) (n' c' : Nat) (h : n ≤ l.length) (h' : n' ≤ l'.length) (hs : n < 140737488355000) (ho : o = false → n = 0 ∧ c = 0) (ho' : o' = false → n' = 0 ∧ c' = 0) :
    Tells (C := C0) Tryd.prog (.fn 22) [⟨b, q, 1, false, some o, .rows 3 l⟩, ⟨b', q', 1, false, some o', .rows 3 l'⟩] [.sl 0 0 n c, .sl 1 0 n' c'] (.bool (.tm (ieq (l.take n) (l'.take n')))) := by
  refine loc_pc (P := Tryd.prog) (E := ⟨[], [], 29, [], [], []⟩) (L := [Sm (l.take n) (l'.take n') n]) mix Tryd.func22 rfl (by kernel_rfl) (by kernel_rfl) rfl rfl ?_
  ((conv => (arg 1; reduce)); with_reducible repeat' (first | exact Tr.yes_h | refine Tr.and_h ?_ ?_ | refine Tr.imp_h fun _ => ?_ | refine Tr.all_h fun _ => ?_ | refine Tr.lf_h ?_))
  all_goals try (first | first | (show Region.lexB _ _ = true; kernel_rfl) | (show planned _ _ = true; kernel_rfl) | exact rfl | exact True.intro | (first | exact key3 | exact zeroB | exact zeroR | exact zeroS | exact ⟨key3, zeroB⟩ | exact ⟨key3, zeroR⟩ | exact ⟨key3, zeroS⟩) | ((try dsimp only [imp, C0, cG, cInt, cPl, cSlot, cPg, gwCodec] at *); (try refine inR64 ?_ ?_) <;> (try simp only [List.length_set, List.length_append, List.length_take, List.length_drop]) <;> omega))
  · rename_i h0
    have h0 := of_decide_eq_true h0
    refine (ieq_no fun he => h0 ?_).symm
    have := congrArg List.length he
    rw [tk_len h, tk_len h'] at this
    omega
  · rename_i h0
    refine Stands.one (0 : Nat) ⟨⟨Nat.zero_le _, rfl⟩, ?_⟩
    ((conv => (arg 1; reduce)); with_reducible repeat' (first | exact Tr.yes_h | refine Tr.and_h ?_ ?_ | refine Tr.imp_h fun _ => ?_ | refine Tr.all_h fun _ => ?_ | refine Tr.lf_h ?_))
    all_goals (first | first | (show Region.lexB _ _ = true; kernel_rfl) | (show planned _ _ = true; kernel_rfl) | exact rfl | exact True.intro | (first | exact key3 | exact zeroB | exact zeroR | exact zeroS | exact ⟨key3, zeroB⟩ | exact ⟨key3, zeroR⟩ | exact ⟨key3, zeroS⟩) | ((try dsimp only [imp, C0, cG, cInt, cPl, cSlot, cPg, gwCodec] at *); (try refine inR64 ?_ ?_) <;> (try simp only [List.length_set, List.length_append, List.length_take, List.length_drop]) <;> omega))
  all_goals try (
    rename_i h0 v hv h1
    change Nat at v
    have h0 := of_decide_eq_false h0
    have h1 := of_decide_eq_true h1
    first
      | (exact on_of ho (by omega))
      | (exact on_of ho' (by omega))
      | (show (v : Int) < (n : Int); omega)
      | (show (v : Int) < (n' : Int); omega)
      | (show (v : Int).toNat < l.length; omega)
      | (show (v : Int).toNat < l'.length; omega)
      | (show (v : Int).toNat + 0 < l.length; omega)
      | (show (v : Int).toNat + 0 < l'.length; omega))
  · rename_i h0 v hv h1 h2
    change Nat at v
    have h1' := of_decide_eq_true h1
    have h0' := of_decide_eq_false h0
    refine (ieq_no fun he => ?_).symm
    have hc := congrArg (fun L : List Int => L.getD v 0) he
    simp only [tk_at (l := l) (n := n) (v := v) (by omega), tk_at (l := l') (n := n') (v := v) (by omega)] at hc
    have h2 : (!decide (l.getD v 0 = l'.getD v 0)) = true := h2
    rw [decide_eq_true hc] at h2
    cases h2
  · rename_i h0 v hv h1 h2
    change Nat at v
    have h1' := of_decide_eq_true h1
    have h0' := of_decide_eq_false h0
    exact inR64 (by show _ ≤ (v : Int) + 1; omega) (by show (v : Int) + 1 ≤ _; omega)
  · rename_i h0 v hv h1 h2
    change Nat at v
    have h1' := of_decide_eq_true h1
    have h0' := of_decide_eq_false h0
    have h2 : (!decide (l.getD v 0 = l'.getD v 0)) = false := h2
    have h2 := of_decide_eq_true (by simpa using h2 : decide (l.getD v 0 = l'.getD v 0) = true)
    refine Stands.one (Nat.succ v) ⟨⟨by show v + 1 ≤ n; omega, ?_⟩, ?_, ?_⟩
    · show (l.take n).take (v + 1) = (l'.take n').take (v + 1)
      rw [take_snoc (d := 0) (by rw [tk_len h]; omega), take_snoc (d := 0) (by rw [tk_len h']; omega), tk_at (by omega), tk_at (by omega), h2, hv.2]
    · show n - (v + 1) < n - v
      omega
    ((conv => (arg 1; reduce)); with_reducible repeat' (first | exact Tr.yes_h | refine Tr.and_h ?_ ?_ | refine Tr.imp_h fun _ => ?_ | refine Tr.all_h fun _ => ?_ | refine Tr.lf_h ?_))
    all_goals (first | first | (show Region.lexB _ _ = true; kernel_rfl) | (show planned _ _ = true; kernel_rfl) | exact rfl | exact True.intro | (first | exact key3 | exact zeroB | exact zeroR | exact zeroS | exact ⟨key3, zeroB⟩ | exact ⟨key3, zeroR⟩ | exact ⟨key3, zeroS⟩) | ((try dsimp only [imp, C0, cG, cInt, cPl, cSlot, cPg, gwCodec] at *); (try refine inR64 ?_ ?_) <;> (try simp only [List.length_set, List.length_append, List.length_take, List.length_drop]) <;> omega))
  · rename_i h0 v hv h1
    change Nat at v
    have h1' := of_decide_eq_false h1
    have h0' := of_decide_eq_false h0
    have hn : n = n' := by omega
    subst hn
    have he := hv.2
    have e1 : (l.take n).take v = l.take n := List.take_of_length_le (by rw [tk_len h]; omega)
    have e2 : (l'.take n).take v = l'.take n := List.take_of_length_le (by rw [tk_len h']; omega)
    exact (ieq_yes (e1.symm.trans (he.trans e2))).symm
def pcSameInts : Pc Tryd.prog C0 where
  tg := .fn 22
  X := (Bool × Nat × Nat × List Int × Nat × Nat) × (Bool × Nat × Nat × List Int × Nat × Nat)
  args := fun ((o, b, q, l, n, c), (o', b', q', l', n', c')) => [.sl 0 0 n c, .sl 1 0 n' c']
  mem := fun ((o, b, q, l, n, c), (o', b', q', l', n', c')) => [⟨b, q, 1, false, some o, .rows 3 l⟩, ⟨b', q', 1, false, some o', .rows 3 l'⟩]
  pre := fun ((o, b, q, l, n, c), (o', b', q', l', n', c')) => n ≤ l.length ∧ n' ≤ l'.length ∧ n < 140737488355000 ∧ (o = false → n = 0 ∧ c = 0) ∧ (o' = false → n' = 0 ∧ c' = 0)
  res := fun ((o, b, q, l, n, c), (o', b', q', l', n', c')) => .bool (.tm (ieq (l.take n) (l'.take n')))
  mat vs m := match vs with
    | [.sl a 0 n c, .sl a' 0 n' c'] => match nth m a, nth m a' with
      | ⟨b, q, _, _, g, .rows 3 l⟩, ⟨b', q', _, _, g', .rows 3 l'⟩ => some (((onOf g, b, q, l, n, c), (onOf g', b', q', l', n', c')), [a, a'])
      | _, _ => none
    | [.nils, .sl a' 0 n' c'] => match nth m a' with
      | ⟨b', q', _, _, g', .rows 3 l'⟩ => some (((false, 0, 0, [], 0, 0), (onOf g', b', q', l', n', c')), [m.length, a'])
      | _ => none
    | [.sl a 0 n c, .nils] => match nth m a with
      | ⟨b, q, _, _, g, .rows 3 l⟩ => some (((onOf g, b, q, l, n, c), (false, 0, 0, [], 0, 0)), [a, m.length])
      | _ => none
    | _ => none
  ok := fun ((o, b, q, l, n, c), (o', b', q', l', n', c')) h => SameInts_ok o b q l n c o' b' q' l' n' c' h.1 h.2.1 h.2.2.1 h.2.2.2.1 h.2.2.2.2
def eqSlot (a b : Slot) : Bool := decide (a.key = b.key) && (decide (a.pl.1 = b.pl.1) && decide (a.pl.2 = b.pl.2)) && eqMe a.me b.me
theorem eqMe_iff {a b : Me} : eqMe a b = true ↔ a = b := by
  obtain ⟨a1, a2, a3, a4, a5, a6⟩ := a
  obtain ⟨b1, b2, b3, b4, b5, b6⟩ := b
  simp [eqMe, and_assoc]
theorem eqSlot_iff {a b : Slot} : eqSlot a b = true ↔ a = b := by
  obtain ⟨a1, ⟨a2, a3⟩, a4⟩ := a
  obtain ⟨b1, ⟨b2, b3⟩, b4⟩ := b
  simp [eqSlot, eqMe_iff, and_assoc]
/-- Are they one list. -/
def lEqB : List Slot → List Slot → Bool
  | [], [] => true
  | a :: r, b :: s => eqSlot a b && lEqB r s
  | _, _ => false
theorem lEqB_iff : ∀ {a b : List Slot}, lEqB a b = true ↔ a = b
  | [], [] => by simp [lEqB]
  | [], _ :: _ => by simp [lEqB]
  | _ :: _, [] => by simp [lEqB]
  | a :: r, b :: s => by
    rw [lEqB, Bool.and_eq_true, eqSlot_iff, lEqB_iff, List.cons.injEq]
@[irreducible] def lEq (a b : List Slot) : Bool := lEqB a b
theorem lEq_iff {a b : List Slot} : lEq a b = true ↔ a = b := by unfold lEq; exact lEqB_iff
theorem lEq_no {a b : List Slot} (h : a ≠ b) : lEq a b = false := by
  cases hh : lEq a b with
  | false => rfl
  | true => exact (h (lEq_iff.1 hh)).elim
theorem lEq_yes {a b : List Slot} (h : a = b) : lEq a b = true := lEq_iff.2 h
/-- The test of one round. -/
theorem ne_slot {a b : Slot} : (decide (a.key ≠ b.key) || (!(decide (a.pl.1 = b.pl.1) && decide (a.pl.2 = b.pl.2))) || (!eqMe a.me b.me)) = !eqSlot a b := by
  unfold eqSlot
  by_cases h : a.key = b.key <;> simp [h, Bool.not_and]
set_option maxHeartbeats 8000000 in
theorem SameSlots_ok (o : Bool) (b q : Nat) (l : List Slot) (n c : Nat) (o' : Bool) (b' q' : Nat) (l' : List Slot) (n' c' : Nat) (h : n ≤ l.length) (h' : n' ≤ l'.length) (hs : n < 140737488355000) (ho : o = false → n = 0 ∧ c = 0) (ho' : o' = false → n' = 0 ∧ c' = 0) :
    Tells (C := C0) Tryd.prog (.fn 20) [⟨b, q, 9, false, some o, .rows 59 l⟩, ⟨b', q', 9, false, some o', .rows 59 l'⟩] [.sl 0 0 n c, .sl 1 0 n' c'] (.bool (.tm (lEq (l.take n) (l'.take n')))) := by
  refine loc_pc (P := Tryd.prog) (E := ⟨[], [pcSamePlace, pcSameMeta], 60, [(6, [0, 1], [.p 0, .p 1, .p 2, .p 3, .p 4, .p 5, .p 6, .p 7, .p 8, .p 9, .e 10, .p 11]), (7, [0, 1], [.p 0, .p 1, .p 2, .p 3, .p 4, .p 5, .p 6, .p 7, .p 8, .p 9, .e 10, .p 11])], [], []⟩) (L := [Sm (l.take n) (l'.take n') n]) mix Tryd.func20 rfl (by kernel_rfl) (by kernel_rfl) rfl rfl ?_
  ((conv => (arg 1; reduce)); with_reducible repeat' (first | exact Tr.yes_h | refine Tr.and_h ?_ ?_ | refine Tr.imp_h fun _ => ?_ | refine Tr.all_h fun _ => ?_ | refine Tr.lf_h ?_))
  all_goals try (first | first | (show Region.lexB _ _ = true; kernel_rfl) | (show planned _ _ = true; kernel_rfl) | exact rfl | exact True.intro | (first | exact key3 | exact zeroB | exact zeroR | exact zeroS | exact ⟨key3, zeroB⟩ | exact ⟨key3, zeroR⟩ | exact ⟨key3, zeroS⟩) | ((try dsimp only [imp, C0, cG, cInt, cPl, cSlot, cPg, gwCodec] at *); (try refine inR64 ?_ ?_) <;> (try simp only [List.length_set, List.length_append, List.length_take, List.length_drop]) <;> omega))
  · rename_i h0
    have h0 := of_decide_eq_true h0
    refine (lEq_no fun he => h0 ?_).symm
    have := congrArg List.length he
    rw [tk_len h, tk_len h'] at this
    omega
  · rename_i h0
    refine Stands.one (0 : Nat) ⟨⟨Nat.zero_le _, rfl⟩, ?_⟩
    ((conv => (arg 1; reduce)); with_reducible repeat' (first | exact Tr.yes_h | refine Tr.and_h ?_ ?_ | refine Tr.imp_h fun _ => ?_ | refine Tr.all_h fun _ => ?_ | refine Tr.lf_h ?_))
    all_goals (first | first | (show Region.lexB _ _ = true; kernel_rfl) | (show planned _ _ = true; kernel_rfl) | exact rfl | exact True.intro | (first | exact key3 | exact zeroB | exact zeroR | exact zeroS | exact ⟨key3, zeroB⟩ | exact ⟨key3, zeroR⟩ | exact ⟨key3, zeroS⟩) | ((try dsimp only [imp, C0, cG, cInt, cPl, cSlot, cPg, gwCodec] at *); (try refine inR64 ?_ ?_) <;> (try simp only [List.length_set, List.length_append, List.length_take, List.length_drop]) <;> omega))
  all_goals try (
    rename_i h0 v hv h1
    change Nat at v
    have h0 := of_decide_eq_false h0
    have h1 := of_decide_eq_true h1
    first
      | (exact on_of ho (by omega))
      | (exact on_of ho' (by omega))
      | (show (v : Int) < (n : Int); omega)
      | (show (v : Int) < (n' : Int); omega)
      | (show (v : Int).toNat < l.length; omega)
      | (show (v : Int).toNat < l'.length; omega)
      | (show (v : Int).toNat + 0 < l.length; omega)
      | (show (v : Int).toNat + 0 < l'.length; omega))
  · rename_i h0 v hv h1 h2
    change Nat at v
    have h1' := of_decide_eq_true h1
    have h0' := of_decide_eq_false h0
    refine (lEq_no fun he => ?_).symm
    have hc := congrArg (fun L : List Slot => L.getD v slot0) he
    simp only [tk_at (l := l) (n := n) (v := v) (by omega), tk_at (l := l') (n := n') (v := v) (by omega)] at hc
    have h2 := ne_slot.symm.trans h2
    have h2 : (!eqSlot (l.getD v slot0) (l'.getD v slot0)) = true := h2
    rw [eqSlot_iff.2 hc] at h2
    cases h2
  · rename_i h0 v hv h1 h2
    change Nat at v
    have h1' := of_decide_eq_true h1
    have h0' := of_decide_eq_false h0
    exact inR64 (by show _ ≤ (v : Int) + 1; omega) (by show (v : Int) + 1 ≤ _; omega)
  · rename_i h0 v hv h1 h2
    change Nat at v
    have h1' := of_decide_eq_true h1
    have h0' := of_decide_eq_false h0
    have h2 := ne_slot.symm.trans h2
    have h2 : (!eqSlot (l.getD v slot0) (l'.getD v slot0)) = false := h2
    have h2 := eqSlot_iff.1 (by simpa using h2 : eqSlot (l.getD v slot0) (l'.getD v slot0) = true)
    refine Stands.one (Nat.succ v) ⟨⟨by show v + 1 ≤ n; omega, ?_⟩, ?_, ?_⟩
    · show (l.take n).take (v + 1) = (l'.take n').take (v + 1)
      rw [take_snoc (d := slot0) (by rw [tk_len h]; omega), take_snoc (d := slot0) (by rw [tk_len h']; omega), tk_at (by omega), tk_at (by omega), h2, hv.2]
    · show n - (v + 1) < n - v
      omega
    ((conv => (arg 1; reduce)); with_reducible repeat' (first | exact Tr.yes_h | refine Tr.and_h ?_ ?_ | refine Tr.imp_h fun _ => ?_ | refine Tr.all_h fun _ => ?_ | refine Tr.lf_h ?_))
    all_goals (first | first | (show Region.lexB _ _ = true; kernel_rfl) | (show planned _ _ = true; kernel_rfl) | exact rfl | exact True.intro | (first | exact key3 | exact zeroB | exact zeroR | exact zeroS | exact ⟨key3, zeroB⟩ | exact ⟨key3, zeroR⟩ | exact ⟨key3, zeroS⟩) | ((try dsimp only [imp, C0, cG, cInt, cPl, cSlot, cPg, gwCodec] at *); (try refine inR64 ?_ ?_) <;> (try simp only [List.length_set, List.length_append, List.length_take, List.length_drop]) <;> omega))
  · rename_i h0 v hv h1
    change Nat at v
    have h1' := of_decide_eq_false h1
    have h0' := of_decide_eq_false h0
    have hn : n = n' := by omega
    subst hn
    have he := hv.2
    have e1 : (l.take n).take v = l.take n := List.take_of_length_le (by rw [tk_len h]; omega)
    have e2 : (l'.take n).take v = l'.take n := List.take_of_length_le (by rw [tk_len h']; omega)
    exact (lEq_yes (e1.symm.trans (he.trans e2))).symm
def pcSameSlots : Pc Tryd.prog C0 where
  tg := .fn 20
  X := (Bool × Nat × Nat × List Slot × Nat × Nat) × (Bool × Nat × Nat × List Slot × Nat × Nat)
  args := fun ((o, b, q, l, n, c), (o', b', q', l', n', c')) => [.sl 0 0 n c, .sl 1 0 n' c']
  mem := fun ((o, b, q, l, n, c), (o', b', q', l', n', c')) => [⟨b, q, 9, false, some o, .rows 59 l⟩, ⟨b', q', 9, false, some o', .rows 59 l'⟩]
  pre := fun ((o, b, q, l, n, c), (o', b', q', l', n', c')) => n ≤ l.length ∧ n' ≤ l'.length ∧ n < 140737488355000 ∧ (o = false → n = 0 ∧ c = 0) ∧ (o' = false → n' = 0 ∧ c' = 0)
  res := fun ((o, b, q, l, n, c), (o', b', q', l', n', c')) => .bool (.tm (lEq (l.take n) (l'.take n')))
  mat vs m := match vs with
    | [.sl a 0 n c, .sl a' 0 n' c'] => match nth m a, nth m a' with
      | ⟨b, q, _, _, g, .rows 59 l⟩, ⟨b', q', _, _, g', .rows 59 l'⟩ => some (((onOf g, b, q, l, n, c), (onOf g', b', q', l', n', c')), [a, a'])
      | _, _ => none
    | [.nils, .sl a' 0 n' c'] => match nth m a' with
      | ⟨b', q', _, _, g', .rows 59 l'⟩ => some (((false, 0, 0, [], 0, 0), (onOf g', b', q', l', n', c')), [m.length, a'])
      | _ => none
    | [.sl a 0 n c, .nils] => match nth m a with
      | ⟨b, q, _, _, g, .rows 59 l⟩ => some (((onOf g, b, q, l, n, c), (false, 0, 0, [], 0, 0)), [a, m.length])
      | _ => none
    | _ => none
  ok := fun ((o, b, q, l, n, c), (o', b', q', l', n', c')) h => SameSlots_ok o b q l n c o' b' q' l' n' c' h.1 h.2.1 h.2.2.1 h.2.2.2.1 h.2.2.2.2
end Go.Vx
set_option maxRecDepth 100000
namespace Go.Vx
open Go Go.Proofs
variable [Gl]

/-- The first place where it holds is looked for. -/
def Iz {α : Type} (f : α → Bool) (A : List α) : Inv' C0 := ⟨2, Nat, fun i => [(5, .int .i64 (i : Int))], fun _ m => m, fun i => i ≤ A.length ∧ anyF f (A.take i) = false, fun i => A.length - i⟩
theorem anyF_at {α : Type} {f : α → Bool} {A : List α} {i : Nat} {d : α} (h : i < A.length) (h2 : f (A.getD i d) = true) : anyF f A = true := anyF_iff.2 ⟨_, getD_mem h, h2⟩
theorem among_ok (o : Bool) (b q : Nat) (l : List Int) (n c : Nat) (x : Int) (h : n ≤ l.length) (hn : n < 4611686018427387904) (ho : o = false → n = 0 ∧ c = 0) :
    Tells (C := C0) Tryd.prog (.fn 13) [⟨b, q, 1, false, some o, .rows 3 l⟩] [.sl 0 0 n c, .int .i64 x] (.bool (.tm (anyF (eqI x) (l.take n)))) := by
  have hL := tk_len h
  refine loc_pc (P := Tryd.prog) (E := ⟨[], [], 18, [], [], []⟩) (L := [Iz (eqI x) (l.take n)]) mix Tryd.func13 rfl (by kernel_rfl) (by kernel_rfl) rfl rfl ?_
  ((conv => (arg 1; reduce)); with_reducible repeat' (first | exact Tr.yes_h | refine Tr.and_h ?_ ?_ | refine Tr.imp_h fun _ => ?_ | refine Tr.all_h fun _ => ?_ | refine Tr.lf_h ?_))
  all_goals try (first | (first | first | (show Region.lexB _ _ = true; kernel_rfl) | (show planned _ _ = true; kernel_rfl) | exact rfl | exact True.intro | (first | exact key3 | exact zeroB | exact zeroR | exact zeroS | exact ⟨key3, zeroB⟩ | exact ⟨key3, zeroR⟩ | exact ⟨key3, zeroS⟩) | ((try dsimp only [imp, C0, cG, cInt, cPl, cSlot, cPg, gwCodec] at *); (try refine inR64 ?_ ?_) <;> (try simp only [List.length_set, List.length_append, List.length_take, List.length_drop]) <;> omega)) | ((try dsimp only [imp, C0, cG, cInt, cPl, cSlot, cPg, gwCodec, Iz] at *); (try simp only [decide_eq_true_eq, decide_eq_false_iff_not, Bool.and_eq_true, Bool.or_eq_true, Bool.or_eq_false_iff, Bool.and_eq_false_iff, Bool.not_eq_true', Bool.not_eq_false', SB.val, List.length_append, List.length_cons, List.length_nil, List.length_take, List.length_drop] at *); (first | omega | exact inR64 (by omega) (by omega) | (refine inR64 ?_ ?_ <;> omega))) | (refine on_of ho ?_; ((try dsimp only [imp, C0, cG, cInt, cPl, cSlot, cPg, gwCodec, Iz] at *); (try simp only [decide_eq_true_eq, decide_eq_false_iff_not, Bool.and_eq_true, Bool.or_eq_true, Bool.or_eq_false_iff, Bool.and_eq_false_iff, Bool.not_eq_true', Bool.not_eq_false', SB.val, List.length_append, List.length_cons, List.length_nil, List.length_take, List.length_drop] at *); (first | omega | exact inR64 (by omega) (by omega) | (refine inR64 ?_ ?_ <;> omega)))))
  · refine Stands.one (0 : Nat) ⟨⟨Nat.zero_le _, anyF_zero⟩, ?_⟩
    ((conv => (arg 1; reduce)); with_reducible repeat' (first | exact Tr.yes_h | refine Tr.and_h ?_ ?_ | refine Tr.imp_h fun _ => ?_ | refine Tr.all_h fun _ => ?_ | refine Tr.lf_h ?_))
    all_goals (first | first | (show Region.lexB _ _ = true; kernel_rfl) | (show planned _ _ = true; kernel_rfl) | exact rfl | exact True.intro | (first | exact key3 | exact zeroB | exact zeroR | exact zeroS | exact ⟨key3, zeroB⟩ | exact ⟨key3, zeroR⟩ | exact ⟨key3, zeroS⟩) | ((try dsimp only [imp, C0, cG, cInt, cPl, cSlot, cPg, gwCodec] at *); (try refine inR64 ?_ ?_) <;> (try simp only [List.length_set, List.length_append, List.length_take, List.length_drop]) <;> omega))
  · rename_i v hv h1 h2
    change Nat at v
    have h1 : v < n := by have := of_decide_eq_true h1; omega
    have h2 : l.getD v 0 = x := of_decide_eq_true h2
    refine (anyF_at (i := v) (d := 0) (by rw [hL]; exact h1) ?_).symm
    rw [tk_get h1, h2]
    exact decide_eq_true rfl
  · rename_i v hv h1 h2
    change Nat at v
    obtain ⟨e1, e2⟩ := hv
    have h1 : v < n := by have := of_decide_eq_true h1; omega
    have h2 : ¬ l.getD v 0 = x := of_decide_eq_false h2
    refine Stands.one (v + 1 : Nat) ⟨⟨by rw [hL]; exact h1, ?_⟩, ?_, ?_⟩
    · show anyF _ ((l.take n).take (v + 1)) = false
      rw [anyF_snoc (d := 0) (by rw [hL]; exact h1), e2, tk_get h1]
      exact decide_eq_false fun e => h2 e.symm
    · show (l.take n).length - (v + 1) < (l.take n).length - v
      rw [hL]; omega
    ((conv => (arg 1; reduce)); with_reducible repeat' (first | exact Tr.yes_h | refine Tr.and_h ?_ ?_ | refine Tr.imp_h fun _ => ?_ | refine Tr.all_h fun _ => ?_ | refine Tr.lf_h ?_))
    all_goals (first | first | (show Region.lexB _ _ = true; kernel_rfl) | (show planned _ _ = true; kernel_rfl) | exact rfl | exact True.intro | (first | exact key3 | exact zeroB | exact zeroR | exact zeroS | exact ⟨key3, zeroB⟩ | exact ⟨key3, zeroR⟩ | exact ⟨key3, zeroS⟩) | ((try dsimp only [imp, C0, cG, cInt, cPl, cSlot, cPg, gwCodec] at *); (try refine inR64 ?_ ?_) <;> (try simp only [List.length_set, List.length_append, List.length_take, List.length_drop]) <;> omega))
  · rename_i v hv h1
    change Nat at v
    obtain ⟨e1, e2⟩ := hv
    have h1 : ¬ v < n := by have := of_decide_eq_false h1; omega
    rw [List.take_of_length_le (by rw [hL]; omega)] at e2
    exact e2.symm
def pcAmong : Pc Tryd.prog C0 where
  tg := .fn 13
  X := Bool × Nat × Nat × List Int × Nat × Nat × Int
  args := fun (o, b, q, l, n, c, x) => [.sl 0 0 n c, .int .i64 x]
  mem := fun (o, b, q, l, n, c, x) => [⟨b, q, 1, false, some o, .rows 3 l⟩]
  pre := fun (o, b, q, l, n, c, x) => n ≤ l.length ∧ n < 4611686018427387904 ∧ (o = false → n = 0 ∧ c = 0)
  res := fun (o, b, q, l, n, c, x) => .bool (.tm (anyF (eqI x) (l.take n)))
  mat vs m := match vs with
    | [.sl a 0 n c, .int _ x] => match nth m a with
      | ⟨b, q, _, _, g, .rows 3 l⟩ => some ((onOf g, b, q, l, n, c, x), [a])
      | _ => none
    | [.nils, .int _ x] => some ((false, 0, 0, [], 0, 0, x), [m.length])
    | _ => none
  ok := fun (o, b, q, l, n, c, x) h => among_ok o b q l n c x h.1 h.2.1 h.2.2
def keyIs (k : Int) (s : Slot) : Bool := decide (s.key = k)
theorem find_ok (o : Bool) (b q : Nat) (l : List Slot) (n c : Nat) (x : Int) (h : n ≤ l.length) (hn : n < 4611686018427387904) (ho : o = false → n = 0 ∧ c = 0) :
    Tells (C := C0) Tryd.prog (.fn 18) [⟨b, q, 9, false, some o, .rows 59 l⟩] [.sl 0 0 n c, .int .i64 x] (.int .i64 (ixF (keyIs x) (l.take n))) := by
  have hL := tk_len h
  refine loc_pc (P := Tryd.prog) (E := ⟨[], [], 20, [], [], []⟩) (L := [Iz (keyIs x) (l.take n)]) mix Tryd.func18 rfl (by kernel_rfl) (by kernel_rfl) rfl rfl ?_
  ((conv => (arg 1; reduce)); with_reducible repeat' (first | exact Tr.yes_h | refine Tr.and_h ?_ ?_ | refine Tr.imp_h fun _ => ?_ | refine Tr.all_h fun _ => ?_ | refine Tr.lf_h ?_))
  all_goals try (first | (first | first | (show Region.lexB _ _ = true; kernel_rfl) | (show planned _ _ = true; kernel_rfl) | exact rfl | exact True.intro | (first | exact key3 | exact zeroB | exact zeroR | exact zeroS | exact ⟨key3, zeroB⟩ | exact ⟨key3, zeroR⟩ | exact ⟨key3, zeroS⟩) | ((try dsimp only [imp, C0, cG, cInt, cPl, cSlot, cPg, gwCodec] at *); (try refine inR64 ?_ ?_) <;> (try simp only [List.length_set, List.length_append, List.length_take, List.length_drop]) <;> omega)) | ((try dsimp only [imp, C0, cG, cInt, cPl, cSlot, cPg, gwCodec, Iz] at *); (try simp only [decide_eq_true_eq, decide_eq_false_iff_not, Bool.and_eq_true, Bool.or_eq_true, Bool.or_eq_false_iff, Bool.and_eq_false_iff, Bool.not_eq_true', Bool.not_eq_false', SB.val, List.length_append, List.length_cons, List.length_nil, List.length_take, List.length_drop] at *); (first | omega | exact inR64 (by omega) (by omega) | (refine inR64 ?_ ?_ <;> omega))) | (refine on_of ho ?_; ((try dsimp only [imp, C0, cG, cInt, cPl, cSlot, cPg, gwCodec, Iz] at *); (try simp only [decide_eq_true_eq, decide_eq_false_iff_not, Bool.and_eq_true, Bool.or_eq_true, Bool.or_eq_false_iff, Bool.and_eq_false_iff, Bool.not_eq_true', Bool.not_eq_false', SB.val, List.length_append, List.length_cons, List.length_nil, List.length_take, List.length_drop] at *); (first | omega | exact inR64 (by omega) (by omega) | (refine inR64 ?_ ?_ <;> omega)))))
  · refine Stands.one (0 : Nat) ⟨⟨Nat.zero_le _, anyF_zero⟩, ?_⟩
    ((conv => (arg 1; reduce)); with_reducible repeat' (first | exact Tr.yes_h | refine Tr.and_h ?_ ?_ | refine Tr.imp_h fun _ => ?_ | refine Tr.all_h fun _ => ?_ | refine Tr.lf_h ?_))
    all_goals (first | first | (show Region.lexB _ _ = true; kernel_rfl) | (show planned _ _ = true; kernel_rfl) | exact rfl | exact True.intro | (first | exact key3 | exact zeroB | exact zeroR | exact zeroS | exact ⟨key3, zeroB⟩ | exact ⟨key3, zeroR⟩ | exact ⟨key3, zeroS⟩) | ((try dsimp only [imp, C0, cG, cInt, cPl, cSlot, cPg, gwCodec] at *); (try refine inR64 ?_ ?_) <;> (try simp only [List.length_set, List.length_append, List.length_take, List.length_drop]) <;> omega))
  · rename_i v hv h1 h2
    change Nat at v
    obtain ⟨e1, e2⟩ := hv
    have h1 : v < n := by have := of_decide_eq_true h1; omega
    refine (ixF_at (d := slot0) (by rw [hL]; exact h1) e2 ?_).symm
    rw [tk_get h1]
    exact h2
  · rename_i v hv h1 h2
    change Nat at v
    obtain ⟨e1, e2⟩ := hv
    have h1 : v < n := by have := of_decide_eq_true h1; omega
    refine Stands.one (v + 1 : Nat) ⟨⟨by rw [hL]; exact h1, ?_⟩, ?_, ?_⟩
    · show anyF _ ((l.take n).take (v + 1)) = false
      rw [anyF_snoc (d := slot0) (by rw [hL]; exact h1), e2, tk_get h1]
      exact h2
    · show (l.take n).length - (v + 1) < (l.take n).length - v
      rw [hL]; omega
    ((conv => (arg 1; reduce)); with_reducible repeat' (first | exact Tr.yes_h | refine Tr.and_h ?_ ?_ | refine Tr.imp_h fun _ => ?_ | refine Tr.all_h fun _ => ?_ | refine Tr.lf_h ?_))
    all_goals (first | first | (show Region.lexB _ _ = true; kernel_rfl) | (show planned _ _ = true; kernel_rfl) | exact rfl | exact True.intro | (first | exact key3 | exact zeroB | exact zeroR | exact zeroS | exact ⟨key3, zeroB⟩ | exact ⟨key3, zeroR⟩ | exact ⟨key3, zeroS⟩) | ((try dsimp only [imp, C0, cG, cInt, cPl, cSlot, cPg, gwCodec] at *); (try refine inR64 ?_ ?_) <;> (try simp only [List.length_set, List.length_append, List.length_take, List.length_drop]) <;> omega))
  · rename_i v hv h1
    change Nat at v
    obtain ⟨e1, e2⟩ := hv
    have h1 : ¬ v < n := by have := of_decide_eq_false h1; omega
    rw [List.take_of_length_le (by rw [hL]; omega)] at e2
    exact (ixF_no e2).symm
def pcFind : Pc Tryd.prog C0 where
  tg := .fn 18
  X := Bool × Nat × Nat × List Slot × Nat × Nat × Int
  args := fun (o, b, q, l, n, c, x) => [.sl 0 0 n c, .int .i64 x]
  mem := fun (o, b, q, l, n, c, x) => [⟨b, q, 9, false, some o, .rows 59 l⟩]
  pre := fun (o, b, q, l, n, c, x) => n ≤ l.length ∧ n < 4611686018427387904 ∧ (o = false → n = 0 ∧ c = 0)
  res := fun (o, b, q, l, n, c, x) => .int .i64 (ixF (keyIs x) (l.take n))
  mat vs m := match vs with
    | [.sl a 0 n c, .int _ x] => match nth m a with
      | ⟨b, q, _, _, g, .rows 59 l⟩ => some ((onOf g, b, q, l, n, c, x), [a])
      | _ => none
    | _ => none
  ok := fun (o, b, q, l, n, c, x) h => find_ok o b q l n c x h.1 h.2.1 h.2.2
/-- The first page of a block. -/
def fstP (b : Int) (p : Pg) : Bool := decide (p.pl.1 = b) && decide (p.pl.2 = 0)
def hdQ (b : Int) (p : Pg) : Bool := decide (p.cl = 1) && decide (p.me.kind = 1) && decide (p.me.key = b)
@[irreducible] def headB (L : List Pg) (b : Int) : Bool := match L.find? (fstP b) with
  | some p => hdQ b p
  | none => false
theorem find_at {α : Type} {f : α → Bool} {d : α} : ∀ {A : List α} {i : Nat}, i < A.length → anyF f (A.take i) = false → f (A.getD i d) = true → A.find? f = some (A.getD i d)
  | [], _, h, _, _ => absurd h (Nat.not_lt_zero _)
  | a :: r, 0, _, _, h => by
    rw [List.find?_cons]
    have h : f a = true := h
    rw [h]; rfl
  | a :: r, i + 1, h, h1, h2 => by
    have h3 : f a = false ∧ anyF f (r.take i) = false := by
      unfold anyF at h1 ⊢
      rw [List.take_succ_cons, List.any_cons, Bool.or_eq_false_iff] at h1
      exact h1
    rw [List.find?_cons, h3.1]
    exact find_at (A := r) (i := i) (by simpa using h) h3.2 h2
theorem find_no {α : Type} {f : α → Bool} {A : List α} (h : anyF f A = false) : A.find? f = none := by
  unfold anyF at h
  rw [List.find?_eq_none]
  intro x hx e
  have := List.any_eq_false.1 h x hx
  exact this e
theorem head_ok (o : Bool) (b q : Nat) (l : List Pg) (n c : Nat) (x : Int) (h : n ≤ l.length) (hn : n < 4611686018427387904) (ho : o = false → n = 0 ∧ c = 0) :
    Tells (C := C0) Tryd.prog (.fn 12) [⟨b, q, 9, false, some o, .rows 42 l⟩] [.sl 0 0 n c, .int .i64 x] (.bool (.tm (headB (l.take n) x))) := by
  have hL := tk_len h
  refine loc_pc (P := Tryd.prog) (E := ⟨[], [], 54, [], [], []⟩) (L := [Iz (fstP x) (l.take n)]) mix Tryd.func12 rfl (by kernel_rfl) (by kernel_rfl) rfl rfl ?_
  ((conv => (arg 1; reduce)); with_reducible repeat' (first | exact Tr.yes_h | refine Tr.and_h ?_ ?_ | refine Tr.imp_h fun _ => ?_ | refine Tr.all_h fun _ => ?_ | refine Tr.lf_h ?_))
  all_goals try (first | (first | first | (show Region.lexB _ _ = true; kernel_rfl) | (show planned _ _ = true; kernel_rfl) | exact rfl | exact True.intro | (first | exact key3 | exact zeroB | exact zeroR | exact zeroS | exact ⟨key3, zeroB⟩ | exact ⟨key3, zeroR⟩ | exact ⟨key3, zeroS⟩) | ((try dsimp only [imp, C0, cG, cInt, cPl, cSlot, cPg, gwCodec] at *); (try refine inR64 ?_ ?_) <;> (try simp only [List.length_set, List.length_append, List.length_take, List.length_drop]) <;> omega)) | ((try dsimp only [imp, C0, cG, cInt, cPl, cSlot, cPg, gwCodec, Iz] at *); (try simp only [decide_eq_true_eq, decide_eq_false_iff_not, Bool.and_eq_true, Bool.or_eq_true, Bool.or_eq_false_iff, Bool.and_eq_false_iff, Bool.not_eq_true', Bool.not_eq_false', SB.val, List.length_append, List.length_cons, List.length_nil, List.length_take, List.length_drop] at *); (first | omega | exact inR64 (by omega) (by omega) | (refine inR64 ?_ ?_ <;> omega))) | (refine on_of ho ?_; ((try dsimp only [imp, C0, cG, cInt, cPl, cSlot, cPg, gwCodec, Iz] at *); (try simp only [decide_eq_true_eq, decide_eq_false_iff_not, Bool.and_eq_true, Bool.or_eq_true, Bool.or_eq_false_iff, Bool.and_eq_false_iff, Bool.not_eq_true', Bool.not_eq_false', SB.val, List.length_append, List.length_cons, List.length_nil, List.length_take, List.length_drop] at *); (first | omega | exact inR64 (by omega) (by omega) | (refine inR64 ?_ ?_ <;> omega)))))
  · refine Stands.one (0 : Nat) ⟨⟨Nat.zero_le _, anyF_zero⟩, ?_⟩
    ((conv => (arg 1; reduce)); with_reducible repeat' (first | exact Tr.yes_h | refine Tr.and_h ?_ ?_ | refine Tr.imp_h fun _ => ?_ | refine Tr.all_h fun _ => ?_ | refine Tr.lf_h ?_))
    all_goals (first | first | (show Region.lexB _ _ = true; kernel_rfl) | (show planned _ _ = true; kernel_rfl) | exact rfl | exact True.intro | (first | exact key3 | exact zeroB | exact zeroR | exact zeroS | exact ⟨key3, zeroB⟩ | exact ⟨key3, zeroR⟩ | exact ⟨key3, zeroS⟩) | ((try dsimp only [imp, C0, cG, cInt, cPl, cSlot, cPg, gwCodec] at *); (try refine inR64 ?_ ?_) <;> (try simp only [List.length_set, List.length_append, List.length_take, List.length_drop]) <;> omega))
  · rename_i v hv h1 h2
    change Nat at v
    obtain ⟨e1, e2⟩ := hv
    have h1 : v < n := by have := of_decide_eq_true h1; omega
    have h3 := find_at (d := pg0) (by rw [hL]; exact h1) e2 (by rw [tk_get h1]; exact h2)
    rw [tk_get h1] at h3
    show _ = headB (l.take n) x
    unfold headB
    rw [h3]; rfl
  · rename_i v hv h1 h2
    change Nat at v
    obtain ⟨e1, e2⟩ := hv
    have h1 : v < n := by have := of_decide_eq_true h1; omega
    refine Stands.one (v + 1 : Nat) ⟨⟨by rw [hL]; exact h1, ?_⟩, ?_, ?_⟩
    · show anyF _ ((l.take n).take (v + 1)) = false
      rw [anyF_snoc (d := pg0) (by rw [hL]; exact h1), e2, tk_get h1]
      exact h2
    · show (l.take n).length - (v + 1) < (l.take n).length - v
      rw [hL]; omega
    ((conv => (arg 1; reduce)); with_reducible repeat' (first | exact Tr.yes_h | refine Tr.and_h ?_ ?_ | refine Tr.imp_h fun _ => ?_ | refine Tr.all_h fun _ => ?_ | refine Tr.lf_h ?_))
    all_goals (first | first | (show Region.lexB _ _ = true; kernel_rfl) | (show planned _ _ = true; kernel_rfl) | exact rfl | exact True.intro | (first | exact key3 | exact zeroB | exact zeroR | exact zeroS | exact ⟨key3, zeroB⟩ | exact ⟨key3, zeroR⟩ | exact ⟨key3, zeroS⟩) | ((try dsimp only [imp, C0, cG, cInt, cPl, cSlot, cPg, gwCodec] at *); (try refine inR64 ?_ ?_) <;> (try simp only [List.length_set, List.length_append, List.length_take, List.length_drop]) <;> omega))
  · rename_i v hv h1
    change Nat at v
    obtain ⟨e1, e2⟩ := hv
    have h1 : ¬ v < n := by have := of_decide_eq_false h1; omega
    rw [List.take_of_length_le (by rw [hL]; omega)] at e2
    show false = headB (l.take n) x
    unfold headB
    rw [find_no e2]
def pcHead : Pc Tryd.prog C0 where
  tg := .fn 12
  X := Bool × Nat × Nat × List Pg × Nat × Nat × Int
  args := fun (o, b, q, l, n, c, x) => [.sl 0 0 n c, .int .i64 x]
  mem := fun (o, b, q, l, n, c, x) => [⟨b, q, 9, false, some o, .rows 42 l⟩]
  pre := fun (o, b, q, l, n, c, x) => n ≤ l.length ∧ n < 4611686018427387904 ∧ (o = false → n = 0 ∧ c = 0)
  res := fun (o, b, q, l, n, c, x) => .bool (.tm (headB (l.take n) x))
  mat vs m := match vs with
    | [.sl a 0 n c, .int _ x] => match nth m a with
      | ⟨b, q, _, _, g, .rows 42 l⟩ => some ((onOf g, b, q, l, n, c, x), [a])
      | _ => none
    | _ => none
  ok := fun (o, b, q, l, n, c, x) h => head_ok o b q l n c x h.1 h.2.1 h.2.2
end Go.Vx
set_option maxRecDepth 100000
namespace Go.Vx
open Go Go.Proofs
variable [Gl]

theorem byMade : Tryd.prog.types[55].bytes = 72 := by kernel_rfl
def MadeI (L : List Pg) : Inv' C0 := ⟨3, Nat × Sq Pg, fun y => [(4, .int .i64 (y.1 : Int)), (3, .sl 1 0 y.2.2.2.2.2.1 y.2.2.2.2.2.2)], fun y m => match m with
  | a :: _ => [a, ⟨y.2.2.1, y.2.2.2.1, 9, true, some y.2.1, .rows 55 y.2.2.2.2.1⟩]
  | m => m, fun y => y.1 ≤ L.length ∧ Gth (L.take y.1) y.2, fun y => L.length - y.1⟩
set_option maxHeartbeats 4000000 in
theorem made_ok (o : Bool) (b q : Nat) (l : List Pg) (n c : Nat) (h : n ≤ l.length) (hn : n < 1000000000) (ho : o = false → n = 0 ∧ c = 0) :
    Does (C := C0) Tryd.prog (.fn 10) [⟨b, q, 9, false, some o, .rows 42 l⟩] [.sl 0 0 n c]
    [⟨Sq Pg, fun y => Gth (l.take n) y, fun y => .sl 1 0 y.2.2.2.2.1 y.2.2.2.2.2, fun y => [⟨b, q, 9, false, some o, .rows 42 l⟩, ⟨y.2.1, y.2.2.1, 9, true, some y.1, .rows 55 y.2.2.2.1⟩]⟩] := by
  have hL := tk_len h
  refine loc_fn (P := Tryd.prog) (E := ⟨[], [], 31, [(5, [0], [.p 0, .p 1, .p 2, .p 3, .p 4, .p 5, .p 6, .p 7, .p 8, .p 9, .p 10, .p 11, .p 12, .p 13, .p 14, .p 15, .p 16, .e 17, .e 18, .p 19])], [], []⟩) (L := [MadeI (l.take n)]) mix Tryd.func10 rfl (by kernel_rfl) (by kernel_rfl) rfl rfl ?_
  ((conv => (arg 1; reduce)); with_reducible repeat' (first | exact Tr.yes_h | refine Tr.and_h ?_ ?_ | refine Tr.imp_h fun _ => ?_ | refine Tr.all_h fun _ => ?_ | refine Tr.lf_h ?_))
  all_goals try (first | first | (show Region.lexB _ _ = true; kernel_rfl) | (show planned _ _ = true; kernel_rfl) | exact rfl | exact True.intro | (first | exact key3 | exact zeroB | exact zeroR | exact zeroS | exact ⟨key3, zeroB⟩ | exact ⟨key3, zeroR⟩ | exact ⟨key3, zeroS⟩) | ((try dsimp only [imp, C0, cG, cInt, cPl, cSlot, cPg, gwCodec] at *); (try refine inR64 ?_ ?_) <;> (try simp only [List.length_set, List.length_append, List.length_take, List.length_drop]) <;> omega))
  · refine Stands.one (0, (false, 0, 0, [], 0, 0)) ⟨⟨Nat.zero_le _, Gth.nil⟩, ?_⟩
    ((conv => (arg 1; reduce)); with_reducible repeat' (first | exact Tr.yes_h | refine Tr.and_h ?_ ?_ | refine Tr.imp_h fun _ => ?_ | refine Tr.all_h fun _ => ?_ | refine Tr.lf_h ?_))
    all_goals (first | first | (show Region.lexB _ _ = true; kernel_rfl) | (show planned _ _ = true; kernel_rfl) | exact rfl | exact True.intro | (first | exact key3 | exact zeroB | exact zeroR | exact zeroS | exact ⟨key3, zeroB⟩ | exact ⟨key3, zeroR⟩ | exact ⟨key3, zeroS⟩) | ((try dsimp only [imp, C0, cG, cInt, cPl, cSlot, cPg, gwCodec] at *); (try refine inR64 ?_ ?_) <;> (try simp only [List.length_set, List.length_append, List.length_take, List.length_drop]) <;> omega))
  all_goals try (
    rename_i y hy h1
    have h1 : (y.1 : Int) < (n : Int) := of_decide_eq_true h1
    first
      | exact on_of ho (by omega)
      | exact h1
      | (show y.1 < l.length; omega))
  · rename_i y hy h1 b2
    obtain ⟨v, o', b', q', l', n', c'⟩ := y
    have h1 : (v : Int) < (n : Int) := of_decide_eq_true h1
    have hG := hy.2.room
    have hnv : n' = v := by
      have e : n' = ((l.take n).take v).length := hG.2.2.1
      rw [List.length_take, hL] at e
      omega
    rw [byMade]
    exact ⟨hG.1, by show 0 + c' ≤ l'.length; have := hG.2.1; omega, by simp, by show (n' + 1) * 72 ≤ _; omega⟩
  · rename_i y hy h1 b2
    exact hy.2.room.2.2.2
  · rename_i y hy h1 b2 b3 b4 sp c' h3 h4
    obtain ⟨v, o', b', q', l', n', c0⟩ := y
    have h1 : (v : Int) < (n : Int) := of_decide_eq_true h1
    exact inR64 (by show -9223372036854775808 ≤ (v : Int) + 1; omega) (by show (v : Int) + 1 ≤ 9223372036854775807; omega)
  · rename_i y hy h1 b2 b3 b4 sp c' h3 h4
    obtain ⟨v, o', b', q', l', n', c0⟩ := y
    obtain ⟨e1, hG⟩ := hy
    have h1 : (v : Int) < (n : Int) := of_decide_eq_true h1
    change List Pg at sp
    refine Stands.one ((v + 1, (true, b3, b4, l'.take n' ++ [l.getD v pg0] ++ sp, n' + 1, c')) : Nat × Sq Pg) ⟨⟨by show v + 1 ≤ (l.take n).length; omega, ?_⟩, ?_, ?_⟩
    · show Gth ((l.take n).take (v + 1)) _
      rw [take_snoc (d := pg0) (by omega), tk_get (by omega)]
      exact hG.snoc h3 h4
    · show (l.take n).length - (v + 1) < (l.take n).length - v
      omega
    ((conv => (arg 1; reduce)); with_reducible repeat' (first | exact Tr.yes_h | refine Tr.and_h ?_ ?_ | refine Tr.imp_h fun _ => ?_ | refine Tr.all_h fun _ => ?_ | refine Tr.lf_h ?_))
    all_goals (first | first | (show Region.lexB _ _ = true; kernel_rfl) | (show planned _ _ = true; kernel_rfl) | exact rfl | exact True.intro | (first | exact key3 | exact zeroB | exact zeroR | exact zeroS | exact ⟨key3, zeroB⟩ | exact ⟨key3, zeroR⟩ | exact ⟨key3, zeroS⟩) | ((try dsimp only [imp, C0, cG, cInt, cPl, cSlot, cPg, gwCodec] at *); (try refine inR64 ?_ ?_) <;> (try simp only [List.length_set, List.length_append, List.length_take, List.length_drop]) <;> omega))
  · rename_i y hy h1
    obtain ⟨v, o', b', q', l', n', c0⟩ := y
    obtain ⟨e1, hG⟩ := hy
    have h1 : ¬ (v : Int) < (n : Int) := of_decide_eq_false h1
    have e1 : v ≤ (l.take n).length := e1
    have hG : Gth ((l.take n).take v) (o', b', q', l', n', c0) := hG
    rw [List.take_of_length_le (by omega)] at hG
    refine Ends.one ((o', b', q', l', n', c0) : Sq Pg) hG ?_
    ((conv => (arg 1; reduce)); with_reducible repeat' (first | exact Tr.yes_h | refine Tr.and_h ?_ ?_ | refine Tr.imp_h fun _ => ?_ | refine Tr.all_h fun _ => ?_ | refine Tr.lf_h ?_))
    all_goals (first | first | (show Region.lexB _ _ = true; kernel_rfl) | (show planned _ _ = true; kernel_rfl) | exact rfl | exact True.intro | (first | exact key3 | exact zeroB | exact zeroR | exact zeroS | exact ⟨key3, zeroB⟩ | exact ⟨key3, zeroR⟩ | exact ⟨key3, zeroS⟩) | ((try dsimp only [imp, C0, cG, cInt, cPl, cSlot, cPg, gwCodec] at *); (try refine inR64 ?_ ?_) <;> (try simp only [List.length_set, List.length_append, List.length_take, List.length_drop]) <;> omega))
def fcMade : Fc Tryd.prog C0 where
  tg := .fn 10
  X := Bool × Nat × Nat × List Pg × Nat × Nat
  args := fun (o, b, q, l, n, c) => [.sl 0 0 n c]
  mem := fun (o, b, q, l, n, c) => [⟨b, q, 9, false, some o, .rows 42 l⟩]
  pre := fun (o, b, q, l, n, c) => n ≤ l.length ∧ n < 1000000000 ∧ (o = false → n = 0 ∧ c = 0)
  alts := fun (o, b, q, l, n, c) => [⟨Sq Pg, fun y => Gth (l.take n) y, fun y => .sl 1 0 y.2.2.2.2.1 y.2.2.2.2.2, fun y => [⟨b, q, 9, false, some o, .rows 42 l⟩, ⟨y.2.1, y.2.2.1, 9, true, some y.1, .rows 55 y.2.2.2.1⟩]⟩]
  mat vs m := match vs with
    | [.sl a 0 n c] => match nth m a with
      | ⟨b, q, _, _, g, .rows 42 l⟩ => some ((onOf g, b, q, l, n, c), [a])
      | _ => none
    | [.nils] => some ((false, 0, 0, [], 0, 0), [m.length])
    | _ => none
  ok := fun (o, b, q, l, n, c) h => made_ok o b q l n c h.1 h.2.1 h.2.2
theorem bySlotsC : Tryd.prog.types[59].bytes = 72 := by kernel_rfl
def SlotscI (L : List Slot) : Inv' C0 := ⟨3, Nat × Sq Slot, fun y => [(4, .int .i64 (y.1 : Int)), (3, .sl 1 0 y.2.2.2.2.2.1 y.2.2.2.2.2.2)], fun y m => match m with
  | a :: _ => [a, ⟨y.2.2.1, y.2.2.2.1, 9, true, some y.2.1, .rows 59 y.2.2.2.2.1⟩]
  | m => m, fun y => y.1 ≤ L.length ∧ Gth (L.take y.1) y.2, fun y => L.length - y.1⟩
set_option maxHeartbeats 4000000 in
theorem slotsC_ok (o : Bool) (b q : Nat) (l : List Slot) (n c : Nat) (h : n ≤ l.length) (hn : n < 1000000000) (ho : o = false → n = 0 ∧ c = 0) :
    Does (C := C0) Tryd.prog (.fn 19) [⟨b, q, 9, false, some o, .rows 40 l⟩] [.sl 0 0 n c]
    [⟨Sq Slot, fun y => Gth (l.take n) y, fun y => .sl 1 0 y.2.2.2.2.1 y.2.2.2.2.2, fun y => [⟨b, q, 9, false, some o, .rows 40 l⟩, ⟨y.2.1, y.2.2.1, 9, true, some y.1, .rows 59 y.2.2.2.1⟩]⟩] := by
  have hL := tk_len h
  refine loc_fn (P := Tryd.prog) (E := ⟨[], [], 31, [(5, [0], [.p 0, .p 1, .p 2, .p 3, .p 4, .p 5, .p 6, .p 7, .p 8, .p 9, .p 10, .p 11, .p 12, .p 13, .p 14, .p 15, .p 16, .e 17, .e 18, .p 19])], [], []⟩) (L := [SlotscI (l.take n)]) mix Tryd.func19 rfl (by kernel_rfl) (by kernel_rfl) rfl rfl ?_
  ((conv => (arg 1; reduce)); with_reducible repeat' (first | exact Tr.yes_h | refine Tr.and_h ?_ ?_ | refine Tr.imp_h fun _ => ?_ | refine Tr.all_h fun _ => ?_ | refine Tr.lf_h ?_))
  all_goals try (first | first | (show Region.lexB _ _ = true; kernel_rfl) | (show planned _ _ = true; kernel_rfl) | exact rfl | exact True.intro | (first | exact key3 | exact zeroB | exact zeroR | exact zeroS | exact ⟨key3, zeroB⟩ | exact ⟨key3, zeroR⟩ | exact ⟨key3, zeroS⟩) | ((try dsimp only [imp, C0, cG, cInt, cPl, cSlot, cPg, gwCodec] at *); (try refine inR64 ?_ ?_) <;> (try simp only [List.length_set, List.length_append, List.length_take, List.length_drop]) <;> omega))
  · refine Stands.one (0, (false, 0, 0, [], 0, 0)) ⟨⟨Nat.zero_le _, Gth.nil⟩, ?_⟩
    ((conv => (arg 1; reduce)); with_reducible repeat' (first | exact Tr.yes_h | refine Tr.and_h ?_ ?_ | refine Tr.imp_h fun _ => ?_ | refine Tr.all_h fun _ => ?_ | refine Tr.lf_h ?_))
    all_goals (first | first | (show Region.lexB _ _ = true; kernel_rfl) | (show planned _ _ = true; kernel_rfl) | exact rfl | exact True.intro | (first | exact key3 | exact zeroB | exact zeroR | exact zeroS | exact ⟨key3, zeroB⟩ | exact ⟨key3, zeroR⟩ | exact ⟨key3, zeroS⟩) | ((try dsimp only [imp, C0, cG, cInt, cPl, cSlot, cPg, gwCodec] at *); (try refine inR64 ?_ ?_) <;> (try simp only [List.length_set, List.length_append, List.length_take, List.length_drop]) <;> omega))
  all_goals try (
    rename_i y hy h1
    have h1 : (y.1 : Int) < (n : Int) := of_decide_eq_true h1
    first
      | exact on_of ho (by omega)
      | exact h1
      | (show y.1 < l.length; omega))
  · rename_i y hy h1 b2
    obtain ⟨v, o', b', q', l', n', c'⟩ := y
    have h1 : (v : Int) < (n : Int) := of_decide_eq_true h1
    have hG := hy.2.room
    have hnv : n' = v := by
      have e : n' = ((l.take n).take v).length := hG.2.2.1
      rw [List.length_take, hL] at e
      omega
    rw [bySlotsC]
    exact ⟨hG.1, by show 0 + c' ≤ l'.length; have := hG.2.1; omega, by simp, by show (n' + 1) * 72 ≤ _; omega⟩
  · rename_i y hy h1 b2
    exact hy.2.room.2.2.2
  · rename_i y hy h1 b2 b3 b4 sp c' h3 h4
    obtain ⟨v, o', b', q', l', n', c0⟩ := y
    have h1 : (v : Int) < (n : Int) := of_decide_eq_true h1
    exact inR64 (by show -9223372036854775808 ≤ (v : Int) + 1; omega) (by show (v : Int) + 1 ≤ 9223372036854775807; omega)
  · rename_i y hy h1 b2 b3 b4 sp c' h3 h4
    obtain ⟨v, o', b', q', l', n', c0⟩ := y
    obtain ⟨e1, hG⟩ := hy
    have h1 : (v : Int) < (n : Int) := of_decide_eq_true h1
    change List Slot at sp
    refine Stands.one ((v + 1, (true, b3, b4, l'.take n' ++ [l.getD v slot0] ++ sp, n' + 1, c')) : Nat × Sq Slot) ⟨⟨by show v + 1 ≤ (l.take n).length; omega, ?_⟩, ?_, ?_⟩
    · show Gth ((l.take n).take (v + 1)) _
      rw [take_snoc (d := slot0) (by omega), tk_get (by omega)]
      exact hG.snoc h3 h4
    · show (l.take n).length - (v + 1) < (l.take n).length - v
      omega
    ((conv => (arg 1; reduce)); with_reducible repeat' (first | exact Tr.yes_h | refine Tr.and_h ?_ ?_ | refine Tr.imp_h fun _ => ?_ | refine Tr.all_h fun _ => ?_ | refine Tr.lf_h ?_))
    all_goals (first | first | (show Region.lexB _ _ = true; kernel_rfl) | (show planned _ _ = true; kernel_rfl) | exact rfl | exact True.intro | (first | exact key3 | exact zeroB | exact zeroR | exact zeroS | exact ⟨key3, zeroB⟩ | exact ⟨key3, zeroR⟩ | exact ⟨key3, zeroS⟩) | ((try dsimp only [imp, C0, cG, cInt, cPl, cSlot, cPg, gwCodec] at *); (try refine inR64 ?_ ?_) <;> (try simp only [List.length_set, List.length_append, List.length_take, List.length_drop]) <;> omega))
  · rename_i y hy h1
    obtain ⟨v, o', b', q', l', n', c0⟩ := y
    obtain ⟨e1, hG⟩ := hy
    have h1 : ¬ (v : Int) < (n : Int) := of_decide_eq_false h1
    have e1 : v ≤ (l.take n).length := e1
    have hG : Gth ((l.take n).take v) (o', b', q', l', n', c0) := hG
    rw [List.take_of_length_le (by omega)] at hG
    refine Ends.one ((o', b', q', l', n', c0) : Sq Slot) hG ?_
    ((conv => (arg 1; reduce)); with_reducible repeat' (first | exact Tr.yes_h | refine Tr.and_h ?_ ?_ | refine Tr.imp_h fun _ => ?_ | refine Tr.all_h fun _ => ?_ | refine Tr.lf_h ?_))
    all_goals (first | first | (show Region.lexB _ _ = true; kernel_rfl) | (show planned _ _ = true; kernel_rfl) | exact rfl | exact True.intro | (first | exact key3 | exact zeroB | exact zeroR | exact zeroS | exact ⟨key3, zeroB⟩ | exact ⟨key3, zeroR⟩ | exact ⟨key3, zeroS⟩) | ((try dsimp only [imp, C0, cG, cInt, cPl, cSlot, cPg, gwCodec] at *); (try refine inR64 ?_ ?_) <;> (try simp only [List.length_set, List.length_append, List.length_take, List.length_drop]) <;> omega))
def fcSlotsc : Fc Tryd.prog C0 where
  tg := .fn 19
  X := Bool × Nat × Nat × List Slot × Nat × Nat
  args := fun (o, b, q, l, n, c) => [.sl 0 0 n c]
  mem := fun (o, b, q, l, n, c) => [⟨b, q, 9, false, some o, .rows 40 l⟩]
  pre := fun (o, b, q, l, n, c) => n ≤ l.length ∧ n < 1000000000 ∧ (o = false → n = 0 ∧ c = 0)
  alts := fun (o, b, q, l, n, c) => [⟨Sq Slot, fun y => Gth (l.take n) y, fun y => .sl 1 0 y.2.2.2.2.1 y.2.2.2.2.2, fun y => [⟨b, q, 9, false, some o, .rows 40 l⟩, ⟨y.2.1, y.2.2.1, 9, true, some y.1, .rows 59 y.2.2.2.1⟩]⟩]
  mat vs m := match vs with
    | [.sl a 0 n c] => match nth m a with
      | ⟨b, q, _, _, g, .rows 40 l⟩ => some ((onOf g, b, q, l, n, c), [a])
      | _ => none
    | [.nils] => some ((false, 0, 0, [], 0, 0), [m.length])
    | _ => none
  ok := fun (o, b, q, l, n, c) h => slotsC_ok o b q l n c h.1 h.2.1 h.2.2
end Go.Vx
set_option maxRecDepth 100000
namespace Go.Vx
open Go Go.Proofs
variable [Gl]

abbrev sqN {α : Type} : Sq α := (false, 0, 0, [], 0, 0)
def OfPre : Int × Int × Int × Sq Int × Sq Pg → Prop
  | (bs, ps, ss, s, l) => (1 ≤ bs ∧ bs ≤ 64) ∧ (1 ≤ ps ∧ ps ≤ 64) ∧ (1 ≤ ss ∧ ss ≤ 536870912) ∧
    (s.2.2.2.2.1 ≤ s.2.2.2.1.length ∧ s.2.2.2.2.1 < 1000000000 ∧ (s.1 = false → s.2.2.2.2.1 = 0 ∧ s.2.2.2.2.2 = 0)) ∧
    (l.2.2.2.2.1 ≤ l.2.2.2.1.length ∧ l.2.2.2.2.1 < 1000000 ∧ (l.1 = false → l.2.2.2.2.1 = 0 ∧ l.2.2.2.2.2 = 0))
noncomputable def fcOf : Fc Tryd.prog C0 where
  tg := .fn 9
  X := Int × Int × Int × Sq Int × Sq Pg
  args := fun (bs, ps, ss, s, l) => [.int .i64 bs, .int .i64 ps, .int .i64 ss, svI 0 s, svP 1 l]
  mem := fun (bs, ps, ss, s, l) => [chK s, chP l]
  pre := OfPre
  alts := fun (bs, ps, ss, s, l) => [⟨Sq Slot × Sq Int × Sq Int × Sq Int × Sq Pl, OfS ⟨bs, ps, ss⟩ s.li l.li,
      fun y => .tup [resA (nmOf bs.toNat (gridL bs.toNat l.li)) y.1 y.2.1 y.2.2.1 y.2.2.2.1 y.2.2.2.2, .nili],
      fun y => [chK s, chP l, chL y.1, chI y.2.1, chI y.2.2.1, chI y.2.2.2.1, chO y.2.2.2.2]⟩,
     ⟨Unit, fun _ => ∃ j, j < l.li.length ∧ pgBad bs ps s.li l.li j = true, fun _ => .tup [resN, errSV 0], fun _ => [chK s, chP l]⟩]
  mat vs m := match vs with
    | [.int _ bs, .int _ ps, .int _ ss, .nils, .sl a 0 n c] => match nth m a with
      | ⟨b, q, _, _, g, .rows 55 l⟩ => some ((bs, ps, ss, sqN, (onOf g, b, q, l, n, c)), [m.length, a])
      | _ => none
    | [.int _ bs, .int _ ps, .int _ ss, .nils, .nils] => some ((bs, ps, ss, sqN, sqN), [m.length, m.length + 1])
    | _ => none
  ok := fun (bs, ps, ss, s, l) h => of_ok bs ps ss h.1 h.2.1 h.2.2.1 s l h.2.2.2.1 h.2.2.2.2
abbrev fl1 : List Pg := [⟨(0, 0), 1, ⟨1, 0, 0, 1, 0, 0⟩⟩, ⟨(0, 1), 1, ⟨2, 2, 5, 2, 0, 0⟩⟩, ⟨(0, 2), 1, ⟨2, 2, 6, 3, 1, 0⟩⟩]
abbrev fl2 : List Pg := fl1 ++ [⟨(1, 0), 1, ⟨1, 1, 0, 4, 0, 0⟩⟩, ⟨(1, 1), 1, ⟨4, 1, 7, 5, 1, 0⟩⟩]
theorem bad_all {bs ps : Int} {L : List Pg} (h : (List.range L.length).all (fun j => !pgBad bs ps [] L j) = true) : ∀ j, j < L.length → pgBad bs ps [] L j = false := by
  intro j hj
  exact not_t (List.all_eq_true.1 h j (List.mem_range.2 hj))
theorem fl1_bad : ∀ j, j < fl1.length → pgBad 2 3 [] fl1 j = false := bad_all (by kernel_rfl)
theorem fl2_bad : ∀ j, j < fl2.length → pgBad 2 3 [] fl2 j = false := bad_all (by kernel_rfl)
theorem fl1_S : sloS ⟨2, 3, 4⟩ 2 (gridL 2 fl1) = [⟨2, (0, 1), ⟨2, 2, 5, 2, 0, 0⟩⟩] := by kernel_rfl
theorem fl1_F : freS [] 2 (gridL 2 fl1) = [1] := by kernel_rfl
theorem fl1_D : dirS ⟨2, 3, 4⟩ [] 2 (gridL 2 fl1) = [0] := by kernel_rfl
theorem fl1_O : orfS 2 (gridL 2 fl1) = [(0, 2)] := by kernel_rfl
theorem fl2_S : sloS ⟨2, 3, 4⟩ 2 (gridL 2 fl2) = [⟨2, (0, 2), ⟨2, 2, 6, 3, 1, 0⟩⟩, ⟨9, (1, 1), ⟨4, 1, 7, 5, 1, 0⟩⟩] := by kernel_rfl
theorem fl2_D : dirS ⟨2, 3, 4⟩ [] 2 (gridL 2 fl2) = [] := by kernel_rfl
theorem fl2_f : (nmOf 2 (gridL 2 fl2)).f = 1 := by kernel_rfl
theorem Gth.n {α : Type} {A : List α} {y : Sq α} (h : Gth A y) : y.2.2.2.2.1 = A.length := h.2.1.symm
theorem Gth.tk {α : Type} {A : List α} {y : Sq α} (h : Gth A y) : y.2.2.2.1.take y.2.2.2.2.1 = A := h.1
theorem Gth.le {α : Type} {A : List α} {y : Sq α} (h : Gth A y) : y.2.2.2.2.1 ≤ y.2.2.2.1.length := Nat.le_trans h.2.2.1 h.2.2.2.1
theorem Gth.off {α : Type} {A : List α} {y : Sq α} (h : Gth A y) : y.1 = false → y.2.2.2.2.1 = 0 ∧ y.2.2.2.2.2 = 0 := h.2.2.2.2
theorem Gth.on {α : Type} {A : List α} {y : Sq α} (h : Gth A y) (hA : 0 < A.length) : y.1 = true := on_of h.off (by rw [h.n]; exact hA)
theorem Gth.get {α : Type} {A : List α} {y : Sq α} (h : Gth A y) {i : Nat} {d : α} (hi : i < A.length) : y.2.2.2.1.getD i d = A.getD i d := by
  rw [← h.tk, tk_get (by rw [h.n]; exact hi)]
theorem Gth.same {α : Type} {A : List α} {y : Sq α} (h : Gth A y) (hA : A.length < 140737488355000) : y.2.2.2.2.1 ≤ y.2.2.2.1.length ∧ y.2.2.2.2.1 < 140737488355000 ∧ (y.1 = false → y.2.2.2.2.1 = 0 ∧ y.2.2.2.2.2 = 0) := ⟨h.le, by rw [h.n]; exact hA, h.off⟩
structure F1 (y : Sq Slot × Sq Int × Sq Int × Sq Int × Sq Pl) : Prop where
  S : Gth [⟨2, (0, 1), ⟨2, 2, 5, 2, 0, 0⟩⟩] y.1
  F : Gth [1] y.2.1
  D : Gth [0] y.2.2.1
  O : Gth [(0, 2)] y.2.2.2.2
theorem F1.of {y : Sq Slot × Sq Int × Sq Int × Sq Int × Sq Pl} (h : OfS ⟨2, 3, 4⟩ [] fl1 y) : F1 y := ⟨by rw [← fl1_S]; exact h.2.1, by rw [← fl1_F]; exact h.2.2.1, by rw [← fl1_D]; exact h.2.2.2.1, by rw [← fl1_O]; exact h.2.2.2.2.2⟩
structure F2 (y : Sq Slot × Sq Int × Sq Int × Sq Int × Sq Pl) : Prop where
  S : Gth [⟨2, (0, 2), ⟨2, 2, 6, 3, 1, 0⟩⟩, ⟨9, (1, 1), ⟨4, 1, 7, 5, 1, 0⟩⟩] y.1
  D : Gth [] y.2.2.1
theorem F2.of {y : Sq Slot × Sq Int × Sq Int × Sq Int × Sq Pl} (h : OfS ⟨2, 3, 4⟩ [] fl2 y) : F2 y := ⟨by rw [← fl2_S]; exact h.2.1, by rw [← fl2_D]; exact h.2.2.2.1⟩
theorem first_ok : Tells (C := C0) Tryd.prog (.fn 8) [] [] (.bool .t) := by
  refine loc_pc (P := Tryd.prog) (E := ⟨[fcOf], [pcPage, pcSameInts], 103, [], [], []⟩) (L := []) mix Tryd.func8 rfl (by kernel_rfl) (by kernel_rfl) rfl rfl ?_
  ((conv => (arg 1; reduce)); with_reducible repeat' (first | exact Tr.yes_h | refine Tr.and_h ?_ ?_ | refine Tr.imp_h fun _ => ?_ | refine Tr.all_h fun _ => ?_ | refine Tr.lf_h ?_))
  all_goals try (first | first | (show Region.lexB _ _ = true; kernel_rfl) | (show planned _ _ = true; kernel_rfl) | exact rfl | exact True.intro | (first | exact key3 | exact zeroB | exact zeroR | exact zeroS | exact ⟨key3, zeroB⟩ | exact ⟨key3, zeroR⟩ | exact ⟨key3, zeroS⟩) | ((try dsimp only [imp, C0, cG, cInt, cPl, cSlot, cPg, gwCodec] at *); (try refine inR64 ?_ ?_) <;> (try simp only [List.length_set, List.length_append, List.length_take, List.length_drop]) <;> omega))
  · exact ⟨by decide, by decide, by decide, ⟨Nat.le_refl 0, by decide, fun _ => ⟨rfl, rfl⟩⟩, (Nat.le_refl 3 : 3 ≤ 3), (by decide : 3 < 1000000), fun h => Bool.noConfusion h⟩
  · rename_i b0 y1 h1 c1 d1
    exact (F1.of h1).S.on (by decide)
  · rename_i b0 y1 h1 c1 d1
    show (0 : Int) < ((y1.1.2.2.2.2.1 : Nat) : Int)
    rw [(F1.of h1).S.n]; decide
  · rename_i b0 y1 h1 c1 d1
    exact (F1.of h1).S.on (by decide)
  · rename_i b0 y1 h1 c1 d1
    exact Nat.lt_of_lt_of_le (by rw [(F1.of h1).S.n]; decide : 0 < y1.1.2.2.2.2.1) (F1.of h1).S.le
  · rename_i b0 y1 h1 c1 d1
    have f1 : F1 y1 := F1.of h1
    have d1 : (decide (((y1.1.2.2.2.2.1 : Nat) : Int) ≠ 1) || decide ((y1.1.2.2.2.1.getD 0 slot0).pl.2 ≠ 1)) = true := d1
    rw [f1.S.n, f1.S.get (d := slot0) (by decide)] at d1
    exact absurd d1 (by decide)
  · rename_i b0 y1 h1 c1 d1 u1
    have f1 : F1 y1 := F1.of h1
    exact ⟨f1.D.le, Nat.le_refl 1, by rw [f1.D.n]; decide, f1.D.off, fun h => Bool.noConfusion h⟩
  · rename_i b0 y1 h1 c1 d1 u1 d2
    have f1 : F1 y1 := F1.of h1
    have d2 : (!ieq (y1.2.2.1.2.2.2.1.take y1.2.2.1.2.2.2.2.1) [0] || decide (((y1.2.2.2.2.2.2.2.2.1 : Nat) : Int) ≠ 1)) = true := d2
    rw [f1.D.tk, f1.O.n, ieq_yes rfl] at d2
    exact absurd d2 (by decide)
  · rename_i b0 y1 h1 c1 d1 u1 d2 u2
    have f1 : F1 y1 := F1.of h1
    exact ⟨f1.F.le, Nat.le_refl 1, by rw [f1.F.n]; decide, f1.F.off, fun h => Bool.noConfusion h⟩
  · rename_i b0 y1 h1 c1 d1 u1 d2 u2 d3
    have f1 : F1 y1 := F1.of h1
    have d3 : (!ieq (y1.2.1.2.2.2.1.take y1.2.1.2.2.2.2.1) [1]) = true := d3
    rw [f1.F.tk, ieq_yes rfl] at d3
    exact absurd d3 (by decide)
  · refine ⟨Nat.le_refl 3, (Nat.le_refl 3 : 0 + 3 ≤ 3), (Nat.le_refl 2 : 0 + 2 ≤ 2), ?_⟩
    show (3 + 2) * Tryd.prog.types[55].bytes ≤ _
    rw [byP]; decide
  · rename_i b0 y1 h1 c1 d1 u1 d2 u2 d3 u3 b9 q9 sp cp e1 e2
    exact ⟨by decide, by decide, by decide, ⟨Nat.le_refl 0, by decide, fun _ => ⟨rfl, rfl⟩⟩, (by show 5 ≤ (fl2 ++ sp).length; rw [List.length_append]; exact Nat.le_add_right 5 _), (by decide : 5 < 1000000), fun h => Bool.noConfusion h⟩
  · rename_i b0 y1 h1 c1 d1 u1 d2 u2 d3 u3 b9 q9 sp cp e1 e2 y2 h2 c2 d4
    exact (F2.of h2).S.on (by decide)
  · rename_i b0 y1 h1 c1 d1 u1 d2 u2 d3 u3 b9 q9 sp cp e1 e2 y2 h2 c2 d4
    show (0 : Int) < ((y2.1.2.2.2.2.1 : Nat) : Int)
    rw [(F2.of h2).S.n]; decide
  · rename_i b0 y1 h1 c1 d1 u1 d2 u2 d3 u3 b9 q9 sp cp e1 e2 y2 h2 c2 d4
    exact (F2.of h2).S.on (by decide)
  · rename_i b0 y1 h1 c1 d1 u1 d2 u2 d3 u3 b9 q9 sp cp e1 e2 y2 h2 c2 d4
    exact Nat.lt_of_lt_of_le (by rw [(F2.of h2).S.n]; decide : 0 < y2.1.2.2.2.2.1) (F2.of h2).S.le
  · rename_i b0 y1 h1 c1 d1 u1 d2 u2 d3 u3 b9 q9 sp cp e1 e2 y2 h2 c2 d4
    exact (F2.of h2).S.on (by decide)
  · rename_i b0 y1 h1 c1 d1 u1 d2 u2 d3 u3 b9 q9 sp cp e1 e2 y2 h2 c2 d4
    show (1 : Int) < ((y2.1.2.2.2.2.1 : Nat) : Int)
    rw [(F2.of h2).S.n]; decide
  · rename_i b0 y1 h1 c1 d1 u1 d2 u2 d3 u3 b9 q9 sp cp e1 e2 y2 h2 c2 d4
    exact (F2.of h2).S.on (by decide)
  · rename_i b0 y1 h1 c1 d1 u1 d2 u2 d3 u3 b9 q9 sp cp e1 e2 y2 h2 c2 d4
    exact Nat.lt_of_lt_of_le (by rw [(F2.of h2).S.n]; decide : 1 < y2.1.2.2.2.2.1) (F2.of h2).S.le
  · rename_i b0 y1 h1 c1 d1 u1 d2 u2 d3 u3 b9 q9 sp cp e1 e2 y2 h2 c2
    have f2 : F2 y2 := F2.of h2
    show (decide ((nmOf 2 (gridL 2 fl2)).f = 1) && decide (((y2.1.2.2.2.2.1 : Nat) : Int) = 2) && decide ((y2.1.2.2.2.1.getD 0 slot0).pl.2 = 2) && decide ((y2.1.2.2.2.1.getD 1 slot0).key = 9) && decide (((y2.2.2.1.2.2.2.2.1 : Nat) : Int) = 0)) = true
    rw [fl2_f, f2.S.n, f2.D.n, f2.S.get (d := slot0) (by decide), f2.S.get (d := slot0) (by decide)]
    decide
  · rename_i b0 y1 h1 c1 d1 u1 d2 u2 d3 u3 b9 q9 sp cp e1 e2 y2 h2 c2
    obtain ⟨j, hj, hb⟩ := h2
    exact absurd ((fl2_bad j hj).symm.trans hb) (by decide)
  · rename_i b0 y1 h1 c1
    obtain ⟨j, hj, hb⟩ := h1
    exact absurd ((fl1_bad j hj).symm.trans hb) (by decide)
def pcFirst : Pc Tryd.prog C0 where
  tg := .fn 8
  X := Unit
  args _ := []
  mem _ := []
  pre _ := True
  res _ := .bool .t
  mat vs m := match vs with
    | [] => some ((), [])
    | _ => none
  ok _ _ := first_ok
end Go.Vx
set_option maxRecDepth 100000
namespace Go.Vx
open Go Go.Proofs
variable [Gl]

theorem and_le (x : Int) (N : Nat) (h : N < 9223372036854775808) : 0 ≤ ibit .and .i64 x (N : Int) ∧ ibit .and .i64 x (N : Int) ≤ (N : Int) := by
  unfold ibit
  simp only
  have h0 : (BitVec.ofInt IntKind.i64.bits (N : Int)).toNat ≤ N := by
    rw [BitVec.toNat_ofInt]
    have e : ((N : Int) % ((2 ^ IntKind.i64.bits : Nat) : Int)) = (N : Int) := Int.emod_eq_of_lt (by omega) (by show (N : Int) < ((18446744073709551616 : Nat) : Int); omega)
    rw [e]; exact Nat.le_refl _
  have h1 : (BitVec.ofInt IntKind.i64.bits x &&& BitVec.ofInt IntKind.i64.bits (N : Int)).toNat ≤ N := by
    rw [BitVec.toNat_and]
    exact Nat.le_trans Nat.and_le_right h0
  have hw : IntKind.wrap .i64 (((BitVec.ofInt IntKind.i64.bits x &&& BitVec.ofInt IntKind.i64.bits (N : Int)).toNat : Nat) : Int) = _ := inR64 (by omega) (by omega)
  rw [hw]
  omega
/-- A batch's page. -/
abbrev lcP (b : Int) (j : Nat) : Pg := ⟨(0, (j : Int) + 1), 1, ⟨2, (j : Int), (j : Int) + 1, (j : Int) + 2, b, 0⟩⟩
def lc (b : Int) (k : Nat) : List Pg := ⟨(0, 0), 1, ⟨1, 0, 0, 1, 0, 0⟩⟩ :: (List.range k).map (lcP b)
theorem lc_succ (b : Int) (k : Nat) : lc b (k + 1) = lc b k ++ [lcP b k] := by
  unfold lc
  rw [List.range_succ, List.map_append]; rfl
def lc1 (b : Int) (k : Nat) (cm : Bool) : List Pg := lc b k ++ if cm then [⟨(0, (k : Int) + 1), 1, ⟨4, b, 20, 20, b, 0⟩⟩] else []
def lc2 (b : Int) (k : Nat) (cm la : Bool) : List Pg := lc1 b k cm ++ if la then [⟨(1, 0), 1, ⟨1, 1, 0, 30, 0, b⟩⟩] else []
/-- The same, where the second has nothing. -/
def pcSameIntsN : Pc Tryd.prog C0 := { pcSameInts with
  mat := fun vs m => match vs with
    | [.nils, .nils] => some (((false, 0, 0, [], 0, 0), (false, 0, 0, [], 0, 0)), [m.length, m.length + 1])
    | _ => none }
end Go.Vx
set_option maxRecDepth 100000
namespace Go.Vx
open Go Go.Proofs
variable [Gl]

theorem foldl_max {α : Type} (v : α → Int) : ∀ (L : List α) (a : Int), a ≤ L.foldl (fun a p => max a (v p)) a ∧ (∀ p ∈ L, v p ≤ L.foldl (fun a p => max a (v p)) a) ∧ (L.foldl (fun a p => max a (v p)) a = a ∨ ∃ p ∈ L, L.foldl (fun a p => max a (v p)) a = v p)
  | [], a => ⟨Int.le_refl _, fun p hp => (by cases hp), .inl rfl⟩
  | q :: r, a => by
    obtain ⟨h1, h2, h3⟩ := foldl_max v r (max a (v q))
    rw [List.foldl_cons]
    refine ⟨by omega, fun p hp => ?_, ?_⟩
    · rcases List.mem_cons.1 hp with rfl | hp
      · omega
      · exact h2 p hp
    · rcases h3 with h3 | ⟨p, hp, h3⟩
      · rw [h3]
        rcases Int.le_total a (v q) with h | h
        · exact .inr ⟨q, List.mem_cons_self .., by omega⟩
        · exact .inl (by omega)
      · exact .inr ⟨p, List.mem_cons_of_mem _ hp, h3⟩
/-- What a page says of the floor. -/
def flv (p : Pg) : Int := if p.me.kind = 4 then max p.me.floor p.me.key else p.me.floor
theorem flH_eq : flH = fun a p => max a (flv p) := by
  funext a p
  show (if p.me.kind = 4 then max (max a p.me.floor) p.me.key else max a p.me.floor) = max a (flv p)
  unfold flv
  by_cases h : p.me.kind = 4
  · rw [if_pos h, if_pos h]; exact Int.max_assoc ..
  · rw [if_neg h, if_neg h]
theorem fTo_max {g : Me → Int} {f : Nat → List Pg → Bool} {Q : List (List Pg)} {n : Nat} {x : Int} (h0 : 0 ≤ x) (h1 : ∀ p ∈ pgsTo f Q n, p.cl = 1 → g p.me ≤ x) (h2 : x = 0 ∨ ∃ p ∈ pgsTo f Q n, p.cl = 1 ∧ g p.me = x) : fTo (mxH g) f Q n = x := by
  unfold fTo
  obtain ⟨a, b, c⟩ := foldl_max (fun p : Pg => g p.me) ((pgsTo f Q n).filter fun p => decide (p.cl = 1)) 0
  have e : ((pgsTo f Q n).filter fun p => decide (p.cl = 1)).foldl (mxH g) 0 = ((pgsTo f Q n).filter fun p => decide (p.cl = 1)).foldl (fun a p => max a (g p.me)) 0 := rfl
  rw [e]
  have hle : ((pgsTo f Q n).filter fun p => decide (p.cl = 1)).foldl (fun a p => max a (g p.me)) 0 ≤ x := by
    rcases c with c | ⟨p, hp, c⟩
    · rw [c]; exact h0
    · rw [c]
      obtain ⟨hp, hc⟩ := List.mem_filter.1 hp
      exact h1 p hp (of_decide_eq_true hc)
  rcases h2 with rfl | ⟨p, hp, hc, h2⟩
  · omega
  · have := b p (List.mem_filter.2 ⟨hp, decide_eq_true hc⟩)
    omega
theorem fTo_fl {f : Nat → List Pg → Bool} {Q : List (List Pg)} {n : Nat} {x : Int} (h0 : 0 ≤ x) (h1 : ∀ p ∈ pgsTo f Q n, p.cl = 1 → flv p ≤ x) (h2 : x = 0 ∨ ∃ p ∈ pgsTo f Q n, p.cl = 1 ∧ flv p = x) : fTo flH f Q n = x := by
  unfold fTo
  rw [flH_eq]
  obtain ⟨a, b, c⟩ := foldl_max flv ((pgsTo f Q n).filter fun p => decide (p.cl = 1)) 0
  have hle : ((pgsTo f Q n).filter fun p => decide (p.cl = 1)).foldl (fun a p => max a (flv p)) 0 ≤ x := by
    rcases c with c | ⟨p, hp, c⟩
    · rw [c]; exact h0
    · rw [c]
      obtain ⟨hp, hc⟩ := List.mem_filter.1 hp
      exact h1 p hp (of_decide_eq_true hc)
  rcases h2 with rfl | ⟨p, hp, hc, h2⟩
  · omega
  · have := b p (List.mem_filter.2 ⟨hp, decide_eq_true hc⟩)
    omega
theorem winB_iff {f : Int} {L : List Pg} : winB f L = true ↔ ∃ p ∈ L, okP f p = true := by
  unfold winB winL
  rw [decide_eq_true_eq]
  constructor
  · intro h
    obtain ⟨p, hp⟩ := List.exists_mem_of_length_pos h
    exact ⟨p, (List.mem_filter.1 hp).1, (List.mem_filter.1 hp).2⟩
  · rintro ⟨p, h1, h2⟩
    exact List.length_pos_of_mem (List.mem_filter.2 ⟨h1, h2⟩)
theorem mem_lc2 {b : Int} {k : Nat} {cm la : Bool} {p : Pg} : p ∈ lc2 b k cm la ↔ p = ⟨(0, 0), 1, ⟨1, 0, 0, 1, 0, 0⟩⟩ ∨ (∃ j, j < k ∧ p = lcP b j) ∨ (cm = true ∧ p = ⟨(0, (k : Int) + 1), 1, ⟨4, b, 20, 20, b, 0⟩⟩) ∨ (la = true ∧ p = ⟨(1, 0), 1, ⟨1, 1, 0, 30, 0, b⟩⟩) := by
  unfold lc2 lc1 lc
  rw [List.mem_append, List.mem_append, List.mem_cons, List.mem_map]
  constructor
  · rintro ((( h | ⟨j, hj, rfl⟩) | h) | h)
    · exact .inl h
    · exact .inr (.inl ⟨j, List.mem_range.1 hj, rfl⟩)
    · cases cm with
      | true => exact .inr (.inr (.inl ⟨rfl, List.mem_singleton.1 h⟩))
      | false => cases h
    · cases la with
      | true => exact .inr (.inr (.inr ⟨rfl, List.mem_singleton.1 h⟩))
      | false => cases h
  · rintro (h | ⟨j, hj, rfl⟩ | ⟨rfl, rfl⟩ | ⟨rfl, rfl⟩)
    · exact .inl (.inl (.inl h))
    · exact .inl (.inl (.inr ⟨j, List.mem_range.2 hj, rfl⟩))
    · exact .inl (.inr (List.mem_singleton.2 rfl))
    · exact .inr (List.mem_singleton.2 rfl)
theorem lc_len (b : Int) (k : Nat) : (lc b k).length = k + 1 := by unfold lc; simp
theorem lc1_len (b : Int) (k : Nat) (cm : Bool) : (lc1 b k cm).length ≤ k + 2 := by
  unfold lc1
  rw [List.length_append, lc_len]
  cases cm
  · exact Nat.le_succ _
  · exact Nat.le_refl _
theorem lc2_len (b : Int) (k : Nat) (cm la : Bool) : (lc2 b k cm la).length ≤ k + 3 := by
  have := lc1_len b k cm
  unfold lc2
  rw [List.length_append]
  cases la
  · exact Nat.le_trans this (Nat.le_succ _)
  · exact Nat.succ_le_succ this
abbrev cQ (b : Int) (k : Nat) (cm la : Bool) : List (List Pg) := gridL 3 (lc2 b k cm la)
/-- What can be worked out. -/
structure CmK (b : Int) (k : Nat) (cm la : Bool) : Prop where
  all : pgsTo allF (cQ b k cm la) 3 = lc2 b k cm la
  cnt : cntP 3 (cQ b k cm la) = lc2 b k cm la
  bad : badL 3 (cQ b k cm la) = []
  key : (keyL ⟨3, 8, 6⟩ (lc2 b k cm la)).filter (fun j => decide (j < 6)) = upTo k
  ok : (List.range (lc2 b k cm la).length).all (fun j => !pgBad 3 8 [] (lc2 b k cm la) j) = true
  dat : (List.range k).all (fun j => kyF ⟨3, 8, 6⟩ (lcP b j) && decide (gKey ⟨3, 8, 6⟩ (lcP b j) = (j : Int))) = true
theorem cmk1ff (b : Int) : CmK b 1 false false := ⟨by kernel_rfl, by kernel_rfl, by kernel_rfl, by kernel_rfl, by kernel_rfl, by kernel_rfl⟩
theorem cmk1ft (b : Int) : CmK b 1 false true := ⟨by kernel_rfl, by kernel_rfl, by kernel_rfl, by kernel_rfl, by kernel_rfl, by kernel_rfl⟩
theorem cmk1tf (b : Int) : CmK b 1 true false := ⟨by kernel_rfl, by kernel_rfl, by kernel_rfl, by kernel_rfl, by kernel_rfl, by kernel_rfl⟩
theorem cmk1tt (b : Int) : CmK b 1 true true := ⟨by kernel_rfl, by kernel_rfl, by kernel_rfl, by kernel_rfl, by kernel_rfl, by kernel_rfl⟩
theorem cmk2ff (b : Int) : CmK b 2 false false := ⟨by kernel_rfl, by kernel_rfl, by kernel_rfl, by kernel_rfl, by kernel_rfl, by kernel_rfl⟩
theorem cmk2ft (b : Int) : CmK b 2 false true := ⟨by kernel_rfl, by kernel_rfl, by kernel_rfl, by kernel_rfl, by kernel_rfl, by kernel_rfl⟩
theorem cmk2tf (b : Int) : CmK b 2 true false := ⟨by kernel_rfl, by kernel_rfl, by kernel_rfl, by kernel_rfl, by kernel_rfl, by kernel_rfl⟩
theorem cmk2tt (b : Int) : CmK b 2 true true := ⟨by kernel_rfl, by kernel_rfl, by kernel_rfl, by kernel_rfl, by kernel_rfl, by kernel_rfl⟩
theorem cmk3ff (b : Int) : CmK b 3 false false := ⟨by kernel_rfl, by kernel_rfl, by kernel_rfl, by kernel_rfl, by kernel_rfl, by kernel_rfl⟩
theorem cmk3ft (b : Int) : CmK b 3 false true := ⟨by kernel_rfl, by kernel_rfl, by kernel_rfl, by kernel_rfl, by kernel_rfl, by kernel_rfl⟩
theorem cmk3tf (b : Int) : CmK b 3 true false := ⟨by kernel_rfl, by kernel_rfl, by kernel_rfl, by kernel_rfl, by kernel_rfl, by kernel_rfl⟩
theorem cmk3tt (b : Int) : CmK b 3 true true := ⟨by kernel_rfl, by kernel_rfl, by kernel_rfl, by kernel_rfl, by kernel_rfl, by kernel_rfl⟩
theorem cmk4ff (b : Int) : CmK b 4 false false := ⟨by kernel_rfl, by kernel_rfl, by kernel_rfl, by kernel_rfl, by kernel_rfl, by kernel_rfl⟩
theorem cmk4ft (b : Int) : CmK b 4 false true := ⟨by kernel_rfl, by kernel_rfl, by kernel_rfl, by kernel_rfl, by kernel_rfl, by kernel_rfl⟩
theorem cmk4tf (b : Int) : CmK b 4 true false := ⟨by kernel_rfl, by kernel_rfl, by kernel_rfl, by kernel_rfl, by kernel_rfl, by kernel_rfl⟩
theorem cmk4tt (b : Int) : CmK b 4 true true := ⟨by kernel_rfl, by kernel_rfl, by kernel_rfl, by kernel_rfl, by kernel_rfl, by kernel_rfl⟩
theorem cmk (b : Int) {k : Nat} (h1 : 1 ≤ k) (h4 : k ≤ 4) (cm la : Bool) : CmK b k cm la := by
  have : k = 1 ∨ k = 2 ∨ k = 3 ∨ k = 4 := by omega
  rcases this with rfl | rfl | rfl | rfl <;> cases cm <;> cases la
  · exact cmk1ff b
  · exact cmk1ft b
  · exact cmk1tf b
  · exact cmk1tt b
  · exact cmk2ff b
  · exact cmk2ft b
  · exact cmk2tf b
  · exact cmk2tt b
  · exact cmk3ff b
  · exact cmk3ft b
  · exact cmk3tf b
  · exact cmk3tt b
  · exact cmk4ff b
  · exact cmk4ft b
  · exact cmk4tf b
  · exact cmk4tt b
theorem cm_f {b : Int} {k : Nat} {cm la : Bool} (hb : 1 ≤ b) (h : CmK b k cm la) : (nmOf 3 (cQ b k cm la)).f = if cm || la then b else 0 := by
  show fTo flH (cntF 3 (cQ b k cm la)) (cQ b k cm la) 3 = _
  have hP : pgsTo (cntF 3 (cQ b k cm la)) (cQ b k cm la) 3 = lc2 b k cm la := h.cnt
  refine fTo_fl (by split <;> omega) ?_ ?_
  · rw [hP]
    intro p hp _
    rcases mem_lc2.1 hp with rfl | ⟨j, hj, rfl⟩ | ⟨rfl, rfl⟩ | ⟨rfl, rfl⟩
    · show (0 : Int) ≤ _; split <;> omega
    · show (0 : Int) ≤ _; split <;> omega
    · show max (0 : Int) b ≤ b; omega
    · rw [Bool.or_true, if_pos rfl]; exact Int.le_refl b
  · rw [hP]
    cases la with
    | true =>
      rw [Bool.or_true, if_pos rfl]
      exact .inr ⟨_, mem_lc2.2 (.inr (.inr (.inr ⟨rfl, rfl⟩))), rfl, rfl⟩
    | false =>
      cases cm with
      | true => exact .inr ⟨_, mem_lc2.2 (.inr (.inr (.inl ⟨rfl, rfl⟩))), rfl, by show max (0 : Int) b = b; omega⟩
      | false => exact .inl rfl
theorem cm_b {b : Int} {k : Nat} {cm la : Bool} (hb : 1 ≤ b) (hk : 1 ≤ k) (h : CmK b k cm la) : (nmOf 3 (cQ b k cm la)).b = b := by
  show max (fTo (mxH Me.batch) allF (cQ b k cm la) 3) (nmOf 3 (cQ b k cm la)).f = b
  rw [cm_f hb h]
  have : fTo (mxH Me.batch) allF (cQ b k cm la) 3 = b := by
    refine fTo_max (by omega) ?_ ?_
    · rw [h.all]
      intro p hp _
      rcases mem_lc2.1 hp with rfl | ⟨j, hj, rfl⟩ | ⟨rfl, rfl⟩ | ⟨rfl, rfl⟩
      · show (0 : Int) ≤ b; omega
      · exact Int.le_refl b
      · exact Int.le_refl b
      · show (0 : Int) ≤ b; omega
    · rw [h.all]
      exact .inr ⟨_, mem_lc2.2 (.inr (.inl ⟨0, hk, rfl⟩)), rfl, rfl⟩
  rw [this]
  split <;> omega
theorem cm_alive {b f : Int} {w : Bool} (hb : 1 ≤ b) (hf : f = if w then b else 0) (m : Me) (hm : m.batch = b) : alive m f = w := by
  unfold alive
  rw [hm, decide_eq_false (by omega), Bool.false_or]
  cases w with
  | true => rw [hf, if_pos rfl]; exact decide_eq_true (Int.le_refl b)
  | false => rw [hf]; exact decide_eq_false (by show ¬ b ≤ 0; omega)
theorem cm_o {b : Int} {k : Nat} {cm la : Bool} (hb : 1 ≤ b) (h : CmK b k cm la) : (orfS 3 (cQ b k cm la)).length = if cm || la then 0 else k := by
  have hf := cm_f hb h
  show (orfL (nmOf 3 (cQ b k cm la)).f (cntP 3 (cQ b k cm la))).length = _
  rw [h.cnt]
  unfold orfL
  rw [List.length_map]
  cases hw : cm || la with
  | true =>
    rw [hw] at hf
    rw [if_pos rfl, List.length_eq_zero_iff, List.filter_eq_nil_iff]
    intro p hp e
    have e : orF (nmOf 3 (cQ b k cm la)).f p = true := e
    unfold orF at e
    have : alive p.me (nmOf 3 (cQ b k cm la)).f = true := by
      rcases mem_lc2.1 hp with rfl | ⟨j, hj, rfl⟩ | ⟨rfl, rfl⟩ | ⟨rfl, rfl⟩
      · rfl
      · exact cm_alive hb hf _ rfl
      · exact cm_alive hb hf _ rfl
      · rfl
    rw [this] at e
    exact absurd (and_r e) (by decide)
  | false =>
    rw [hw] at hf
    have hcm : cm = false ∧ la = false := by cases cm <;> cases la <;> first | exact ⟨rfl, rfl⟩ | cases hw
    obtain ⟨rfl, rfl⟩ := hcm
    have e : lc2 b k false false = lc b k := by unfold lc2 lc1; simp
    rw [e, if_neg Bool.false_ne_true]
    unfold lc
    rw [List.filter_cons_of_neg (by unfold orF; show ¬ (_ && !(true || _)) = true; simp), List.filter_eq_self.2, List.length_map, List.length_range]
    intro p hp
    obtain ⟨j, hj, rfl⟩ := List.mem_map.1 hp
    unfold orF
    rw [cm_alive hb hf (lcP b j).me rfl]; rfl
theorem cm_n {b : Int} {k : Nat} {cm la : Bool} (hb : 1 ≤ b) (h : CmK b k cm la) : ((sloS ⟨3, 8, 6⟩ 3 (cQ b k cm la)).filter fun s => decide (s.key < 6)).length = if cm || la then k else 0 := by
  have hf := cm_f hb h
  show ((sloL ⟨3, 8, 6⟩ (nmOf 3 (cQ b k cm la)).f (cntP 3 (cQ b k cm la)) (keyL ⟨3, 8, 6⟩ (cntP 3 (cQ b k cm la)))).filter fun s => decide (s.key < 6)).length = _
  rw [h.cnt]
  generalize hF : (nmOf 3 (cQ b k cm la)).f = f at hf
  unfold sloL
  rw [List.filter_map, List.length_map]
  have e1 : ((keyL ⟨3, 8, 6⟩ (lc2 b k cm la)).filter fun k' => winB f (grpL ⟨3, 8, 6⟩ (lc2 b k cm la) k')).filter ((fun s : Slot => decide (s.key < 6)) ∘ sloOf ⟨3, 8, 6⟩ f (lc2 b k cm la)) = (upTo k).filter fun k' => winB f (grpL ⟨3, 8, 6⟩ (lc2 b k cm la) k') := by
    rw [← h.key, List.filter_filter, List.filter_filter]
    refine List.filter_congr fun j _ => ?_
    show (decide (j < 6) && _) = (_ && decide (j < 6))
    rw [Bool.and_comm]
  rw [e1]
  have hj : ∀ j ∈ upTo k, winB f (grpL ⟨3, 8, 6⟩ (lc2 b k cm la) j) = (cm || la) := by
    intro j hj
    obtain ⟨hj0, hjk⟩ := mem_upTo.1 hj
    have hj6 : j < 6 := by
      have : j ∈ (keyL ⟨3, 8, 6⟩ (lc2 b k cm la)).filter (fun j => decide (j < 6)) := by rw [h.key]; exact hj
      exact of_decide_eq_true (List.mem_filter.1 this).2
    cases hw : cm || la with
    | true =>
      rw [hw] at hf
      rw [winB_iff]
      have hd := List.all_eq_true.1 h.dat j.toNat (List.mem_range.2 (by omega))
      refine ⟨lcP b j.toNat, mem_grpL.2 ⟨mem_lc2.2 (.inr (.inl ⟨j.toNat, by omega, rfl⟩)), and_l hd, ?_⟩, ?_⟩
      · rw [of_decide_eq_true (and_r hd)]; omega
      · unfold okP
        rw [cm_alive hb hf _ rfl]; rfl
    | false =>
      rw [hw] at hf
      refine Bool.eq_false_iff.2 fun e => ?_
      obtain ⟨p, hp, hk⟩ := winB_iff.1 e
      obtain ⟨hp, hky, hkj⟩ := mem_grpL.1 hp
      have hcm : cm = false ∧ la = false := by cases cm <;> cases la <;> first | exact ⟨rfl, rfl⟩ | cases hw
      obtain ⟨rfl, rfl⟩ := hcm
      rcases mem_lc2.1 hp with rfl | ⟨j', hj', rfl⟩ | ⟨h', _⟩ | ⟨h', _⟩
      · exact absurd hky (by decide +kernel)
      · unfold okP at hk
        rw [cm_alive hb hf _ rfl] at hk
        exact absurd (and_r hk) (by decide)
      · cases h'
      · cases h'
  cases hw : cm || la with
  | true =>
    rw [List.filter_eq_self.2 (fun j hj' => by rw [hj j hj', hw]), upTo_len, if_pos rfl]
  | false =>
    rw [List.filter_eq_nil_iff.2 (fun j hj' => by rw [hj j hj', hw]; exact Bool.false_ne_true), if_neg Bool.false_ne_true]; rfl
end Go.Vx
set_option maxRecDepth 100000
namespace Go.Vx
open Go Go.Proofs
variable [Gl]

abbrev chQ : Sq Pg → Ck C0
  | (so, sb, sq, sl, sn, sc) => ⟨sb, sq, 9, true, some so, .rows 55 sl⟩
abbrev chQ' (y : Sq Pg) : Ck C0 := ⟨y.2.1, y.2.2.1, 9, true, some y.1, .rows 55 y.2.2.2.1⟩
def U6 (b : Int) (k : Nat) : Inv' C0 := ⟨6, Nat × Sq Pg, fun y => [(26, .junk), (32, .junk), (43, .junk), (44, .junk), (11, .int .i64 (y.1 : Int)), (10, .sl 0 0 y.2.2.2.2.2.1 y.2.2.2.2.2.2)], fun y _ => [chQ' y.2], fun y => y.1 ≤ k ∧ Gth (lc b y.1) y.2, fun y => k - y.1⟩
def U11 (b : Int) (k : Nat) (cm : Bool) : Inv' C0 := ⟨1000011, Sq Pg, fun y => [(26, .junk), (32, .junk), (43, .junk), (44, .junk), (46, .junk), (53, .junk), (54, .junk), (10, .sl 0 0 y.2.2.2.2.1 y.2.2.2.2.2)], fun y _ => [chQ' y], fun y => Gth (lc1 b k cm) y, fun _ => 0⟩
def U13 (b : Int) (k : Nat) (cm la : Bool) : Inv' C0 := ⟨1000013, Sq Pg, fun y => [(26, .junk), (32, .junk), (43, .junk), (44, .junk), (46, .junk), (53, .junk), (54, .junk), (56, .junk), (60, .junk), (61, .junk), (10, .sl 0 0 y.2.2.2.2.1 y.2.2.2.2.2)], fun y _ => [chQ' y], fun y => Gth (lc2 b k cm la) y, fun _ => 0⟩
def U19 (S : List Slot) : Inv' C0 := ⟨19, Nat × Nat, fun y => [(16, .int .i64 (y.1 : Int)), (15, .int .i64 (y.2 : Int))], fun _ m => m, fun y => y.1 ≤ S.length ∧ y.2 = ((S.take y.1).filter fun s => decide (s.key < 6)).length, fun y => S.length - y.1⟩
set_option maxHeartbeats 16000000 in
theorem commits_ok (bt pg : Int) (cm la : Bool) : Tells (C := C0) Tryd.prog (.fn 5) [] [.int .i64 bt, .int .i64 pg, .bool (.tm cm), .bool (.tm la)] (.bool .t) := by
  have hb := and_le bt 1023 (by decide)
  have hk := and_le pg 3 (by decide)
  change 0 ≤ ibit .and .i64 bt 1023 ∧ ibit .and .i64 bt 1023 ≤ 1023 at hb
  change 0 ≤ ibit .and .i64 pg 3 ∧ ibit .and .i64 pg 3 ≤ 3 at hk
  have hkk : (((ibit .and .i64 pg 3 + 1).toNat : Nat) : Int) = ibit .and .i64 pg 3 + 1 := Int.toNat_of_nonneg (by omega)
  have hK1 : 1 ≤ (ibit .and .i64 pg 3 + 1).toNat := by omega
  have hK4 : (ibit .and .i64 pg 3 + 1).toNat ≤ 4 := by omega
  have hB1 : 1 ≤ (ibit .and .i64 bt 1023 + 1) := by omega
  have hC := cmk (ibit .and .i64 bt 1023 + 1) hK1 hK4 cm la
  refine loc_pc (P := Tryd.prog) (E := ⟨[fcOf], [pcFirst, pcPage, pcSameInts, pcSameIntsN], 133, [], [], []⟩) (L := [U6 (ibit .and .i64 bt 1023 + 1) (ibit .and .i64 pg 3 + 1).toNat, U11 (ibit .and .i64 bt 1023 + 1) (ibit .and .i64 pg 3 + 1).toNat cm, U13 (ibit .and .i64 bt 1023 + 1) (ibit .and .i64 pg 3 + 1).toNat cm la, U19 (sloS ⟨3, 8, 6⟩ 3 (gridL 3 (lc2 (ibit .and .i64 bt 1023 + 1) (ibit .and .i64 pg 3 + 1).toNat cm la)))]) mix Tryd.func5 rfl (by kernel_rfl) (by kernel_rfl) rfl rfl ?_
  ((conv => (arg 1; reduce)); with_reducible repeat' (first | exact Tr.yes_h | refine Tr.and_h ?_ ?_ | refine Tr.imp_h fun _ => ?_ | refine Tr.all_h fun _ => ?_ | refine Tr.lf_h ?_))
  all_goals try (first | first | (show Region.lexB _ _ = true; kernel_rfl) | (show planned _ _ = true; kernel_rfl) | exact rfl | exact True.intro | (first | exact key3 | exact zeroB | exact zeroR | exact zeroS | exact ⟨key3, zeroB⟩ | exact ⟨key3, zeroR⟩ | exact ⟨key3, zeroS⟩) | ((try dsimp only [imp, C0, cG, cInt, cPl, cSlot, cPg, gwCodec] at *); (try refine inR64 ?_ ?_) <;> (try simp only [List.length_set, List.length_append, List.length_take, List.length_drop]) <;> omega))
  · rename_i b0
    refine Stands.one (0, (true, b0, 0, [⟨(0, 0), 1, ⟨1, 0, 0, 1, 0, 0⟩⟩], 1, 1)) ⟨⟨Nat.zero_le _, rfl, rfl, Nat.le_refl _, Nat.le_refl _, fun h => Bool.noConfusion h⟩, ?_⟩
    ((conv => (arg 1; reduce)); with_reducible repeat' (first | exact Tr.yes_h | refine Tr.and_h ?_ ?_ | refine Tr.imp_h fun _ => ?_ | refine Tr.all_h fun _ => ?_ | refine Tr.lf_h ?_))
    all_goals (first | first | (show Region.lexB _ _ = true; kernel_rfl) | (show planned _ _ = true; kernel_rfl) | exact rfl | exact True.intro | (first | exact key3 | exact zeroB | exact zeroR | exact zeroS | exact ⟨key3, zeroB⟩ | exact ⟨key3, zeroR⟩ | exact ⟨key3, zeroS⟩) | ((try dsimp only [imp, C0, cG, cInt, cPl, cSlot, cPg, gwCodec] at *); (try refine inR64 ?_ ?_) <;> (try simp only [List.length_set, List.length_append, List.length_take, List.length_drop]) <;> omega))
  · rename_i b0 y hy h1
    obtain ⟨i, o, b, q, l, n, c⟩ := y
    have hy : i ≤ (ibit .and .i64 pg 3 + 1).toNat ∧ Gth (lc (ibit .and .i64 bt 1023 + 1) i) (o, b, q, l, n, c) := hy
    have hR := hy.2.room
    have hln := lc_len (ibit .and .i64 bt 1023 + 1) i
    have h1 : (i : Int) < ibit .and .i64 pg 3 + 1 := of_decide_eq_true h1
    exact inR64 (by show -9223372036854775808 ≤ (i : Int) + 1; omega) (by show (i : Int) + 1 ≤ 9223372036854775807; omega)
  · rename_i b0 y hy h1
    obtain ⟨i, o, b, q, l, n, c⟩ := y
    have hy : i ≤ (ibit .and .i64 pg 3 + 1).toNat ∧ Gth (lc (ibit .and .i64 bt 1023 + 1) i) (o, b, q, l, n, c) := hy
    have hR := hy.2.room
    have hln := lc_len (ibit .and .i64 bt 1023 + 1) i
    have h1 : (i : Int) < ibit .and .i64 pg 3 + 1 := of_decide_eq_true h1
    exact inR64 (by show -9223372036854775808 ≤ (i : Int) + 1; omega) (by show (i : Int) + 1 ≤ 9223372036854775807; omega)
  · rename_i b0 y hy h1
    obtain ⟨i, o, b, q, l, n, c⟩ := y
    have hy : i ≤ (ibit .and .i64 pg 3 + 1).toNat ∧ Gth (lc (ibit .and .i64 bt 1023 + 1) i) (o, b, q, l, n, c) := hy
    have hR := hy.2.room
    have hln := lc_len (ibit .and .i64 bt 1023 + 1) i
    have h1 : (i : Int) < ibit .and .i64 pg 3 + 1 := of_decide_eq_true h1
    exact inR64 (by show -9223372036854775808 ≤ (i : Int) + 2; omega) (by show (i : Int) + 2 ≤ 9223372036854775807; omega)
  · rename_i b0 y hy h1 u1
    obtain ⟨i, o, b, q, l, n, c⟩ := y
    have hy : i ≤ (ibit .and .i64 pg 3 + 1).toNat ∧ Gth (lc (ibit .and .i64 bt 1023 + 1) i) (o, b, q, l, n, c) := hy
    have hR := hy.2.room
    have hln := lc_len (ibit .and .i64 bt 1023 + 1) i
    have h1 : (i : Int) < ibit .and .i64 pg 3 + 1 := of_decide_eq_true h1
    rw [byP]
    exact ⟨hR.1, by show 0 + c ≤ l.length; omega, by simp, by show (n + 1) * 72 ≤ _; omega⟩
  · rename_i b0 y hy h1 u1
    obtain ⟨i, o, b, q, l, n, c⟩ := y
    have hy : i ≤ (ibit .and .i64 pg 3 + 1).toNat ∧ Gth (lc (ibit .and .i64 bt 1023 + 1) i) (o, b, q, l, n, c) := hy
    have hR := hy.2.room
    have hln := lc_len (ibit .and .i64 bt 1023 + 1) i
    have h1 : (i : Int) < ibit .and .i64 pg 3 + 1 := of_decide_eq_true h1
    exact hR.2.2.2
  · rename_i b0 y hy h1 u1 b9 q9 sp cp e1 e2
    obtain ⟨i, o, b, q, l, n, c⟩ := y
    have hy : i ≤ (ibit .and .i64 pg 3 + 1).toNat ∧ Gth (lc (ibit .and .i64 bt 1023 + 1) i) (o, b, q, l, n, c) := hy
    have hR := hy.2.room
    have hln := lc_len (ibit .and .i64 bt 1023 + 1) i
    have h1 : (i : Int) < ibit .and .i64 pg 3 + 1 := of_decide_eq_true h1
    exact inR64 (by show -9223372036854775808 ≤ (i : Int) + 1; omega) (by show (i : Int) + 1 ≤ 9223372036854775807; omega)
  · rename_i b0 y hy h1 u1 b9 q9 sp cp e1 e2
    obtain ⟨i, o, b, q, l, n, c⟩ := y
    have hy : i ≤ (ibit .and .i64 pg 3 + 1).toNat ∧ Gth (lc (ibit .and .i64 bt 1023 + 1) i) (o, b, q, l, n, c) := hy
    have hR := hy.2.room
    have hln := lc_len (ibit .and .i64 bt 1023 + 1) i
    have h1 : (i : Int) < ibit .and .i64 pg 3 + 1 := of_decide_eq_true h1
    refine Stands.one (i + 1, (true, b9, q9, l.take n ++ [lcP (ibit .and .i64 bt 1023 + 1) i] ++ sp, n + 1, cp)) ⟨⟨by show i + 1 ≤ (ibit .and .i64 pg 3 + 1).toNat; omega, by show Gth (lc (ibit .and .i64 bt 1023 + 1) (i + 1)) _; rw [lc_succ]; exact hy.2.snoc e1 e2⟩, by show (ibit .and .i64 pg 3 + 1).toNat - (i + 1) < (ibit .and .i64 pg 3 + 1).toNat - i; omega, ?_⟩
    ((conv => (arg 1; reduce)); with_reducible repeat' (first | exact Tr.yes_h | refine Tr.and_h ?_ ?_ | refine Tr.imp_h fun _ => ?_ | refine Tr.all_h fun _ => ?_ | refine Tr.lf_h ?_))
    all_goals (first | first | (show Region.lexB _ _ = true; kernel_rfl) | (show planned _ _ = true; kernel_rfl) | exact rfl | exact True.intro | (first | exact key3 | exact zeroB | exact zeroR | exact zeroS | exact ⟨key3, zeroB⟩ | exact ⟨key3, zeroR⟩ | exact ⟨key3, zeroS⟩) | ((try dsimp only [imp, C0, cG, cInt, cPl, cSlot, cPg, gwCodec] at *); (try refine inR64 ?_ ?_) <;> (try simp only [List.length_set, List.length_append, List.length_take, List.length_drop]) <;> omega))
  · rename_i b0 y hy h1 hcm u1
    obtain ⟨i, o, b, q, l, n, c⟩ := y
    have hy : i ≤ (ibit .and .i64 pg 3 + 1).toNat ∧ Gth (lc (ibit .and .i64 bt 1023 + 1) i) (o, b, q, l, n, c) := hy
    have hR := hy.2.room
    have hln := lc_len (ibit .and .i64 bt 1023 + 1) i
    have h1 : ¬ (i : Int) < ibit .and .i64 pg 3 + 1 := of_decide_eq_false h1
    have ei : i = (ibit .and .i64 pg 3 + 1).toNat := by omega
    rw [byP]
    exact ⟨hR.1, by show 0 + c ≤ l.length; omega, by simp, by show (n + 1) * 72 ≤ _; omega⟩
  · rename_i b0 y hy h1 hcm u1
    obtain ⟨i, o, b, q, l, n, c⟩ := y
    have hy : i ≤ (ibit .and .i64 pg 3 + 1).toNat ∧ Gth (lc (ibit .and .i64 bt 1023 + 1) i) (o, b, q, l, n, c) := hy
    have hR := hy.2.room
    have hln := lc_len (ibit .and .i64 bt 1023 + 1) i
    have h1 : ¬ (i : Int) < ibit .and .i64 pg 3 + 1 := of_decide_eq_false h1
    have ei : i = (ibit .and .i64 pg 3 + 1).toNat := by omega
    exact hR.2.2.2
  · rename_i b0 y hy h1 hcm u1 b9 q9 sp cp e1 e2
    obtain ⟨i, o, b, q, l, n, c⟩ := y
    have hy : i ≤ (ibit .and .i64 pg 3 + 1).toNat ∧ Gth (lc (ibit .and .i64 bt 1023 + 1) i) (o, b, q, l, n, c) := hy
    have hR := hy.2.room
    have hln := lc_len (ibit .and .i64 bt 1023 + 1) i
    have h1 : ¬ (i : Int) < ibit .and .i64 pg 3 + 1 := of_decide_eq_false h1
    have ei : i = (ibit .and .i64 pg 3 + 1).toNat := by omega
    have e : lc1 (ibit .and .i64 bt 1023 + 1) (ibit .and .i64 pg 3 + 1).toNat cm = lc (ibit .and .i64 bt 1023 + 1) i ++ [⟨(0, ibit .and .i64 pg 3 + 1 + 1), 1, ⟨4, (ibit .and .i64 bt 1023 + 1), 20, 20, (ibit .and .i64 bt 1023 + 1), 0⟩⟩] := by
      unfold lc1
      rw [hcm, if_pos rfl, hkk, ei]
    refine Stands.one (true, b9, q9, l.take n ++ [⟨(0, ibit .and .i64 pg 3 + 1 + 1), 1, ⟨4, (ibit .and .i64 bt 1023 + 1), 20, 20, (ibit .and .i64 bt 1023 + 1), 0⟩⟩] ++ sp, n + 1, cp) ⟨by show Gth (lc1 (ibit .and .i64 bt 1023 + 1) (ibit .and .i64 pg 3 + 1).toNat cm) _; rw [e]; exact hy.2.snoc e1 e2, ?_⟩
    ((conv => (arg 1; reduce)); with_reducible repeat' (first | exact Tr.yes_h | refine Tr.and_h ?_ ?_ | refine Tr.imp_h fun _ => ?_ | refine Tr.all_h fun _ => ?_ | refine Tr.lf_h ?_))
    all_goals (first | first | (show Region.lexB _ _ = true; kernel_rfl) | (show planned _ _ = true; kernel_rfl) | exact rfl | exact True.intro | (first | exact key3 | exact zeroB | exact zeroR | exact zeroS | exact ⟨key3, zeroB⟩ | exact ⟨key3, zeroR⟩ | exact ⟨key3, zeroS⟩) | ((try dsimp only [imp, C0, cG, cInt, cPl, cSlot, cPg, gwCodec] at *); (try refine inR64 ?_ ?_) <;> (try simp only [List.length_set, List.length_append, List.length_take, List.length_drop]) <;> omega))
  · rename_i b0 y hy h1 hcm
    obtain ⟨i, o, b, q, l, n, c⟩ := y
    have hy : i ≤ (ibit .and .i64 pg 3 + 1).toNat ∧ Gth (lc (ibit .and .i64 bt 1023 + 1) i) (o, b, q, l, n, c) := hy
    have hR := hy.2.room
    have hln := lc_len (ibit .and .i64 bt 1023 + 1) i
    have h1 : ¬ (i : Int) < ibit .and .i64 pg 3 + 1 := of_decide_eq_false h1
    have ei : i = (ibit .and .i64 pg 3 + 1).toNat := by omega
    have e : lc1 (ibit .and .i64 bt 1023 + 1) (ibit .and .i64 pg 3 + 1).toNat cm = lc (ibit .and .i64 bt 1023 + 1) i := by
      unfold lc1
      rw [hcm, if_neg Bool.false_ne_true, List.append_nil, ei]
    refine Stands.one (o, b, q, l, n, c) ⟨by show Gth (lc1 (ibit .and .i64 bt 1023 + 1) (ibit .and .i64 pg 3 + 1).toNat cm) _; rw [e]; exact hy.2, ?_⟩
    ((conv => (arg 1; reduce)); with_reducible repeat' (first | exact Tr.yes_h | refine Tr.and_h ?_ ?_ | refine Tr.imp_h fun _ => ?_ | refine Tr.all_h fun _ => ?_ | refine Tr.lf_h ?_))
    all_goals (first | first | (show Region.lexB _ _ = true; kernel_rfl) | (show planned _ _ = true; kernel_rfl) | exact rfl | exact True.intro | (first | exact key3 | exact zeroB | exact zeroR | exact zeroS | exact ⟨key3, zeroB⟩ | exact ⟨key3, zeroR⟩ | exact ⟨key3, zeroS⟩) | ((try dsimp only [imp, C0, cG, cInt, cPl, cSlot, cPg, gwCodec] at *); (try refine inR64 ?_ ?_) <;> (try simp only [List.length_set, List.length_append, List.length_take, List.length_drop]) <;> omega))
  · rename_i b0 y hy h1 z hz hla u1
    obtain ⟨o, b, q, l, n, c⟩ := z
    have hz : Gth (lc1 (ibit .and .i64 bt 1023 + 1) (ibit .and .i64 pg 3 + 1).toNat cm) (o, b, q, l, n, c) := hz
    have hR := hz.room
    have hln := lc1_len (ibit .and .i64 bt 1023 + 1) (ibit .and .i64 pg 3 + 1).toNat cm
    rw [byP]
    exact ⟨hR.1, by show 0 + c ≤ l.length; omega, by simp, by show (n + 1) * 72 ≤ _; omega⟩
  · rename_i b0 y hy h1 z hz hla u1
    obtain ⟨o, b, q, l, n, c⟩ := z
    have hz : Gth (lc1 (ibit .and .i64 bt 1023 + 1) (ibit .and .i64 pg 3 + 1).toNat cm) (o, b, q, l, n, c) := hz
    have hR := hz.room
    have hln := lc1_len (ibit .and .i64 bt 1023 + 1) (ibit .and .i64 pg 3 + 1).toNat cm
    exact hR.2.2.2
  · rename_i b0 y hy h1 z hz hla u1 b9 q9 sp cp e1 e2
    obtain ⟨o, b, q, l, n, c⟩ := z
    have hz : Gth (lc1 (ibit .and .i64 bt 1023 + 1) (ibit .and .i64 pg 3 + 1).toNat cm) (o, b, q, l, n, c) := hz
    have hR := hz.room
    have hln := lc1_len (ibit .and .i64 bt 1023 + 1) (ibit .and .i64 pg 3 + 1).toNat cm
    have e : lc2 (ibit .and .i64 bt 1023 + 1) (ibit .and .i64 pg 3 + 1).toNat cm la = lc1 (ibit .and .i64 bt 1023 + 1) (ibit .and .i64 pg 3 + 1).toNat cm ++ [⟨(1, 0), 1, ⟨1, 1, 0, 30, 0, (ibit .and .i64 bt 1023 + 1)⟩⟩] := by
      unfold lc2
      rw [hla, if_pos rfl]
    refine Stands.one (true, b9, q9, l.take n ++ [⟨(1, 0), 1, ⟨1, 1, 0, 30, 0, (ibit .and .i64 bt 1023 + 1)⟩⟩] ++ sp, n + 1, cp) ⟨by show Gth (lc2 (ibit .and .i64 bt 1023 + 1) (ibit .and .i64 pg 3 + 1).toNat cm la) _; rw [e]; exact hz.snoc e1 e2, ?_⟩
    ((conv => (arg 1; reduce)); with_reducible repeat' (first | exact Tr.yes_h | refine Tr.and_h ?_ ?_ | refine Tr.imp_h fun _ => ?_ | refine Tr.all_h fun _ => ?_ | refine Tr.lf_h ?_))
    all_goals (first | first | (show Region.lexB _ _ = true; kernel_rfl) | (show planned _ _ = true; kernel_rfl) | exact rfl | exact True.intro | (first | exact key3 | exact zeroB | exact zeroR | exact zeroS | exact ⟨key3, zeroB⟩ | exact ⟨key3, zeroR⟩ | exact ⟨key3, zeroS⟩) | ((try dsimp only [imp, C0, cG, cInt, cPl, cSlot, cPg, gwCodec] at *); (try refine inR64 ?_ ?_) <;> (try simp only [List.length_set, List.length_append, List.length_take, List.length_drop]) <;> omega))
  · rename_i b0 y hy h1 z hz hla
    obtain ⟨o, b, q, l, n, c⟩ := z
    have hz : Gth (lc1 (ibit .and .i64 bt 1023 + 1) (ibit .and .i64 pg 3 + 1).toNat cm) (o, b, q, l, n, c) := hz
    have hR := hz.room
    have hln := lc1_len (ibit .and .i64 bt 1023 + 1) (ibit .and .i64 pg 3 + 1).toNat cm
    have e : lc2 (ibit .and .i64 bt 1023 + 1) (ibit .and .i64 pg 3 + 1).toNat cm la = lc1 (ibit .and .i64 bt 1023 + 1) (ibit .and .i64 pg 3 + 1).toNat cm := by
      unfold lc2
      rw [hla, if_neg Bool.false_ne_true, List.append_nil]
    refine Stands.one (o, b, q, l, n, c) ⟨by show Gth (lc2 (ibit .and .i64 bt 1023 + 1) (ibit .and .i64 pg 3 + 1).toNat cm la) _; rw [e]; exact hz, ?_⟩
    ((conv => (arg 1; reduce)); with_reducible repeat' (first | exact Tr.yes_h | refine Tr.and_h ?_ ?_ | refine Tr.imp_h fun _ => ?_ | refine Tr.all_h fun _ => ?_ | refine Tr.lf_h ?_))
    all_goals (first | first | (show Region.lexB _ _ = true; kernel_rfl) | (show planned _ _ = true; kernel_rfl) | exact rfl | exact True.intro | (first | exact key3 | exact zeroB | exact zeroR | exact zeroS | exact ⟨key3, zeroB⟩ | exact ⟨key3, zeroR⟩ | exact ⟨key3, zeroS⟩) | ((try dsimp only [imp, C0, cG, cInt, cPl, cSlot, cPg, gwCodec] at *); (try refine inR64 ?_ ?_) <;> (try simp only [List.length_set, List.length_append, List.length_take, List.length_drop]) <;> omega))
  · rename_i b0 y hy h1 z hz w hw
    obtain ⟨o, b, q, l, n, c⟩ := w
    have hw : Gth (lc2 (ibit .and .i64 bt 1023 + 1) (ibit .and .i64 pg 3 + 1).toNat cm la) (o, b, q, l, n, c) := hw
    have hR := hw.room
    have hln := lc2_len (ibit .and .i64 bt 1023 + 1) (ibit .and .i64 pg 3 + 1).toNat cm la
    exact ⟨by decide, by decide, by decide, ⟨Nat.le_refl 0, by decide, fun _ => ⟨rfl, rfl⟩⟩, hw.le, by show n < 1000000; omega, hR.2.2.2⟩
  · rename_i b0 y hy h1 z hz w hw r hr c1 hd
    obtain ⟨o, b, q, l, n, c⟩ := w
    have hw : Gth (lc2 (ibit .and .i64 bt 1023 + 1) (ibit .and .i64 pg 3 + 1).toNat cm la) (o, b, q, l, n, c) := hw
    have hR := hw.room
    have hln := lc2_len (ibit .and .i64 bt 1023 + 1) (ibit .and .i64 pg 3 + 1).toNat cm la
    have eL : (Sq.li (o, b, q, l, n, c) : List Pg) = lc2 (ibit .and .i64 bt 1023 + 1) (ibit .and .i64 pg 3 + 1).toNat cm la := hw.1
    have hO : OfS ⟨3, 8, 6⟩ [] (lc2 (ibit .and .i64 bt 1023 + 1) (ibit .and .i64 pg 3 + 1).toNat cm la) r := by rw [← eL]; exact hr
    have hS : Gth (sloS ⟨3, 8, 6⟩ 3 (cQ (ibit .and .i64 bt 1023 + 1) (ibit .and .i64 pg 3 + 1).toNat cm la)) r.1 := hO.2.1
    have hSl : (sloS ⟨3, 8, 6⟩ 3 (cQ (ibit .and .i64 bt 1023 + 1) (ibit .and .i64 pg 3 + 1).toNat cm la)).length ≤ 536871100 := Nat.le_trans sloL_len (keyL_len ⟨by decide, by decide, by decide⟩)
    have hSn := hS.n
    have hd : decide ((nmOf 3 (gridL 3 (Sq.li (o, b, q, l, n, c)))).b ≠ (ibit .and .i64 bt 1023 + 1)) = true := hd
    rw [eL] at hd
    exact absurd (cm_b hB1 hK1 hC) (of_decide_eq_true hd)
  · rename_i b0 y hy h1 z hz w hw r hr c1 hd
    obtain ⟨o, b, q, l, n, c⟩ := w
    have hw : Gth (lc2 (ibit .and .i64 bt 1023 + 1) (ibit .and .i64 pg 3 + 1).toNat cm la) (o, b, q, l, n, c) := hw
    have hR := hw.room
    have hln := lc2_len (ibit .and .i64 bt 1023 + 1) (ibit .and .i64 pg 3 + 1).toNat cm la
    have eL : (Sq.li (o, b, q, l, n, c) : List Pg) = lc2 (ibit .and .i64 bt 1023 + 1) (ibit .and .i64 pg 3 + 1).toNat cm la := hw.1
    have hO : OfS ⟨3, 8, 6⟩ [] (lc2 (ibit .and .i64 bt 1023 + 1) (ibit .and .i64 pg 3 + 1).toNat cm la) r := by rw [← eL]; exact hr
    have hS : Gth (sloS ⟨3, 8, 6⟩ 3 (cQ (ibit .and .i64 bt 1023 + 1) (ibit .and .i64 pg 3 + 1).toNat cm la)) r.1 := hO.2.1
    have hSl : (sloS ⟨3, 8, 6⟩ 3 (cQ (ibit .and .i64 bt 1023 + 1) (ibit .and .i64 pg 3 + 1).toNat cm la)).length ≤ 536871100 := Nat.le_trans sloL_len (keyL_len ⟨by decide, by decide, by decide⟩)
    have hSn := hS.n
    refine Stands.one (0, 0) ⟨⟨Nat.zero_le _, rfl⟩, ?_⟩
    ((conv => (arg 1; reduce)); with_reducible repeat' (first | exact Tr.yes_h | refine Tr.and_h ?_ ?_ | refine Tr.imp_h fun _ => ?_ | refine Tr.all_h fun _ => ?_ | refine Tr.lf_h ?_))
    all_goals (first | first | (show Region.lexB _ _ = true; kernel_rfl) | (show planned _ _ = true; kernel_rfl) | exact rfl | exact True.intro | (first | exact key3 | exact zeroB | exact zeroR | exact zeroS | exact ⟨key3, zeroB⟩ | exact ⟨key3, zeroR⟩ | exact ⟨key3, zeroS⟩) | ((try dsimp only [imp, C0, cG, cInt, cPl, cSlot, cPg, gwCodec] at *); (try refine inR64 ?_ ?_) <;> (try simp only [List.length_set, List.length_append, List.length_take, List.length_drop]) <;> omega))
  · rename_i b0 y hy h1 z hz w hw r hr c1 hd v hv h4
    obtain ⟨o, b, q, l, n, c⟩ := w
    have hw : Gth (lc2 (ibit .and .i64 bt 1023 + 1) (ibit .and .i64 pg 3 + 1).toNat cm la) (o, b, q, l, n, c) := hw
    have hR := hw.room
    have hln := lc2_len (ibit .and .i64 bt 1023 + 1) (ibit .and .i64 pg 3 + 1).toNat cm la
    have eL : (Sq.li (o, b, q, l, n, c) : List Pg) = lc2 (ibit .and .i64 bt 1023 + 1) (ibit .and .i64 pg 3 + 1).toNat cm la := hw.1
    have hO : OfS ⟨3, 8, 6⟩ [] (lc2 (ibit .and .i64 bt 1023 + 1) (ibit .and .i64 pg 3 + 1).toNat cm la) r := by rw [← eL]; exact hr
    have hS : Gth (sloS ⟨3, 8, 6⟩ 3 (cQ (ibit .and .i64 bt 1023 + 1) (ibit .and .i64 pg 3 + 1).toNat cm la)) r.1 := hO.2.1
    have hSl : (sloS ⟨3, 8, 6⟩ 3 (cQ (ibit .and .i64 bt 1023 + 1) (ibit .and .i64 pg 3 + 1).toNat cm la)).length ≤ 536871100 := Nat.le_trans sloL_len (keyL_len ⟨by decide, by decide, by decide⟩)
    have hSn := hS.n
    obtain ⟨j, cn⟩ := v
    have hv : j ≤ (sloS ⟨3, 8, 6⟩ 3 (cQ (ibit .and .i64 bt 1023 + 1) (ibit .and .i64 pg 3 + 1).toNat cm la)).length ∧ cn = (((sloS ⟨3, 8, 6⟩ 3 (cQ (ibit .and .i64 bt 1023 + 1) (ibit .and .i64 pg 3 + 1).toNat cm la)).take j).filter fun s => decide (s.key < 6)).length := hv
    have h4 : (j : Int) < ((r.1.2.2.2.2.1 : Nat) : Int) := of_decide_eq_true h4
    exact hS.on (by omega)
  · rename_i b0 y hy h1 z hz w hw r hr c1 hd v hv h4
    obtain ⟨o, b, q, l, n, c⟩ := w
    have hw : Gth (lc2 (ibit .and .i64 bt 1023 + 1) (ibit .and .i64 pg 3 + 1).toNat cm la) (o, b, q, l, n, c) := hw
    have hR := hw.room
    have hln := lc2_len (ibit .and .i64 bt 1023 + 1) (ibit .and .i64 pg 3 + 1).toNat cm la
    have eL : (Sq.li (o, b, q, l, n, c) : List Pg) = lc2 (ibit .and .i64 bt 1023 + 1) (ibit .and .i64 pg 3 + 1).toNat cm la := hw.1
    have hO : OfS ⟨3, 8, 6⟩ [] (lc2 (ibit .and .i64 bt 1023 + 1) (ibit .and .i64 pg 3 + 1).toNat cm la) r := by rw [← eL]; exact hr
    have hS : Gth (sloS ⟨3, 8, 6⟩ 3 (cQ (ibit .and .i64 bt 1023 + 1) (ibit .and .i64 pg 3 + 1).toNat cm la)) r.1 := hO.2.1
    have hSl : (sloS ⟨3, 8, 6⟩ 3 (cQ (ibit .and .i64 bt 1023 + 1) (ibit .and .i64 pg 3 + 1).toNat cm la)).length ≤ 536871100 := Nat.le_trans sloL_len (keyL_len ⟨by decide, by decide, by decide⟩)
    have hSn := hS.n
    obtain ⟨j, cn⟩ := v
    have hv : j ≤ (sloS ⟨3, 8, 6⟩ 3 (cQ (ibit .and .i64 bt 1023 + 1) (ibit .and .i64 pg 3 + 1).toNat cm la)).length ∧ cn = (((sloS ⟨3, 8, 6⟩ 3 (cQ (ibit .and .i64 bt 1023 + 1) (ibit .and .i64 pg 3 + 1).toNat cm la)).take j).filter fun s => decide (s.key < 6)).length := hv
    have h4 : (j : Int) < ((r.1.2.2.2.2.1 : Nat) : Int) := of_decide_eq_true h4
    exact h4
  · rename_i b0 y hy h1 z hz w hw r hr c1 hd v hv h4
    obtain ⟨o, b, q, l, n, c⟩ := w
    have hw : Gth (lc2 (ibit .and .i64 bt 1023 + 1) (ibit .and .i64 pg 3 + 1).toNat cm la) (o, b, q, l, n, c) := hw
    have hR := hw.room
    have hln := lc2_len (ibit .and .i64 bt 1023 + 1) (ibit .and .i64 pg 3 + 1).toNat cm la
    have eL : (Sq.li (o, b, q, l, n, c) : List Pg) = lc2 (ibit .and .i64 bt 1023 + 1) (ibit .and .i64 pg 3 + 1).toNat cm la := hw.1
    have hO : OfS ⟨3, 8, 6⟩ [] (lc2 (ibit .and .i64 bt 1023 + 1) (ibit .and .i64 pg 3 + 1).toNat cm la) r := by rw [← eL]; exact hr
    have hS : Gth (sloS ⟨3, 8, 6⟩ 3 (cQ (ibit .and .i64 bt 1023 + 1) (ibit .and .i64 pg 3 + 1).toNat cm la)) r.1 := hO.2.1
    have hSl : (sloS ⟨3, 8, 6⟩ 3 (cQ (ibit .and .i64 bt 1023 + 1) (ibit .and .i64 pg 3 + 1).toNat cm la)).length ≤ 536871100 := Nat.le_trans sloL_len (keyL_len ⟨by decide, by decide, by decide⟩)
    have hSn := hS.n
    obtain ⟨j, cn⟩ := v
    have hv : j ≤ (sloS ⟨3, 8, 6⟩ 3 (cQ (ibit .and .i64 bt 1023 + 1) (ibit .and .i64 pg 3 + 1).toNat cm la)).length ∧ cn = (((sloS ⟨3, 8, 6⟩ 3 (cQ (ibit .and .i64 bt 1023 + 1) (ibit .and .i64 pg 3 + 1).toNat cm la)).take j).filter fun s => decide (s.key < 6)).length := hv
    have h4 : (j : Int) < ((r.1.2.2.2.2.1 : Nat) : Int) := of_decide_eq_true h4
    exact hS.on (by omega)
  · rename_i b0 y hy h1 z hz w hw r hr c1 hd v hv h4
    obtain ⟨o, b, q, l, n, c⟩ := w
    have hw : Gth (lc2 (ibit .and .i64 bt 1023 + 1) (ibit .and .i64 pg 3 + 1).toNat cm la) (o, b, q, l, n, c) := hw
    have hR := hw.room
    have hln := lc2_len (ibit .and .i64 bt 1023 + 1) (ibit .and .i64 pg 3 + 1).toNat cm la
    have eL : (Sq.li (o, b, q, l, n, c) : List Pg) = lc2 (ibit .and .i64 bt 1023 + 1) (ibit .and .i64 pg 3 + 1).toNat cm la := hw.1
    have hO : OfS ⟨3, 8, 6⟩ [] (lc2 (ibit .and .i64 bt 1023 + 1) (ibit .and .i64 pg 3 + 1).toNat cm la) r := by rw [← eL]; exact hr
    have hS : Gth (sloS ⟨3, 8, 6⟩ 3 (cQ (ibit .and .i64 bt 1023 + 1) (ibit .and .i64 pg 3 + 1).toNat cm la)) r.1 := hO.2.1
    have hSl : (sloS ⟨3, 8, 6⟩ 3 (cQ (ibit .and .i64 bt 1023 + 1) (ibit .and .i64 pg 3 + 1).toNat cm la)).length ≤ 536871100 := Nat.le_trans sloL_len (keyL_len ⟨by decide, by decide, by decide⟩)
    have hSn := hS.n
    obtain ⟨j, cn⟩ := v
    have hv : j ≤ (sloS ⟨3, 8, 6⟩ 3 (cQ (ibit .and .i64 bt 1023 + 1) (ibit .and .i64 pg 3 + 1).toNat cm la)).length ∧ cn = (((sloS ⟨3, 8, 6⟩ 3 (cQ (ibit .and .i64 bt 1023 + 1) (ibit .and .i64 pg 3 + 1).toNat cm la)).take j).filter fun s => decide (s.key < 6)).length := hv
    have h4 : (j : Int) < ((r.1.2.2.2.2.1 : Nat) : Int) := of_decide_eq_true h4
    have := hS.le
    show j < r.1.2.2.2.1.length
    omega
  · rename_i b0 y hy h1 z hz w hw r hr c1 hd v hv h4 hk6
    obtain ⟨o, b, q, l, n, c⟩ := w
    have hw : Gth (lc2 (ibit .and .i64 bt 1023 + 1) (ibit .and .i64 pg 3 + 1).toNat cm la) (o, b, q, l, n, c) := hw
    have hR := hw.room
    have hln := lc2_len (ibit .and .i64 bt 1023 + 1) (ibit .and .i64 pg 3 + 1).toNat cm la
    have eL : (Sq.li (o, b, q, l, n, c) : List Pg) = lc2 (ibit .and .i64 bt 1023 + 1) (ibit .and .i64 pg 3 + 1).toNat cm la := hw.1
    have hO : OfS ⟨3, 8, 6⟩ [] (lc2 (ibit .and .i64 bt 1023 + 1) (ibit .and .i64 pg 3 + 1).toNat cm la) r := by rw [← eL]; exact hr
    have hS : Gth (sloS ⟨3, 8, 6⟩ 3 (cQ (ibit .and .i64 bt 1023 + 1) (ibit .and .i64 pg 3 + 1).toNat cm la)) r.1 := hO.2.1
    have hSl : (sloS ⟨3, 8, 6⟩ 3 (cQ (ibit .and .i64 bt 1023 + 1) (ibit .and .i64 pg 3 + 1).toNat cm la)).length ≤ 536871100 := Nat.le_trans sloL_len (keyL_len ⟨by decide, by decide, by decide⟩)
    have hSn := hS.n
    obtain ⟨j, cn⟩ := v
    have hv : j ≤ (sloS ⟨3, 8, 6⟩ 3 (cQ (ibit .and .i64 bt 1023 + 1) (ibit .and .i64 pg 3 + 1).toNat cm la)).length ∧ cn = (((sloS ⟨3, 8, 6⟩ 3 (cQ (ibit .and .i64 bt 1023 + 1) (ibit .and .i64 pg 3 + 1).toNat cm la)).take j).filter fun s => decide (s.key < 6)).length := hv
    have h4 : (j : Int) < ((r.1.2.2.2.2.1 : Nat) : Int) := of_decide_eq_true h4
    have hcn : cn ≤ j := by
      rw [hv.2]
      exact Nat.le_trans (List.length_filter_le _ _) (List.length_take_le _ _)
    exact inR64 (by show -9223372036854775808 ≤ (cn : Int) + 1; omega) (by show (cn : Int) + 1 ≤ 9223372036854775807; omega)
  · rename_i b0 y hy h1 z hz w hw r hr c1 hd v hv h4 hk6
    obtain ⟨o, b, q, l, n, c⟩ := w
    have hw : Gth (lc2 (ibit .and .i64 bt 1023 + 1) (ibit .and .i64 pg 3 + 1).toNat cm la) (o, b, q, l, n, c) := hw
    have hR := hw.room
    have hln := lc2_len (ibit .and .i64 bt 1023 + 1) (ibit .and .i64 pg 3 + 1).toNat cm la
    have eL : (Sq.li (o, b, q, l, n, c) : List Pg) = lc2 (ibit .and .i64 bt 1023 + 1) (ibit .and .i64 pg 3 + 1).toNat cm la := hw.1
    have hO : OfS ⟨3, 8, 6⟩ [] (lc2 (ibit .and .i64 bt 1023 + 1) (ibit .and .i64 pg 3 + 1).toNat cm la) r := by rw [← eL]; exact hr
    have hS : Gth (sloS ⟨3, 8, 6⟩ 3 (cQ (ibit .and .i64 bt 1023 + 1) (ibit .and .i64 pg 3 + 1).toNat cm la)) r.1 := hO.2.1
    have hSl : (sloS ⟨3, 8, 6⟩ 3 (cQ (ibit .and .i64 bt 1023 + 1) (ibit .and .i64 pg 3 + 1).toNat cm la)).length ≤ 536871100 := Nat.le_trans sloL_len (keyL_len ⟨by decide, by decide, by decide⟩)
    have hSn := hS.n
    obtain ⟨j, cn⟩ := v
    have hv : j ≤ (sloS ⟨3, 8, 6⟩ 3 (cQ (ibit .and .i64 bt 1023 + 1) (ibit .and .i64 pg 3 + 1).toNat cm la)).length ∧ cn = (((sloS ⟨3, 8, 6⟩ 3 (cQ (ibit .and .i64 bt 1023 + 1) (ibit .and .i64 pg 3 + 1).toNat cm la)).take j).filter fun s => decide (s.key < 6)).length := hv
    have h4 : (j : Int) < ((r.1.2.2.2.2.1 : Nat) : Int) := of_decide_eq_true h4
    exact inR64 (by show -9223372036854775808 ≤ (j : Int) + 1; omega) (by show (j : Int) + 1 ≤ 9223372036854775807; omega)
  · rename_i b0 y hy h1 z hz w hw r hr c1 hd v hv h4 hk6
    obtain ⟨o, b, q, l, n, c⟩ := w
    have hw : Gth (lc2 (ibit .and .i64 bt 1023 + 1) (ibit .and .i64 pg 3 + 1).toNat cm la) (o, b, q, l, n, c) := hw
    have hR := hw.room
    have hln := lc2_len (ibit .and .i64 bt 1023 + 1) (ibit .and .i64 pg 3 + 1).toNat cm la
    have eL : (Sq.li (o, b, q, l, n, c) : List Pg) = lc2 (ibit .and .i64 bt 1023 + 1) (ibit .and .i64 pg 3 + 1).toNat cm la := hw.1
    have hO : OfS ⟨3, 8, 6⟩ [] (lc2 (ibit .and .i64 bt 1023 + 1) (ibit .and .i64 pg 3 + 1).toNat cm la) r := by rw [← eL]; exact hr
    have hS : Gth (sloS ⟨3, 8, 6⟩ 3 (cQ (ibit .and .i64 bt 1023 + 1) (ibit .and .i64 pg 3 + 1).toNat cm la)) r.1 := hO.2.1
    have hSl : (sloS ⟨3, 8, 6⟩ 3 (cQ (ibit .and .i64 bt 1023 + 1) (ibit .and .i64 pg 3 + 1).toNat cm la)).length ≤ 536871100 := Nat.le_trans sloL_len (keyL_len ⟨by decide, by decide, by decide⟩)
    have hSn := hS.n
    obtain ⟨j, cn⟩ := v
    have hv : j ≤ (sloS ⟨3, 8, 6⟩ 3 (cQ (ibit .and .i64 bt 1023 + 1) (ibit .and .i64 pg 3 + 1).toNat cm la)).length ∧ cn = (((sloS ⟨3, 8, 6⟩ 3 (cQ (ibit .and .i64 bt 1023 + 1) (ibit .and .i64 pg 3 + 1).toNat cm la)).take j).filter fun s => decide (s.key < 6)).length := hv
    have h4 : (j : Int) < ((r.1.2.2.2.2.1 : Nat) : Int) := of_decide_eq_true h4
    have hj : j < (sloS ⟨3, 8, 6⟩ 3 (cQ (ibit .and .i64 bt 1023 + 1) (ibit .and .i64 pg 3 + 1).toNat cm la)).length := by omega
    have eg : r.1.2.2.2.1.getD j slot0 = (sloS ⟨3, 8, 6⟩ 3 (cQ (ibit .and .i64 bt 1023 + 1) (ibit .and .i64 pg 3 + 1).toNat cm la)).getD j slot0 := hS.get hj
    have hk6 : decide ((r.1.2.2.2.1.getD j slot0).key < 6) = true := hk6
    rw [eg] at hk6
    refine Stands.one (j + 1, cn + 1) ⟨⟨by show j + 1 ≤ (sloS ⟨3, 8, 6⟩ 3 (cQ (ibit .and .i64 bt 1023 + 1) (ibit .and .i64 pg 3 + 1).toNat cm la)).length; omega, ?_⟩, by show (sloS ⟨3, 8, 6⟩ 3 (cQ (ibit .and .i64 bt 1023 + 1) (ibit .and .i64 pg 3 + 1).toNat cm la)).length - (j + 1) < (sloS ⟨3, 8, 6⟩ 3 (cQ (ibit .and .i64 bt 1023 + 1) (ibit .and .i64 pg 3 + 1).toNat cm la)).length - j; omega, ?_⟩
    · show cn + 1 = (((sloS ⟨3, 8, 6⟩ 3 (cQ (ibit .and .i64 bt 1023 + 1) (ibit .and .i64 pg 3 + 1).toNat cm la)).take (j + 1)).filter fun s => decide (s.key < 6)).length
      rw [take_snoc (d := slot0) hj, List.filter_append, List.filter_cons_of_pos (p := fun s : Slot => decide (s.key < 6)) hk6, List.length_append, ← hv.2]; rfl
    ((conv => (arg 1; reduce)); with_reducible repeat' (first | exact Tr.yes_h | refine Tr.and_h ?_ ?_ | refine Tr.imp_h fun _ => ?_ | refine Tr.all_h fun _ => ?_ | refine Tr.lf_h ?_))
    all_goals (first | first | (show Region.lexB _ _ = true; kernel_rfl) | (show planned _ _ = true; kernel_rfl) | exact rfl | exact True.intro | (first | exact key3 | exact zeroB | exact zeroR | exact zeroS | exact ⟨key3, zeroB⟩ | exact ⟨key3, zeroR⟩ | exact ⟨key3, zeroS⟩) | ((try dsimp only [imp, C0, cG, cInt, cPl, cSlot, cPg, gwCodec] at *); (try refine inR64 ?_ ?_) <;> (try simp only [List.length_set, List.length_append, List.length_take, List.length_drop]) <;> omega))
  · rename_i b0 y hy h1 z hz w hw r hr c1 hd v hv h4 hk6
    obtain ⟨o, b, q, l, n, c⟩ := w
    have hw : Gth (lc2 (ibit .and .i64 bt 1023 + 1) (ibit .and .i64 pg 3 + 1).toNat cm la) (o, b, q, l, n, c) := hw
    have hR := hw.room
    have hln := lc2_len (ibit .and .i64 bt 1023 + 1) (ibit .and .i64 pg 3 + 1).toNat cm la
    have eL : (Sq.li (o, b, q, l, n, c) : List Pg) = lc2 (ibit .and .i64 bt 1023 + 1) (ibit .and .i64 pg 3 + 1).toNat cm la := hw.1
    have hO : OfS ⟨3, 8, 6⟩ [] (lc2 (ibit .and .i64 bt 1023 + 1) (ibit .and .i64 pg 3 + 1).toNat cm la) r := by rw [← eL]; exact hr
    have hS : Gth (sloS ⟨3, 8, 6⟩ 3 (cQ (ibit .and .i64 bt 1023 + 1) (ibit .and .i64 pg 3 + 1).toNat cm la)) r.1 := hO.2.1
    have hSl : (sloS ⟨3, 8, 6⟩ 3 (cQ (ibit .and .i64 bt 1023 + 1) (ibit .and .i64 pg 3 + 1).toNat cm la)).length ≤ 536871100 := Nat.le_trans sloL_len (keyL_len ⟨by decide, by decide, by decide⟩)
    have hSn := hS.n
    obtain ⟨j, cn⟩ := v
    have hv : j ≤ (sloS ⟨3, 8, 6⟩ 3 (cQ (ibit .and .i64 bt 1023 + 1) (ibit .and .i64 pg 3 + 1).toNat cm la)).length ∧ cn = (((sloS ⟨3, 8, 6⟩ 3 (cQ (ibit .and .i64 bt 1023 + 1) (ibit .and .i64 pg 3 + 1).toNat cm la)).take j).filter fun s => decide (s.key < 6)).length := hv
    have h4 : (j : Int) < ((r.1.2.2.2.2.1 : Nat) : Int) := of_decide_eq_true h4
    exact inR64 (by show -9223372036854775808 ≤ (j : Int) + 1; omega) (by show (j : Int) + 1 ≤ 9223372036854775807; omega)
  · rename_i b0 y hy h1 z hz w hw r hr c1 hd v hv h4 hk6
    obtain ⟨o, b, q, l, n, c⟩ := w
    have hw : Gth (lc2 (ibit .and .i64 bt 1023 + 1) (ibit .and .i64 pg 3 + 1).toNat cm la) (o, b, q, l, n, c) := hw
    have hR := hw.room
    have hln := lc2_len (ibit .and .i64 bt 1023 + 1) (ibit .and .i64 pg 3 + 1).toNat cm la
    have eL : (Sq.li (o, b, q, l, n, c) : List Pg) = lc2 (ibit .and .i64 bt 1023 + 1) (ibit .and .i64 pg 3 + 1).toNat cm la := hw.1
    have hO : OfS ⟨3, 8, 6⟩ [] (lc2 (ibit .and .i64 bt 1023 + 1) (ibit .and .i64 pg 3 + 1).toNat cm la) r := by rw [← eL]; exact hr
    have hS : Gth (sloS ⟨3, 8, 6⟩ 3 (cQ (ibit .and .i64 bt 1023 + 1) (ibit .and .i64 pg 3 + 1).toNat cm la)) r.1 := hO.2.1
    have hSl : (sloS ⟨3, 8, 6⟩ 3 (cQ (ibit .and .i64 bt 1023 + 1) (ibit .and .i64 pg 3 + 1).toNat cm la)).length ≤ 536871100 := Nat.le_trans sloL_len (keyL_len ⟨by decide, by decide, by decide⟩)
    have hSn := hS.n
    obtain ⟨j, cn⟩ := v
    have hv : j ≤ (sloS ⟨3, 8, 6⟩ 3 (cQ (ibit .and .i64 bt 1023 + 1) (ibit .and .i64 pg 3 + 1).toNat cm la)).length ∧ cn = (((sloS ⟨3, 8, 6⟩ 3 (cQ (ibit .and .i64 bt 1023 + 1) (ibit .and .i64 pg 3 + 1).toNat cm la)).take j).filter fun s => decide (s.key < 6)).length := hv
    have h4 : (j : Int) < ((r.1.2.2.2.2.1 : Nat) : Int) := of_decide_eq_true h4
    have hj : j < (sloS ⟨3, 8, 6⟩ 3 (cQ (ibit .and .i64 bt 1023 + 1) (ibit .and .i64 pg 3 + 1).toNat cm la)).length := by omega
    have eg : r.1.2.2.2.1.getD j slot0 = (sloS ⟨3, 8, 6⟩ 3 (cQ (ibit .and .i64 bt 1023 + 1) (ibit .and .i64 pg 3 + 1).toNat cm la)).getD j slot0 := hS.get hj
    have hk6 : decide ((r.1.2.2.2.1.getD j slot0).key < 6) = false := hk6
    rw [eg] at hk6
    have hk7 : ¬ (decide (((sloS ⟨3, 8, 6⟩ 3 (cQ (ibit .and .i64 bt 1023 + 1) (ibit .and .i64 pg 3 + 1).toNat cm la)).getD j slot0).key < 6)) = true := by rw [hk6]; exact Bool.false_ne_true
    refine Stands.one (j + 1, cn) ⟨⟨by show j + 1 ≤ (sloS ⟨3, 8, 6⟩ 3 (cQ (ibit .and .i64 bt 1023 + 1) (ibit .and .i64 pg 3 + 1).toNat cm la)).length; omega, ?_⟩, by show (sloS ⟨3, 8, 6⟩ 3 (cQ (ibit .and .i64 bt 1023 + 1) (ibit .and .i64 pg 3 + 1).toNat cm la)).length - (j + 1) < (sloS ⟨3, 8, 6⟩ 3 (cQ (ibit .and .i64 bt 1023 + 1) (ibit .and .i64 pg 3 + 1).toNat cm la)).length - j; omega, ?_⟩
    · show cn = (((sloS ⟨3, 8, 6⟩ 3 (cQ (ibit .and .i64 bt 1023 + 1) (ibit .and .i64 pg 3 + 1).toNat cm la)).take (j + 1)).filter fun s => decide (s.key < 6)).length
      rw [take_snoc (d := slot0) hj, List.filter_append, List.filter_cons_of_neg (p := fun s : Slot => decide (s.key < 6)) hk7, List.filter_nil, List.append_nil, ← hv.2]
    ((conv => (arg 1; reduce)); with_reducible repeat' (first | exact Tr.yes_h | refine Tr.and_h ?_ ?_ | refine Tr.imp_h fun _ => ?_ | refine Tr.all_h fun _ => ?_ | refine Tr.lf_h ?_))
    all_goals (first | first | (show Region.lexB _ _ = true; kernel_rfl) | (show planned _ _ = true; kernel_rfl) | exact rfl | exact True.intro | (first | exact key3 | exact zeroB | exact zeroR | exact zeroS | exact ⟨key3, zeroB⟩ | exact ⟨key3, zeroR⟩ | exact ⟨key3, zeroS⟩) | ((try dsimp only [imp, C0, cG, cInt, cPl, cSlot, cPg, gwCodec] at *); (try refine inR64 ?_ ?_) <;> (try simp only [List.length_set, List.length_append, List.length_take, List.length_drop]) <;> omega))
  · rename_i b0 y hy h1 z hz w hw r hr c1 hd v hv h4 hq
    obtain ⟨o, b, q, l, n, c⟩ := w
    have hw : Gth (lc2 (ibit .and .i64 bt 1023 + 1) (ibit .and .i64 pg 3 + 1).toNat cm la) (o, b, q, l, n, c) := hw
    have hR := hw.room
    have hln := lc2_len (ibit .and .i64 bt 1023 + 1) (ibit .and .i64 pg 3 + 1).toNat cm la
    have eL : (Sq.li (o, b, q, l, n, c) : List Pg) = lc2 (ibit .and .i64 bt 1023 + 1) (ibit .and .i64 pg 3 + 1).toNat cm la := hw.1
    have hO : OfS ⟨3, 8, 6⟩ [] (lc2 (ibit .and .i64 bt 1023 + 1) (ibit .and .i64 pg 3 + 1).toNat cm la) r := by rw [← eL]; exact hr
    have hS : Gth (sloS ⟨3, 8, 6⟩ 3 (cQ (ibit .and .i64 bt 1023 + 1) (ibit .and .i64 pg 3 + 1).toNat cm la)) r.1 := hO.2.1
    have hSl : (sloS ⟨3, 8, 6⟩ 3 (cQ (ibit .and .i64 bt 1023 + 1) (ibit .and .i64 pg 3 + 1).toNat cm la)).length ≤ 536871100 := Nat.le_trans sloL_len (keyL_len ⟨by decide, by decide, by decide⟩)
    have hSn := hS.n
    obtain ⟨j, cn⟩ := v
    have hv : j ≤ (sloS ⟨3, 8, 6⟩ 3 (cQ (ibit .and .i64 bt 1023 + 1) (ibit .and .i64 pg 3 + 1).toNat cm la)).length ∧ cn = (((sloS ⟨3, 8, 6⟩ 3 (cQ (ibit .and .i64 bt 1023 + 1) (ibit .and .i64 pg 3 + 1).toNat cm la)).take j).filter fun s => decide (s.key < 6)).length := hv
    have h4 : ¬ (j : Int) < ((r.1.2.2.2.2.1 : Nat) : Int) := of_decide_eq_false h4
    have hBd : Gth (badL 3 (cQ (ibit .and .i64 bt 1023 + 1) (ibit .and .i64 pg 3 + 1).toNat cm la)) r.2.2.2.1 := hO.2.2.2.2.1
    rw [hC.bad] at hBd
    exact ⟨hBd.le, Nat.le_refl 0, by rw [hBd.n]; decide, hBd.off, fun _ => ⟨rfl, rfl⟩⟩
  · rename_i b0 y hy h1 z hz w hw r hr c1 hd v hv h4
    obtain ⟨o, b, q, l, n, c⟩ := w
    have hw : Gth (lc2 (ibit .and .i64 bt 1023 + 1) (ibit .and .i64 pg 3 + 1).toNat cm la) (o, b, q, l, n, c) := hw
    have hR := hw.room
    have hln := lc2_len (ibit .and .i64 bt 1023 + 1) (ibit .and .i64 pg 3 + 1).toNat cm la
    have eL : (Sq.li (o, b, q, l, n, c) : List Pg) = lc2 (ibit .and .i64 bt 1023 + 1) (ibit .and .i64 pg 3 + 1).toNat cm la := hw.1
    have hO : OfS ⟨3, 8, 6⟩ [] (lc2 (ibit .and .i64 bt 1023 + 1) (ibit .and .i64 pg 3 + 1).toNat cm la) r := by rw [← eL]; exact hr
    have hS : Gth (sloS ⟨3, 8, 6⟩ 3 (cQ (ibit .and .i64 bt 1023 + 1) (ibit .and .i64 pg 3 + 1).toNat cm la)) r.1 := hO.2.1
    have hSl : (sloS ⟨3, 8, 6⟩ 3 (cQ (ibit .and .i64 bt 1023 + 1) (ibit .and .i64 pg 3 + 1).toNat cm la)).length ≤ 536871100 := Nat.le_trans sloL_len (keyL_len ⟨by decide, by decide, by decide⟩)
    have hSn := hS.n
    obtain ⟨j, cn⟩ := v
    have hv : j ≤ (sloS ⟨3, 8, 6⟩ 3 (cQ (ibit .and .i64 bt 1023 + 1) (ibit .and .i64 pg 3 + 1).toNat cm la)).length ∧ cn = (((sloS ⟨3, 8, 6⟩ 3 (cQ (ibit .and .i64 bt 1023 + 1) (ibit .and .i64 pg 3 + 1).toNat cm la)).take j).filter fun s => decide (s.key < 6)).length := hv
    have h4 : ¬ (j : Int) < ((r.1.2.2.2.2.1 : Nat) : Int) := of_decide_eq_false h4
    have ej : j = (sloS ⟨3, 8, 6⟩ 3 (cQ (ibit .and .i64 bt 1023 + 1) (ibit .and .i64 pg 3 + 1).toNat cm la)).length := by omega
    have ecn : cn = if cm || la then (ibit .and .i64 pg 3 + 1).toNat else 0 := by
      rw [hv.2, ej, List.take_of_length_le (Nat.le_refl _)]
      exact cm_n hB1 hC
    have hBd : Gth (badL 3 (cQ (ibit .and .i64 bt 1023 + 1) (ibit .and .i64 pg 3 + 1).toNat cm la)) r.2.2.2.1 := hO.2.2.2.2.1
    rw [hC.bad] at hBd
    have hOr : Gth (orfS 3 (cQ (ibit .and .i64 bt 1023 + 1) (ibit .and .i64 pg 3 + 1).toNat cm la)) r.2.2.2.2 := hO.2.2.2.2.2
    have hOn := hOr.n
    rw [cm_o hB1 hC] at hOn
    have hf := cm_f hB1 hC
    show ((decide ((cn : Int) = ibit .and .i64 pg 3 + 1) == (cm || la)) && (decide ((cn : Int) = 0) == !(cm || la)) && (decide (((r.2.2.2.2.2.2.2.2.1 : Nat) : Int) = ibit .and .i64 pg 3 + 1) == !(cm || la)) && (decide ((nmOf 3 (gridL 3 (Sq.li (o, b, q, l, n, c)))).f = (ibit .and .i64 bt 1023 + 1)) == (cm || la)) && ieq (r.2.2.2.1.2.2.2.1.take r.2.2.2.1.2.2.2.2.1) []) = true
    rw [eL, hBd.tk, hf, hOn, ecn, ieq_yes rfl]
    cases cm || la with
    | true =>
      rw [if_pos rfl, if_pos rfl, if_pos rfl]
      have e1 : decide ((((ibit .and .i64 pg 3 + 1).toNat : Nat) : Int) = ibit .and .i64 pg 3 + 1) = true := decide_eq_true hkk
      have e2 : decide ((((ibit .and .i64 pg 3 + 1).toNat : Nat) : Int) = 0) = false := decide_eq_false (by omega)
      have e3 : decide ((((0 : Nat)) : Int) = ibit .and .i64 pg 3 + 1) = false := decide_eq_false (by omega)
      have e4 : decide ((ibit .and .i64 bt 1023 + 1) = (ibit .and .i64 bt 1023 + 1)) = true := decide_eq_true rfl
      rw [e1, e2, e3, e4]; rfl
    | false =>
      rw [if_neg Bool.false_ne_true, if_neg Bool.false_ne_true, if_neg Bool.false_ne_true]
      have e1 : decide ((((ibit .and .i64 pg 3 + 1).toNat : Nat) : Int) = ibit .and .i64 pg 3 + 1) = true := decide_eq_true hkk
      have e2 : decide ((((0 : Nat)) : Int) = 0) = true := rfl
      have e3 : decide ((((0 : Nat)) : Int) = ibit .and .i64 pg 3 + 1) = false := decide_eq_false (by omega)
      have e4 : decide ((0 : Int) = (ibit .and .i64 bt 1023 + 1)) = false := decide_eq_false (by omega)
      rw [e1, e2, e3, e4]; rfl
  · rename_i b0 y hy h1 z hz w hw r hr c1
    obtain ⟨o, b, q, l, n, c⟩ := w
    have hw : Gth (lc2 (ibit .and .i64 bt 1023 + 1) (ibit .and .i64 pg 3 + 1).toNat cm la) (o, b, q, l, n, c) := hw
    have hR := hw.room
    have hln := lc2_len (ibit .and .i64 bt 1023 + 1) (ibit .and .i64 pg 3 + 1).toNat cm la
    have eL : (Sq.li (o, b, q, l, n, c) : List Pg) = lc2 (ibit .and .i64 bt 1023 + 1) (ibit .and .i64 pg 3 + 1).toNat cm la := hw.1
    obtain ⟨j, hj, hb⟩ := hr
    have hj : j < (Sq.li (o, b, q, l, n, c) : List Pg).length := hj
    have hb : pgBad 3 8 [] (Sq.li (o, b, q, l, n, c)) j = true := hb
    rw [eL] at hj hb
    exact absurd ((bad_all hC.ok j hj).symm.trans hb) (by decide)
end Go.Vx
set_option maxRecDepth 100000
namespace Go.Vx
open Go Go.Proofs Go.ChangeShapes Go.WideShapes Go.Deep Go.RowKit Go.Proofs.YtnihemjnhbickaaDoor

theorem c3 : Tryd.prog.cellsOf 3 = 1 := by kernel_rfl
theorem c9 : Tryd.prog.cellsOf 9 = 1 := by kernel_rfl
theorem c36 : Tryd.prog.cellsOf 36 = 2 := by kernel_rfl
theorem c38 : Tryd.prog.cellsOf 38 = 6 := by kernel_rfl
theorem c42 : Tryd.prog.cellsOf 42 = 9 := by kernel_rfl
theorem c160 : Tryd.prog.cellsOf 160 = 1 := by kernel_rfl
/-! The errors. -/
theorem star : "*" ++ "errors.errorString" = "*errors.errorString" := by decide
theorem row142 (u : TypeId) (h : Tryd.prog.typeName? 3 u = some "*errors.errorString") : u = 142 :=
  typeName_ptr_named (nm := "errors.errorString") (by rw [star]; kernel_rfl) (by kernel_rfl) (by decide) u (by rw [star]; exact h)
def pos2 (g : Nat) : Nat := match g with
  | 0 => 1
  | 1 => 0
  | g => g
theorem pos2_ok : ∀ g, g < 2 → pos2 g < [1, 0].length ∧ [1, 0].getD (pos2 g) 0 = g := by decide
/-- The errors of a list lie there, no two at one place. -/
theorem gl_of {W : World} {L : List (String × DataW Unit)} (hL : SentL Tryd.prog "*errors.errorString" 30 L [1, 0]) (h : laidMet Tryd.prog L W) :
    ∃ G : Gl, (∀ i j, i < 2 → j < 2 → @Gl.A G i = @Gl.A G j → i = j) ∧ ∀ g, g < 2 →
    W.cell? ⟨g, 0, none⟩ = some (.iface 142 (.pointer (some (@Gl.A G g)))) ∧ W.heap[(@Gl.A G g).block]? = some (.cells (@Gl.c G g) (@Gl.t G g) (0, 0)) := by
  obtain ⟨ps, hv, hnd, hrows⟩ := h
  obtain ⟨az, hs, _⟩ := laid_all Tryd.underlying30 row142 Tryd.underlying142 Tryd.underlying160 rfl rfl Tryd.underlying9 c160 c9 _ _ _ hL hv hnd hrows
  have hex : ∀ g, ∃ p : Array Value × TypeId, g < 2 → W.heap[(az.getD (pos2 g) default).block]? = some (.cells p.1 p.2 (0, 0)) := by
    intro g
    by_cases hg : g < 2
    · obtain ⟨_, c, t, h2⟩ := hs.get (pos2 g) (pos2_ok g hg).1
      exact ⟨(c, t), fun _ => h2⟩
    · exact ⟨(#[], 0), fun h => absurd h hg⟩
  refine ⟨⟨fun g => az.getD (pos2 g) default, fun g => (Classical.choose (hex g)).1, fun g => (Classical.choose (hex g)).2⟩, ?_, ?_⟩
  · intro i j hi hj he
    have := hs.one (pos2_ok i hi).1 (pos2_ok j hj).1 he
    rw [← (pos2_ok i hi).2, ← (pos2_ok j hj).2, this]
  · intro g hg
    obtain ⟨h1, _⟩ := hs.get (pos2 g) (pos2_ok g hg).1
    rw [(pos2_ok g hg).2] at h1
    exact ⟨h1, Classical.choose_spec (hex g) hg⟩
theorem gv_is [Gl] (g : Nat) : (C0 g).gv = glV g := by unfold C0; split <;> rfl
theorem gp_is [Gl] (g : Nat) : (C0 g).gpins = glP g := by unfold C0; split <;> rfl
theorem glB_lt {g : Nat} (h : glB g = true) : g < 2 := by
  unfold glB at h
  simpa using h
abbrev LaidAt [Gl] (W : World) : Prop := ∀ g, g < 2 → W.cell? ⟨g, 0, none⟩ = some (.iface 142 (.pointer (some (Gl.A g)))) ∧ W.heap[(Gl.A g).block]? = some (.cells (Gl.c g) (Gl.t g) (0, 0))
theorem more_of [Gl] {W : World} (h : LaidAt W)
    {mem : List (Ck C0)} (hnw : noWr mem = true) (hd : ∀ c ∈ mem, ∀ t x, c.cells.Has t x → (C0 t).good W x ∧ ∀ b ∈ (C0 t).blks x, b < W.heap.size) : More (wrS mem) W W mem where
  gv g v hv := by
    rw [gv_is] at hv
    unfold glV at hv
    split at hv
    · rename_i hb
      have hg := glB_lt hb
      simp only [Option.some.injEq] at hv
      subst hv
      obtain ⟨h1, _⟩ := h g hg
      refine ⟨h1, ?_, ?_⟩
      · rcases Nat.lt_or_ge g W.heap.size with h' | h'
        · exact h'
        · simp [World.cell?, Array.getElem?_eq_none h'] at h1
      · rintro ⟨c, hc, hw, _⟩
        rw [noWr_ok hnw c hc] at hw; cases hw
    · cases hv
  gp g p hp := by
    rw [gp_is] at hp
    unfold glP at hp
    split at hp
    · rename_i hb
      have hg := glB_lt hb
      rw [List.mem_singleton] at hp
      subst hp
      obtain ⟨_, h2⟩ := h g hg
      refine ⟨h2, heap_size_of h2, ?_⟩
      rintro ⟨c, hc, hw, _⟩
      rw [noWr_ok hnw c hc] at hw; cases hw
    · cases hp
  pin p hp := by cases hp
  nod := List.nodup_nil
  deep := deep_ro hnw hd
/-! What comes in. -/
theorem place_open {H : Type} {enc : TypeId × Value → H} {w : World} {base : Nat} {spare : Nat → Bool} {held : Bool} {fuel : Nat} {cs : List Value} {y : DataW H × List MemPlace} (h : DataW.trod enc Tryd.prog w base spare held fuel 36 cs = some y) :
    ∃ b : Pl, cs[0]? = some (.int .i64 b.1) ∧ cs[1]? = some (.int .i64 b.2) := by
  obtain ⟨y0, y1, n, _, _, h0, h1⟩ := trod_struct2 Tryd.underlying36 h
  simp only [c3] at h0 h1
  obtain ⟨n0, e0, _, _⟩ := DataW.trod_int Tryd.underlying3 h0
  obtain ⟨n1, e1, _, _⟩ := DataW.trod_int Tryd.underlying3 h1
  exact ⟨(n0, n1), one_at e0, one_at e1⟩
theorem meta_open {H : Type} {enc : TypeId × Value → H} {w : World} {base : Nat} {spare : Nat → Bool} {held : Bool} {fuel : Nat} {cs : List Value} {y : DataW H × List MemPlace} (h : DataW.trod enc Tryd.prog w base spare held fuel 38 cs = some y) :
    ∃ m : Me, cs[0]? = some (.int .i64 m.kind) ∧ cs[1]? = some (.int .i64 m.key) ∧ cs[2]? = some (.int .i64 m.seq) ∧ cs[3]? = some (.int .i64 m.stamp) ∧ cs[4]? = some (.int .i64 m.batch) ∧ cs[5]? = some (.int .i64 m.floor) := by
  obtain ⟨xs, n, _, rfl, hl, hlen, hf⟩ := DataW.trod_struct Tryd.underlying38 h
  match xs, hlen with
  | [y0, y1, y2, y3, y4, y5], _ =>
    have h0 : DataW.trod enc Tryd.prog w base spare held n 3 ((cs.drop 0).take (Tryd.prog.cellsOf 3)) = some y0 := hf 0 _ rfl
    have h1 : DataW.trod enc Tryd.prog w base spare held n 3 ((cs.drop 1).take (Tryd.prog.cellsOf 3)) = some y1 := hf 1 _ rfl
    have h2 : DataW.trod enc Tryd.prog w base spare held n 3 ((cs.drop 2).take (Tryd.prog.cellsOf 3)) = some y2 := hf 2 _ rfl
    have h3 : DataW.trod enc Tryd.prog w base spare held n 3 ((cs.drop 3).take (Tryd.prog.cellsOf 3)) = some y3 := hf 3 _ rfl
    have h4 : DataW.trod enc Tryd.prog w base spare held n 3 ((cs.drop 4).take (Tryd.prog.cellsOf 3)) = some y4 := hf 4 _ rfl
    have h5 : DataW.trod enc Tryd.prog w base spare held n 3 ((cs.drop 5).take (Tryd.prog.cellsOf 3)) = some y5 := hf 5 _ rfl
    simp only [c3] at h0 h1 h2 h3 h4 h5
    obtain ⟨n0, e0, _, _⟩ := DataW.trod_int Tryd.underlying3 h0
    obtain ⟨n1, e1, _, _⟩ := DataW.trod_int Tryd.underlying3 h1
    obtain ⟨n2, e2, _, _⟩ := DataW.trod_int Tryd.underlying3 h2
    obtain ⟨n3, e3, _, _⟩ := DataW.trod_int Tryd.underlying3 h3
    obtain ⟨n4, e4, _, _⟩ := DataW.trod_int Tryd.underlying3 h4
    obtain ⟨n5, e5, _, _⟩ := DataW.trod_int Tryd.underlying3 h5
    exact ⟨⟨n0, n1, n2, n3, n4, n5⟩, one_at e0, one_at e1, one_at e2, one_at e3, one_at e4, one_at e5⟩
theorem page_open {H : Type} {enc : TypeId × Value → H} {w : World} {base : Nat} {spare : Nat → Bool} {held : Bool} {fuel : Nat} {cs : List Value} {y : DataW H × List MemPlace} (h : DataW.trod enc Tryd.prog w base spare held fuel 42 cs = some y) :
    ∃ b : Pg, ∀ f, f < 9 → cs[f]? = some (cellV cPg b f) := by
  obtain ⟨y0, y1, y2, n, _, _, h0, h1, h2⟩ := Go.Deep.trod_struct3 Tryd.underlying42 h
  simp only [c3, c36, c38] at h0 h1 h2
  obtain ⟨p, hp0, hp1⟩ := place_open h0
  obtain ⟨n0, e0, _, _⟩ := DataW.trod_int Tryd.underlying3 h1
  obtain ⟨m, m0, m1, m2, m3, m4, m5⟩ := meta_open h2
  refine ⟨⟨p, n0, m⟩, fun f hf => ?_⟩
  have p0 := part_at hp0
  have p1 := part_at hp1
  have k0 := part_at m0
  have k1 := part_at m1
  have k2 := part_at m2
  have k3 := part_at m3
  have k4 := part_at m4
  have k5 := part_at m5
  rcases f with _ | _ | _ | _ | _ | _ | _ | _ | _ | f
  · exact p0
  · exact p1
  · exact one_at e0
  · exact k0
  · exact k1
  · exact k2
  · exact k3
  · exact k4
  · exact k5
  · omega
/-- Pages that came in. -/
theorem pages_open {H : Type} {enc : TypeId × Value → H} {W : World} {base b0 : Nat} {r : Reach} {v : Value} {d : DataW H} {p : List MemPlace} (hv : Value.okWide Tryd.prog W r b0 22 v)
    (h : DataW.Trod enc Tryd.prog W base (fun _ => true) true 22 v d p) : ∃ (a : Option Addr) (n c : Nat) (l : List Pg), v = .slice a n c ∧ IsPart cPg W a n c l := by
  obtain ⟨a, n, c, rfl⟩ := okWide_slice Tryd.underlying22 hv
  obtain ⟨fuel, hf⟩ := h
  have hf : DataW.trod enc Tryd.prog W base (fun _ => true) true fuel 22 [.slice a n c] = some (d, p) := by simpa [Value.cells] using hf
  obtain ⟨zs, hz⟩ := rows_open2 cPg Tryd.underlying22 c42 (fun _ _ _ h => page_open h) (fun x hx => okWide_at Tryd.underlying22 (a := x) (by rw [hx] at hv; exact hv)) hf
  exact ⟨a, n, c, zs, rfl, hz.part⟩
/-- A record that came in. -/
theorem record_open {H : Type} {enc : TypeId × Value → H} {W : World} {base b0 : Nat} {r : Reach} {v : Value} {d : DataW H} {p : List MemPlace} (hv : Value.okWide Tryd.prog W r b0 38 v)
    (h : DataW.Trod enc Tryd.prog W base (fun _ => true) true 38 v d p) : ∃ m : Me, v = .agg #[.int .i64 m.kind, .int .i64 m.key, .int .i64 m.seq, .int .i64 m.stamp, .int .i64 m.batch, .int .i64 m.floor] := by
  obtain ⟨cs, rfl, hsz⟩ := okWide_struct Tryd.underlying38 hv
  obtain ⟨fuel, hf⟩ := h
  rw [c38] at hsz
  obtain ⟨l⟩ := cs
  match l, hsz with
  | [v0, v1, v2, v3, v4, v5], _ =>
    have hf : DataW.trod enc Tryd.prog W base (fun _ => true) true fuel 38 [v0, v1, v2, v3, v4, v5] = some (d, p) := hf
    obtain ⟨m, h0, h1, h2, h3, h4, h5⟩ := meta_open hf
    cases h0; cases h1; cases h2; cases h3; cases h4; cases h5
    exact ⟨m, rfl⟩
theorem pages_mem [Gl] {w : World} {a : Option Addr} {n c : Nat} {l : List Pg} (b1 : IsPart (C0 42) w a n c l) (hG : LaidAt w) : MemOK (C := C0) (wrS (C := C0) [inCk 42 a l]) w w [inCk 42 a l] := by
  refine memRo rfl (fun x hx ho => ?_) (fun x hx ho => ?_) (more_of hG rfl fun x hx t y hy => ?_)
  · rw [List.mem_singleton.1 hx] at ho ⊢
    exact b1.ok _ ho
  · rw [List.mem_singleton.1 hx] at ho ⊢
    exact b1.lt ho
  · rw [List.mem_singleton.1 hx] at hy
    obtain ⟨e, _⟩ := Cells.Has.inv hy
    subst e
    exact ⟨trivial, fun b hb => by cases hb⟩
/-- Two lists of pages that came in. -/
theorem pages_mem2 [Gl] {w : World} {a : Option Addr} {n c : Nat} {l : List Pg} {a2 : Option Addr} {n2 c2 : Nat} {l2 : List Pg} (b1 : IsPart (C0 42) w a n c l) (b2 : IsPart (C0 42) w a2 n2 c2 l2) (hG : LaidAt w) :
    MemOK (C := C0) (wrS (C := C0) [inCk 42 a l, inCk 42 a2 l2]) w w [inCk 42 a l, inCk 42 a2 l2] := by
  refine memRo rfl (fun x hx ho => ?_) (fun x hx ho => ?_) (more_of hG rfl fun x hx t y hy => ?_)
  · simp only [List.mem_cons, List.not_mem_nil, or_false] at hx
    rcases hx with rfl | rfl
    · exact b1.ok _ ho
    · exact b2.ok _ ho
  · simp only [List.mem_cons, List.not_mem_nil, or_false] at hx
    rcases hx with rfl | rfl
    · exact b1.lt ho
    · exact b2.lt ho
  · simp only [List.mem_cons, List.not_mem_nil, or_false] at hx
    rcases hx with rfl | rfl
    all_goals
      obtain ⟨e, _⟩ := Cells.Has.inv hy
      subst e
      exact ⟨trivial, fun b hb => by cases hb⟩
end Go.Vx
