/-
  Round 23: a scan: the walk of Of.
  Round 23: the document's places and records.
  Round 23: lists that are the same.
  Round 23: what the law looks for.
  Round 23: copies of pages and slots.
  Round 23: the contract of Of; the chapter's examples.
  Round 23: PointPages' states, and what they say.
  Round 23: PointPages' walk.
  Round 23: a point of which a block has not two numbers.
  Round 23: PointPages, where a block has not two numbers.
  Round 23: the errors that are laid; the inputs.
  Conditions: none.
-/
import Derived.Test.YtmdnpfocihfkdaaDoorM4
import Derived.Test.YtmdnpfocihfkdaaDoorM5
import Derived.Test.YtmdnpfocihfkdaaDoorM6
import Derived.Test.YtmdnpfocihfkdaaDoorM7
import Derived.Test.YtmdnpfocihfkdaaDoorM8
import Derived.Test.YtmdnpfocihfkdaaDoorRows
import Derived.LaidMore
import Derived.ChangeOld
import Derived.Below
import Derived.Stop.Joined
import Derived.Lib.SmallJoins
open Bool renaming or_eq_false_iff → yi, or_eq_true → yr, true_and → tt
open Int renaming le_of_lt → qu
open List renaming append_nil → zk, filterMap_append → ve, filterMap_cons_some → tb, filterMap_nil → sy, filter_append → ze, filter_cons_of_neg → yj, filter_cons_of_pos → yw, filter_nil → yg, getD_eq_getElem?_getD → zz, getElem?_eq_getElem → zv, getElem?_map → zh, length → vn, length_append → zw, length_cons → xz, length_map → zt, length_take → zp, take_append_drop → zc, take_length → rt, take_of_length_le → zu, take_zero → xv
open Nat renaming le_refl → zy, le_trans → yz, lt_of_le_of_lt → yp, lt_or_ge → xr, zero_le → zn
open Option renaming getD_some → zb
open Prod renaming fst → zi
set_option linter.unusedVariables false
set_option linter.unusedSimpArgs false
set_option linter.unusedSectionVars false
set_option maxRecDepth 100000
namespace Go.Vx.Sc
open Go Go.Proofs
variable [Gl]
abbrev V5 (bs ps : Int) (n : Nat) (so : Bool) (sb : Nat) (lo : Bool) (lb : Nat) (sk : List Int) (L : List Pg) : Inv' C0 := ⟨5, Nat × List (Rw Pg), fun y => [(52, .int .i64 (y.1 : Int))],
 fun y m => match m with
  | c0 :: c1 :: c2 :: ⟨gb, gq, _, _, _, _⟩ :: c4 :: c5 :: _ => [c0, c1, c2, ⟨gb, gq, 1, true, none, .rows 63 y.2⟩, c4, c5]
  | _ => [],
 fun y => y.1 ≤ L.length ∧ GOK n so sb lo lb (L.take y.1) y.2 ∧ ∀ j, j < y.1 → pgBad bs ps sk L j = false, fun y => L.length - y.1⟩
abbrev resA (v : Nm) (S : Sq Slot) (F D B : Sq Int) (O : Sq Pl) : SV := .agg [svL 2 S, .int .i64 v.s, .int .i64 v.t, .int .i64 v.b, .int .i64 v.f, svI 3 F, svI 4 D, svI 5 B, svO 6 O]
abbrev resN : SV := .agg [.nils, .int .i64 0, .int .i64 0, .int .i64 0, .int .i64 0, .nils, .nils, .nils, .nils]
abbrev chK : Sq Int → Ck C0
 | (so, sb, sq, sl, sn, sc) => ⟨sb, sq, 1, false, some so, .rows 3 sl⟩
abbrev chP : Sq Pg → Ck C0
 | (so, sb, sq, sl, sn, sc) => ⟨sb, sq, 9, false, some so, .rows 70 sl⟩
abbrev svP (k : Nat) : Sq Pg → SV
 | (so, sb, sq, sl, sn, sc) => .sl k 0 sn sc
abbrev errSV (g : Nat) : SV := .ifc 195 (.val (.pointer (some (Gl.A g))))
def OfS (g : Geo) (sk : List Int) (L : List Pg) (y : Sq Slot × Sq Int × Sq Int × Sq Int × Sq Pl) : Prop :=
 (∀ j, j < L.length → pgBad g.bs g.ps sk L j = false) ∧ Gth (sloS g g.bs.toNat (gridL g.bs.toNat L)) y.1 ∧ Gth (freS sk g.bs.toNat (gridL g.bs.toNat L)) y.2.1 ∧
 Gth (dirS g sk g.bs.toNat (gridL g.bs.toNat L)) y.2.2.1 ∧ Gth (badL g.bs.toNat (gridL g.bs.toNat L)) y.2.2.2.1 ∧ Gth (orfS g.bs.toNat (gridL g.bs.toNat L)) y.2.2.2.2
abbrev pl4 : List Tk := [.p 0, .p 1, .e 2, .p 3]
set_option maxHeartbeats 64000000 in
theorem of_ok (bs ps ss : Int) (hbs : 1 ≤ bs ∧ bs ≤ 64) (hps : 1 ≤ ps ∧ ps ≤ 64) (hss : 1 ≤ ss ∧ ss ≤ 536870912) (s : Sq Int) (l : Sq Pg)
 (hs : s.2.2.2.2.1 ≤ s.2.2.2.1.length ∧ s.2.2.2.2.1 < 1000000000 ∧ (s.1 = false → s.2.2.2.2.1 = 0 ∧ s.2.2.2.2.2 = 0))
 (hl : l.2.2.2.2.1 ≤ l.2.2.2.1.length ∧ l.2.2.2.2.1 < 1000000 ∧ (l.1 = false → l.2.2.2.2.1 = 0 ∧ l.2.2.2.2.2 = 0)) :
 Does (C := C0) Tryd.prog (.fn 30) [chK s, chP l] [.int .i64 bs, .int .i64 ps, .int .i64 ss, svI 0 s, svP 1 l]
 [⟨Sq Slot × Sq Int × Sq Int × Sq Int × Sq Pl, OfS ⟨bs, ps, ss⟩ s.li l.li,
   fun y => .tup [resA (nmOf bs.toNat (gridL bs.toNat l.li)) y.1 y.2.1 y.2.2.1 y.2.2.2.1 y.2.2.2.2, .nili],
   fun y => [chK s, chP l, chL y.1, chI y.2.1, chI y.2.2.1, chI y.2.2.2.1, chO y.2.2.2.2]⟩,
  ⟨Unit, fun _ => ∃ j, j < l.li.length ∧ pgBad bs ps s.li l.li j = true, fun _ => .tup [resN, errSV 4], fun _ => [chK s, chP l]⟩] := by
 obtain ⟨so, sb, sq, sl, sn, sc⟩ := s
 obtain ⟨lo, lb, lq, ll, ln, lc⟩ := l
 change sn ≤ sl.length ∧ sn < 1000000000 ∧ (so = false → sn = 0 ∧ sc = 0) at hs
 change ln ≤ ll.length ∧ ln < 1000000 ∧ (lo = false → ln = 0 ∧ lc = 0) at hl
 refine loc_fn (P := Tryd.prog) (E := ⟨[fcNumbers, fcSlots, fcRest], [pcPlaces, pcContains], 146, [(2, [], pl4), (10, [], pl4), (12, [1000012, 1000014, 1000015, 3], ofB)], [fG], []⟩) (L := [V5 bs ps bs.toNat so sb lo lb (sl.take sn) (ll.take ln)]) mix Tryd.func30 rfl (by kernel_rfl) (by kernel_rfl) rfl rfl ?_
 ((conv => arg 1; reduce); with_reducible repeat' first | exact ty | refine ta ?_ ?_ | refine ti fun _ => ?_ | refine tf fun _ => ?_ | refine tl ?_)
 all_goals try exact vlk
 · rename_i u0 hg
   exfalso
   have hg : (decide (bs < 1) || decide (64 < bs) || decide (ps < 1) || decide (64 < ps) || decide (ss < 1) || decide (536870912 < ss)) = true := hg
   simp only [yr, decide_eq_true_eq] at hg
   omega
 · have e : Tryd.prog.types[63].bytes = 24 := by kernel_rfl
   rw [e]
   exact ⟨by omega, Int.le_refl _, by show (24 : Int) * bs ≤ _; omega, by omega⟩
 · refine Stands.one (0, List.replicate bs.toNat Rw.nil) ⟨⟨zn _, by show GOK _ _ _ _ _ ((ll.take ln).take 0) _; rw [xv]; exact GOK.nil, fun j hj => absurd hj (Nat.not_lt_zero j)⟩, ?_⟩
   exact vgk
 iterate 4 (
  focus
  rename_i u0 hg u1 u2 u3 y hy h1
  obtain ⟨i, R⟩ := y
  have hy : i ≤ (ll.take ln).length ∧ GOK bs.toNat so sb lo lb ((ll.take ln).take i) R ∧ ∀ j, j < i → pgBad bs ps (sl.take sn) (ll.take ln) j = false := hy
  have h1 : (i : Int) < (ln : Int) := ow h1
  first
   | (exact on_of hl.2.2 (by omega)
      done)
   | (exact h1
      done)
   | (show i < ll.length
      omega
      done))
 iterate 6 (
  focus
  rename_i u0 hg u1 u2 u3 y hy h1 v1 v2 hin h0
  obtain ⟨i, R⟩ := y
  have hy : i ≤ (ll.take ln).length ∧ GOK bs.toNat so sb lo lb ((ll.take ln).take i) R ∧ ∀ j, j < i → pgBad bs ps (sl.take sn) (ll.take ln) j = false := hy
  have h1 : (i : Int) < (ln : Int) := ow h1
  have h0 : (0 : Int) < (i : Int) := ow h0
  first
   | (exact inR64 (by show -9223372036854775808 ≤ (i : Int) - 1; omega) (by show (i : Int) - 1 ≤ 9223372036854775807; omega)
      done)
   | (exact on_of hl.2.2 (by omega)
      done)
   | (show (0 : Int) ≤ (i : Int) - 1
      omega
      done)
   | (show (i : Int) - 1 < (ln : Int)
      omega
      done)
   | (show ((i : Int) - 1).toNat + 0 < ll.length
      omega
      done))
 iterate 2 (
  focus
  rename_i u0 hg u1 u2 u3 y hy h1 v1 v2 hc
  obtain ⟨i, R⟩ := y
  have hy : i ≤ (ll.take ln).length ∧ GOK bs.toNat so sb lo lb ((ll.take ln).take i) R ∧ ∀ j, j < i → pgBad bs ps (sl.take sn) (ll.take ln) j = false := hy
  have h1 : (i : Int) < (ln : Int) := ow h1
  first
   | (exact ⟨hs.1, by show sn < 4611686018427387904; omega, hs.2.2⟩
      done)
   | (have e1 : ((i : Int) - 1).toNat + 0 = i - 1 := by omega
      have hb : pgBad bs ps (sl.take sn) (ll.take ln) i = true := by
       unfold pgBad
       rw [tk_get (by omega), tk_get (by omega), ← e1]
       exact hc
      refine Ends.next (Ends.one () ⟨i, by show i < (ll.take ln).length; rw [tk_len hl.1]; omega, hb⟩ ?_)
      exact vgk
      done))
 iterate 3 (
  focus
  rename_i u0 hg u1 u2 u3 y hy h1 v1 v2 hc hcl
  obtain ⟨i, R⟩ := y
  have hy : i ≤ (ll.take ln).length ∧ GOK bs.toNat so sb lo lb ((ll.take ln).take i) R ∧ ∀ j, j < i → pgBad bs ps (sl.take sn) (ll.take ln) j = false := hy
  have h1 : (i : Int) < (ln : Int) := ow h1
  have e1 : ((i : Int) - 1).toNat + 0 = i - 1 := by omega
  have hb : pgBad bs ps (sl.take sn) (ll.take ln) i = false := by
   unfold pgBad
   rw [tk_get (by omega), tk_get (by omega), ← e1]
   exact hc
  have hf := pgBad_no hb
  rw [tk_get (by omega)] at hf
  have hLi : (ll.take ln).take (i + 1) = (ll.take ln).take i ++ [ll.getD i pg0] := by rw [take_snoc (d := pg0) (by rw [tk_len hl.1]; omega), tk_get (by omega)]
  have hbd : ∀ j, j < i + 1 → pgBad bs ps (sl.take sn) (ll.take ln) j = false := by
   intro j hj
   by_cases e : j = i
   · rw [e]; exact hb
   · exact hy.2.2 j (by omega)
  have hcl : ¬ (ll.getD i pg0).cl = 2 := ow hcl
  first
   | (exact hf.1
      done)
   | (show (ll.getD i pg0).pl.1 < (bs.toNat : Int)
      omega
      done)
   | (show (ll.getD i pg0).pl.1.toNat + 0 < R.length
      rw [hy.2.1.len]
      omega
      done))
 iterate 3 (
  focus
  rename_i u0 hg u1 u2 u3 y hy h1 v1 v2 hc hcl rA hrA u5
  obtain ⟨i, R⟩ := y
  have hy : i ≤ (ll.take ln).length ∧ GOK bs.toNat so sb lo lb ((ll.take ln).take i) R ∧ ∀ j, j < i → pgBad bs ps (sl.take sn) (ll.take ln) j = false := hy
  have h1 : (i : Int) < (ln : Int) := ow h1
  have e1 : ((i : Int) - 1).toNat + 0 = i - 1 := by omega
  have hb : pgBad bs ps (sl.take sn) (ll.take ln) i = false := by
   unfold pgBad
   rw [tk_get (by omega), tk_get (by omega), ← e1]
   exact hc
  have hf := pgBad_no hb
  rw [tk_get (by omega)] at hf
  have hLi : (ll.take ln).take (i + 1) = (ll.take ln).take i ++ [ll.getD i pg0] := by rw [take_snoc (d := pg0) (by rw [tk_len hl.1]; omega), tk_get (by omega)]
  have hbd : ∀ j, j < i + 1 → pgBad bs ps (sl.take sn) (ll.take ln) j = false := by
   intro j hj
   by_cases e : j = i
   · rw [e]; exact hb
   · exact hy.2.2 j (by omega)
  have hcl : ¬ (ll.getD i pg0).cl = 2 := ow hcl
  change Rw Pg at rA
  have hrA : R.getD (ll.getD i pg0).pl.1.toNat Rw.nil = rA := hrA
  have han : (ll.getD i pg0).pl.1.toNat < bs.toNat := by omega
  have hg1 := hy.2.1.row _ han
  have hg2 := hy.2.1.rok _ han
  rw [hrA] at hg1 hg2
  have hgl : rA.l.length < 1000000 := by
   rw [hg1]
   refine yp blkL_len ?_
   rw [zp, tk_len hl.1]
   omega
  first
   | (show rA.l.length = rA.l.length ∧ rA.l.length ≤ rA.m ∧ 0 + 1 ≤ _ ∧ 1 = 1 ∧ (rA.l.length + 1) * Tryd.prog.types[70].bytes ≤ _
      rw [byP]
      exact ⟨rfl, hg2.2, (zy 1 : 0 + 1 ≤ 1), rfl, by omega⟩
      done)
   | (exact hg2.1
      done)
   | (intro hon hroom
      have hon : rA.on = true := hon
      have hfar := hy.2.1.far _ han (by rw [hrA]; exact hon)
      have hex := hy.2.1.excl han (by rw [hrA]; exact hon)
      rw [hrA] at hfar hex
      refine ⟨⟨(ll.getD i pg0).pl.1.toNat, by show _ < R.length; rw [hy.2.1.len]; exact han, ?_, hex⟩, And.intro (fun hso => Ne.symm (hfar.1 hso)) (And.intro (fun hlo => Ne.symm (hfar.2 hlo)) trivial)⟩
      refine Eq.trans (b := rA) hrA ?_
      show rA = ⟨true, rA.b, rA.base, rA.m, rA.l⟩
      rw [← hon]
      done))
 iterate 6 (
  focus
  rename_i u0 hg u1 u2 u3 y hy h1 v1 v2 hc hcl rA hrA u5 bA qA cA hcA hS
  obtain ⟨i, R⟩ := y
  have hy : i ≤ (ll.take ln).length ∧ GOK bs.toNat so sb lo lb ((ll.take ln).take i) R ∧ ∀ j, j < i → pgBad bs ps (sl.take sn) (ll.take ln) j = false := hy
  have h1 : (i : Int) < (ln : Int) := ow h1
  have e1 : ((i : Int) - 1).toNat + 0 = i - 1 := by omega
  have hb : pgBad bs ps (sl.take sn) (ll.take ln) i = false := by
   unfold pgBad
   rw [tk_get (by omega), tk_get (by omega), ← e1]
   exact hc
  have hf := pgBad_no hb
  rw [tk_get (by omega)] at hf
  have hLi : (ll.take ln).take (i + 1) = (ll.take ln).take i ++ [ll.getD i pg0] := by rw [take_snoc (d := pg0) (by rw [tk_len hl.1]; omega), tk_get (by omega)]
  have hbd : ∀ j, j < i + 1 → pgBad bs ps (sl.take sn) (ll.take ln) j = false := by
   intro j hj
   by_cases e : j = i
   · rw [e]; exact hb
   · exact hy.2.2 j (by omega)
  have hcl : ¬ (ll.getD i pg0).cl = 2 := ow hcl
  change Rw Pg at rA
  have hrA : R.getD (ll.getD i pg0).pl.1.toNat Rw.nil = rA := hrA
  have han : (ll.getD i pg0).pl.1.toNat < bs.toNat := by omega
  have hg1 := hy.2.1.row _ han
  have hg2 := hy.2.1.rok _ han
  rw [hrA] at hg1 hg2
  have hgl : rA.l.length < 1000000 := by
   rw [hg1]
   refine yp blkL_len ?_
   rw [zp, tk_len hl.1]
   omega
  first
   | (exact hf.1
      done)
   | (show (ll.getD i pg0).pl.1 < (bs.toNat : Int)
      omega
      done)
   | (show (ll.getD i pg0).pl.1.toNat + 0 < R.length
      rw [hy.2.1.len]
      omega
      done)
   | (show rA.l.length + 1 = (rA.l ++ [ll.getD i pg0]).length
      simp
      done)
   | (exact inR64 (by show -9223372036854775808 ≤ (i : Int) + 1; omega) (by show (i : Int) + 1 ≤ 9223372036854775807; omega)
      done)
   | (have hput : GOK bs.toNat so sb lo lb ((ll.take ln).take (i + 1)) (R.set (ll.getD i pg0).pl.1.toNat ⟨true, bA, qA, cA, rA.l ++ [ll.getD i pg0]⟩) := by
       rw [hLi, hg1]
       refine hy.2.1.put han (by omega) hcl (by rw [← hg1]; exact hcA) ?_
       rw [hrA]
       rcases hS with hS | hS
       · exact .inl ⟨hS.1, hS.2.2.1⟩
       · have hF := freshL_to hS
         exact .inr ⟨fun hso e => (hF 0 (show 0 < 10 by decide)).1 hso e.symm, fun hlo e => (hF 1 (show 1 < 10 by decide)).1 hlo e.symm, fun r hr => (hF 3 (show 3 < 10 by decide)).2 63 r (.rows hr)⟩
      refine Stands.one (i + 1, R.set (ll.getD i pg0).pl.1.toNat ⟨true, bA, qA, cA, rA.l ++ [ll.getD i pg0]⟩) ⟨⟨by show i + 1 ≤ (ll.take ln).length; rw [tk_len hl.1]; omega, hput, hbd⟩, by show (ll.take ln).length - (i + 1) < (ll.take ln).length - i; rw [tk_len hl.1]; omega, ?_⟩
      exact vgk
      done))
 iterate 2 (
  focus
  rename_i u0 hg u1 u2 u3 y hy h1 v1 v2 hc hcl
  obtain ⟨i, R⟩ := y
  have hy : i ≤ (ll.take ln).length ∧ GOK bs.toNat so sb lo lb ((ll.take ln).take i) R ∧ ∀ j, j < i → pgBad bs ps (sl.take sn) (ll.take ln) j = false := hy
  have h1 : (i : Int) < (ln : Int) := ow h1
  have e1 : ((i : Int) - 1).toNat + 0 = i - 1 := by omega
  have hb : pgBad bs ps (sl.take sn) (ll.take ln) i = false := by
   unfold pgBad
   rw [tk_get (by omega), tk_get (by omega), ← e1]
   exact hc
  have hf := pgBad_no hb
  rw [tk_get (by omega)] at hf
  have hLi : (ll.take ln).take (i + 1) = (ll.take ln).take i ++ [ll.getD i pg0] := by rw [take_snoc (d := pg0) (by rw [tk_len hl.1]; omega), tk_get (by omega)]
  have hbd : ∀ j, j < i + 1 → pgBad bs ps (sl.take sn) (ll.take ln) j = false := by
   intro j hj
   by_cases e : j = i
   · rw [e]; exact hb
   · exact hy.2.2 j (by omega)
  have hcl : (ll.getD i pg0).cl = 2 := Decidable.of_not_not (ov hcl)
  first
   | (exact inR64 (by show -9223372036854775808 ≤ (i : Int) + 1; omega) (by show (i : Int) + 1 ≤ 9223372036854775807; omega)
      done)
   | (refine Stands.one (i + 1, R) ⟨⟨by show i + 1 ≤ (ll.take ln).length; rw [tk_len hl.1]; omega, by show GOK _ _ _ _ _ ((ll.take ln).take (i + 1)) _; rw [hLi]; exact hy.2.1.no hcl, hbd⟩, by show (ll.take ln).length - (i + 1) < (ll.take ln).length - i; rw [tk_len hl.1]; omega, ?_⟩
      exact vgk
      done))
 · rename_i u0 hg u1 u2 u3 y hy h1
   obtain ⟨i, R⟩ := y
   have hy : i ≤ (ll.take ln).length ∧ GOK bs.toNat so sb lo lb ((ll.take ln).take i) R ∧ ∀ j, j < i → pgBad bs ps (sl.take sn) (ll.take ln) j = false := hy
   have h1 : ¬ (i : Int) < (ln : Int) := ov h1
   have ei : i = (ll.take ln).length := by have := hy.1; rw [tk_len hl.1] at this ⊢; omega
   have hG : GOK bs.toNat so sb lo lb (ll.take ln) R := by
    have := hy.2.1
    rw [ei, zu (zy _)] at this
    exact this
   have hM := hG.mem (by rw [tk_len hl.1]; exact hl.2.1)
   have hgr := hG.grid
   have hbn : bs = (bs.toNat : Int) := by omega
   have hx : Cx.ok ⟨u3, 0, bs, ps, ss, so, sb, sq, sl, sn, sc, u1, 0, R, bs.toNat, bs.toNat, u2⟩ :=
    ⟨hbn, hG.len.symm, by show bs.toNat ≤ 64; omega, ⟨by show 0 ≤ ps; omega, hps.2⟩, ⟨by show 0 ≤ ss; omega, hss.2⟩, fun r hr => (hM r hr).1, fun r hr => (hM r hr).2, hs⟩
   exact hx
 · rename_i u0 hg u1 u2 u3 y hy h1 Y1 hY1
   obtain ⟨i, R⟩ := y
   have hy : i ≤ (ll.take ln).length ∧ GOK bs.toNat so sb lo lb ((ll.take ln).take i) R ∧ ∀ j, j < i → pgBad bs ps (sl.take sn) (ll.take ln) j = false := hy
   have h1 : ¬ (i : Int) < (ln : Int) := ov h1
   have ei : i = (ll.take ln).length := by have := hy.1; rw [tk_len hl.1] at this ⊢; omega
   have hG : GOK bs.toNat so sb lo lb (ll.take ln) R := by
    have := hy.2.1
    rw [ei, zu (zy _)] at this
    exact this
   have hM := hG.mem (by rw [tk_len hl.1]; exact hl.2.1)
   have hgr := hG.grid
   have hbn : bs = (bs.toNat : Int) := by omega
   have hx : Cx.ok ⟨u3, 0, bs, ps, ss, so, sb, sq, sl, sn, sc, u1, 0, R, bs.toNat, bs.toNat, u2⟩ :=
    ⟨hbn, hG.len.symm, by show bs.toNat ≤ 64; omega, ⟨by show 0 ≤ ps; omega, hps.2⟩, ⟨by show 0 ≤ ss; omega, hss.2⟩, fun r hr => (hM r hr).1, fun r hr => (hM r hr).2, hs⟩
   exact ⟨hx, hY1.1⟩
 · rename_i u0 hg u1 u2 u3 y hy h1 Y1 hY1 Y2 hY2
   obtain ⟨i, R⟩ := y
   have hy : i ≤ (ll.take ln).length ∧ GOK bs.toNat so sb lo lb ((ll.take ln).take i) R ∧ ∀ j, j < i → pgBad bs ps (sl.take sn) (ll.take ln) j = false := hy
   have h1 : ¬ (i : Int) < (ln : Int) := ov h1
   have ei : i = (ll.take ln).length := by have := hy.1; rw [tk_len hl.1] at this ⊢; omega
   have hG : GOK bs.toNat so sb lo lb (ll.take ln) R := by
    have := hy.2.1
    rw [ei, zu (zy _)] at this
    exact this
   have hM := hG.mem (by rw [tk_len hl.1]; exact hl.2.1)
   have hgr := hG.grid
   have hbn : bs = (bs.toNat : Int) := by omega
   have hx : Cx.ok ⟨u3, 0, bs, ps, ss, so, sb, sq, sl, sn, sc, u1, 0, R, bs.toNat, bs.toNat, u2⟩ :=
    ⟨hbn, hG.len.symm, by show bs.toNat ≤ 64; omega, ⟨by show 0 ≤ ps; omega, hps.2⟩, ⟨by show 0 ≤ ss; omega, hss.2⟩, fun r hr => (hM r hr).1, fun r hr => (hM r hr).2, hs⟩
   refine ⟨hx, hY1.1, ?_, ?_⟩
   · have h9 := hY2.1
     have e : _ = _ := h9.1
     rw [← e] at h9
     exact h9
   · have e : _ = _ := hY2.1.1
     rw [e]
     exact yz sloL_len (keyL_len ⟨⟨by show 0 ≤ bs; omega, by show bs ≤ 64; omega⟩, ⟨by show 0 ≤ ps; omega, hps.2⟩, ⟨by show 0 ≤ ss; omega, hss.2⟩⟩)
 · rename_i u0 hg u1 u2 u3 y hy h1 Y1 hY1 Y2 hY2 Y3 hY3
   obtain ⟨i, R⟩ := y
   have hy : i ≤ (ll.take ln).length ∧ GOK bs.toNat so sb lo lb ((ll.take ln).take i) R ∧ ∀ j, j < i → pgBad bs ps (sl.take sn) (ll.take ln) j = false := hy
   have h1 : ¬ (i : Int) < (ln : Int) := ov h1
   have ei : i = (ll.take ln).length := by have := hy.1; rw [tk_len hl.1] at this ⊢; omega
   have hG : GOK bs.toNat so sb lo lb (ll.take ln) R := by
    have := hy.2.1
    rw [ei, zu (zy _)] at this
    exact this
   have hM := hG.mem (by rw [tk_len hl.1]; exact hl.2.1)
   have hgr := hG.grid
   have hbn : bs = (bs.toNat : Int) := by omega
   have hx : Cx.ok ⟨u3, 0, bs, ps, ss, so, sb, sq, sl, sn, sc, u1, 0, R, bs.toNat, bs.toNat, u2⟩ :=
    ⟨hbn, hG.len.symm, by show bs.toNat ≤ 64; omega, ⟨by show 0 ≤ ps; omega, hps.2⟩, ⟨by show 0 ≤ ss; omega, hss.2⟩, fun r hr => (hM r hr).1, fun r hr => (hM r hr).2, hs⟩
   have hbd : ∀ j, j < (ll.take ln).length → pgBad bs ps (sl.take sn) (ll.take ln) j = false := by
    intro j hj
    exact hy.2.2 j (by omega)
   have hA : Gth (sloS ⟨bs, ps, ss⟩ bs.toNat (R.map fun r => r.l)) Y2.1 ∧ Gth (orfS bs.toNat (R.map fun r => r.l)) Y2.2 := hY2
   have eA : _ = _ := hA.1.1
   have hB : Gth (freS (sl.take sn) bs.toNat (R.map fun r => r.l)) Y3.1 ∧ Gth (numL (dirP (sl.take sn) bs.toNat (R.map fun r => r.l) (nmOf bs.toNat (R.map fun r => r.l)).f (Y2.1.2.2.2.1.take Y2.1.2.2.2.2.1)) bs.toNat) Y3.2 := hY3
   rw [eA] at hB
   have hC : Gth (badL bs.toNat (R.map fun r => r.l)) Y1.2.2 := hY1.2
   have e1 : fTo (mxH Me.seq) allF (R.map fun r => r.l) bs.toNat = (nmOf bs.toNat (gridL bs.toNat (ll.take ln))).s := by rw [← hgr]; rfl
   have e2 : fTo (mxH Me.stamp) allF (R.map fun r => r.l) bs.toNat = (nmOf bs.toNat (gridL bs.toNat (ll.take ln))).t := by rw [← hgr]; rfl
   have e3 : max (fTo (mxH Me.batch) allF (R.map fun r => r.l) bs.toNat) (fTo flH (cntF bs.toNat (R.map fun r => r.l)) (R.map fun r => r.l) bs.toNat) = (nmOf bs.toNat (gridL bs.toNat (ll.take ln))).b := by rw [← hgr]; rfl
   have e4 : fTo flH (cntF bs.toNat (R.map fun r => r.l)) (R.map fun r => r.l) bs.toNat = (nmOf bs.toNat (gridL bs.toNat (ll.take ln))).f := by rw [← hgr]; rfl
   rw [hgr] at hA hB hC
   refine Ends.one (Y2.1, Y3.1, Y3.2, Y1.2.2, Y2.2) ⟨hbd, hA.1, hB.1, hB.2, hC, hA.2⟩ ?_
   ((conv => arg 1; reduce); with_reducible repeat' first | exact ty | refine ta ?_ ?_ | refine ti fun _ => ?_ | refine tf fun _ => ?_ | refine tl ?_)
   all_goals first | exact vlk | exact e1 | exact e1.symm | exact e2 | exact e2.symm | exact e3 | exact e3.symm | exact e4 | exact e4.symm
end Go.Vx.Sc
namespace Go.Vx.Sc
open Go Go.Proofs
variable [Gl]
end Go.Vx.Sc
namespace Go.Vx.Sc
open Go Go.Proofs
variable [Gl]
end Go.Vx.Sc
namespace Go.Vx.Sc
open Go Go.Proofs
variable [Gl]
end Go.Vx.Sc
namespace Go.Vx.Sc
open Go Go.Proofs
variable [Gl]
end Go.Vx.Sc
namespace Go.Vx.Sc
open Go Go.Proofs
variable [Gl]
abbrev sqN {α : Type} : Sq α := (false, 0, 0, [], 0, 0)
def OfPre : Int × Int × Int × Sq Int × Sq Pg → Prop
 | (bs, ps, ss, s, l) => (1 ≤ bs ∧ bs ≤ 64) ∧ (1 ≤ ps ∧ ps ≤ 64) ∧ (1 ≤ ss ∧ ss ≤ 536870912) ∧
   (s.2.2.2.2.1 ≤ s.2.2.2.1.length ∧ s.2.2.2.2.1 < 1000000000 ∧ (s.1 = false → s.2.2.2.2.1 = 0 ∧ s.2.2.2.2.2 = 0)) ∧
   (l.2.2.2.2.1 ≤ l.2.2.2.1.length ∧ l.2.2.2.2.1 < 1000000 ∧ (l.1 = false → l.2.2.2.2.1 = 0 ∧ l.2.2.2.2.2 = 0))
noncomputable def fcOf : Fc Tryd.prog C0 where
 tg := .fn 30
 X := Int × Int × Int × Sq Int × Sq Pg
 args := fun (bs, ps, ss, s, l) => [.int .i64 bs, .int .i64 ps, .int .i64 ss, svI 0 s, svP 1 l]
 mem := fun (bs, ps, ss, s, l) => [chK s, chP l]
 pre := OfPre
 alts := fun (bs, ps, ss, s, l) => [⟨Sq Slot × Sq Int × Sq Int × Sq Int × Sq Pl, OfS ⟨bs, ps, ss⟩ s.li l.li,
  fun y => .tup [resA (nmOf bs.toNat (gridL bs.toNat l.li)) y.1 y.2.1 y.2.2.1 y.2.2.2.1 y.2.2.2.2, .nili],
  fun y => [chK s, chP l, chL y.1, chI y.2.1, chI y.2.2.1, chI y.2.2.2.1, chO y.2.2.2.2]⟩,
  ⟨Unit, fun _ => ∃ j, j < l.li.length ∧ pgBad bs ps s.li l.li j = true, fun _ => .tup [resN, errSV 4], fun _ => [chK s, chP l]⟩]
 mat vs m := match vs with
  | [.int _ bs, .int _ ps, .int _ ss, .nils, .sl a 0 n c] => match nth m a with
    | ⟨b, q, _, _, g, .rows 70 l⟩ => some ((bs, ps, ss, sqN, (onOf g, b, q, l, n, c)), [m.length, a])
    | _ => none
  | [.int _ bs, .int _ ps, .int _ ss, .nils, .nils] => some ((bs, ps, ss, sqN, sqN), [m.length, m.length + 1])
  | _ => none
 ok := fun (bs, ps, ss, s, l) h => of_ok bs ps ss h.1 h.2.1 h.2.2.1 s l h.2.2.2.1 h.2.2.2.2
end Go.Vx.Sc
namespace Go.Vx
open Go Go.Proofs
variable [Gl]
@[irreducible] def hI (W : List Pg) (i : Nat) : Nat := ((W.take i).filter pz).length
def SI (B : List Slot) (W : List Pg) (s i : Nat) : Prop := s ≤ B.length ∧ (B.take s).filterMap slP = (W.take i).filter fun x => !pz x
section
variable {f : Int} {A : List Pl} {B : List Slot} {W : List Pg} {i s : Nat}
theorem pz_t {x : Pg} (h : x.pl.2 = 0) : pz x = true := decide_eq_true h
theorem pz_f {x : Pg} (h : x.pl.2 ≠ 0) : pz x = false := decide_eq_false h
theorem hI_zero : hI W 0 = 0 := by unfold hI; rw [xv]; rfl
theorem SI.zero : SI B W 0 0 := ⟨zn _, by rw [xv, xv]; rfl⟩
theorem pgs_up (P : PgsOf f A B W) (h : 0 < i) (hi : i < W.length) : pLt (W.getD (i - 1) pgZ).pl (W.getD i pgZ).pl := by
 have := List.pairwise_iff_getElem.1 P.up (i - 1) i (by omega) hi (by omega)
 simpa only [zz, zv hi, zv (show i - 1 < W.length by omega), zb] using this
theorem pgs_wh (P : PgsOf f A B W) (hi : i < W.length) : (W.getD i pgZ).cl = 1 ∧ (0 ≤ (W.getD i pgZ).pl.1 ∧ (W.getD i pgZ).pl.1 < 64) ∧ 0 ≤ (W.getD i pgZ).pl.2 ∧ (W.getD i pgZ).pl.2 < 64 := P.wh _ (getD_mem' hi)
theorem cut_at (hi : i < W.length) : W = W.take i ++ W.getD i pgZ :: W.drop (i + 1) := by
 conv => lhs; rw [← zc i W, drop_cons' (d := pgZ) hi]
theorem head_at (P : PgsOf f A B W) (hi : i < W.length) (hz : (W.getD i pgZ).pl.2 = 0) : hI W i < A.length ∧ hdP f (A.getD (hI W i) (0, 0)) = W.getD i pgZ ∧ hI W (i + 1) = hI W i + 1 := by
 have e := congrArg (List.filter pz) (cut_at hi)
 rw [P.hd, ze, yw (by exact decide_eq_true hz)] at e
 have hl := congrArg vn e
 rw [zt, zw, xz] at hl
 have h1 : hI W i < A.length := by unfold hI; omega
 refine ⟨h1, ?_, ?_⟩
 · have h2 : (A.map (hdP f)).getD (hI W i) pgZ = W.getD i pgZ := by
    rw [e]; exact getD_app_mid (by unfold hI; rfl)
   rw [← h2]
   simp only [zz, zh, zv h1, Option.map_some, zb]
 · unfold hI
   rw [take_snoc' (d := pgZ) hi, ze, zw, yw (by exact decide_eq_true hz)]
   rfl
theorem head_sl (hi : i < W.length) (hz : (W.getD i pgZ).pl.2 = 0) (h : SI B W s i) : SI B W s (i + 1) := by
 refine ⟨h.1, ?_⟩
 rw [take_snoc' (d := pgZ) hi, ze, yj (by show ¬ (!pz _) = true; rw [pz_t hz]; decide), yg, zk]
 exact h.2
theorem slot_hI (hi : i < W.length) (hz : (W.getD i pgZ).pl.2 ≠ 0) : hI W (i + 1) = hI W i := by
 unfold hI
 rw [take_snoc' (d := pgZ) hi, ze, yj (by rw [pz_f hz]; decide), yg, zk]
theorem slot_rest (P : PgsOf f A B W) (hi : i < W.length) (hz : (W.getD i pgZ).pl.2 ≠ 0) (h : SI B W s i) : (B.drop s).filterMap slP = W.getD i pgZ :: (W.drop (i + 1)).filter fun x => !pz x := by
 have e := congrArg (List.filter fun x => !pz x) (cut_at hi)
 rw [P.sl, ze, yw (by show (!pz _) = true; rw [pz_f hz]; rfl), ← h.2] at e
 conv at e => lhs; rw [← zc s B, ve]
 exact List.append_cancel_left e
theorem slot_no (P : PgsOf f A B W) (hi : i < W.length) (hz : (W.getD i pgZ).pl.2 ≠ 0) (h : SI B W s i) : s < B.length := by
 rcases xr s B.length with h1 | h1
 · exact h1
 · have := slot_rest P hi hz h
   rw [List.drop_eq_nil_of_le h1] at this
   cases this
theorem slot_skip (hs : s < B.length) (hz : (B.getD s slot0).pl.2 = 0) (h : SI B W s i) : SI B W (s + 1) i := by
 refine ⟨hs, ?_⟩
 have e : slP (B.getD s slot0) = none := by unfold slP; rw [if_neg (by omega)]
 rw [take_snoc' (d := slot0) hs, ve, List.filterMap_cons_none e, sy, zk]
 exact h.2
theorem slot_at (F : OkF A B) (P : PgsOf f A B W) (hi : i < W.length) (hz : (W.getD i pgZ).pl.2 ≠ 0) (h : SI B W s i) (hs : s < B.length) (hn : (B.getD s slot0).pl.2 ≠ 0) : W.getD i pgZ = ⟨(B.getD s slot0).pl, 1, (B.getD s slot0).me⟩ ∧ SI B W (s + 1) (i + 1) := by
 have e : slP (B.getD s slot0) = some ⟨(B.getD s slot0).pl, 1, (B.getD s slot0).me⟩ := by
  have := (F.bi _ (getD_mem' (d := slot0) hs)).2.1
  unfold slP; rw [if_pos (by omega)]
 have e1 := slot_rest P hi hz h
 rw [drop_cons' (d := slot0) hs, tb e] at e1
 have e2 := (List.cons.inj e1).1
 refine ⟨e2.symm, hs, ?_⟩
 rw [take_snoc' (d := slot0) hs, ve, tb e, sy, take_snoc' (d := pgZ) hi, ze, yw (by show (!pz _) = true; rw [pz_f hz]; rfl), yg, h.2, e2]
theorem slot_end (F : OkF A B) (P : PgsOf f A B W) (h : SI B W s W.length) (hs : s < B.length) : (B.getD s slot0).pl.2 = 0 := by
 refine Decidable.byContradiction fun hn => ?_
 have e : slP (B.getD s slot0) = some ⟨(B.getD s slot0).pl, 1, (B.getD s slot0).me⟩ := by
  have := (F.bi _ (getD_mem' (d := slot0) hs)).2.1
  unfold slP; rw [if_pos (by omega)]
 have e1 := h.2
 rw [rt, P.sl] at e1
 conv at e1 => rhs; rw [← zc s B, ve, drop_cons' (d := slot0) hs, tb e]
 have := congrArg vn e1
 rw [zw, xz] at this
 omega
theorem hI_end (P : PgsOf f A B W) : hI W W.length = A.length := by
 unfold hI
 rw [rt, P.hd, zt]
theorem pgs_good (P : PgsOf f A B W) {j : Nat} (hj : j < W.length) : Sc.pgBad 64 64 [] W j = false := by
 obtain ⟨h1, ⟨h2, h3⟩, h4, h5⟩ := pgs_wh P hj
 have e : ∀ k, W.getD k Sc.pg0 = W.getD k pgZ := fun k => rfl
 unfold Sc.pgBad
 rw [e, e, h1]
 have hu : 0 < j → ¬ 0 ≤ Sc.plc (W.getD (j - 1) pgZ).pl (W.getD j pgZ).pl := fun h0 => by
  have := Sc.plc_lt.2 (pgs_up P h0 hj)
  omega
 have hu : (decide (0 < (j : Int)) && decide (0 ≤ Sc.plc (W.getD (j - 1) pgZ).pl (W.getD j pgZ).pl)) = false := by
  rw [Bool.and_eq_false_iff, decide_eq_false_iff_not, decide_eq_false_iff_not]
  rcases Nat.eq_zero_or_pos j with h0 | h0
  · exact .inl (by omega)
  · exact .inr (hu h0)
 rw [hu, decide_eq_true h2, decide_eq_true h3, decide_eq_true h4, decide_eq_true h5]
 unfold Sc.anyF
 rfl
end
abbrev PX := Gx Pg × List Pg × Nat × Nat
abbrev pgMem (y : Gx Pg) : List (Ck C0) → List (Ck C0)
 | a0 :: a1 :: bx :: k1 :: k2 :: _ => [a0, a1, bx, k1, k2, ⟨y.2.2.1, y.2.2.2.1, 9, true, some y.2.1, .rows 70 y.2.2.2.2.1⟩]
 | m => m
def PI (f : Int) (A : List Pl) (B : List Slot) (x : PX) : Prop := PgsOf f A B x.2.1 ∧ Grw x.2.1 x.1.2.2.2.2.1 x.1.2.1 x.1.1 x.1.2.2.2.2.2 ∧ x.2.2.1 ≤ x.2.1.length ∧ SI B x.2.1 x.2.2.2 x.2.2.1
abbrev pgTm (x : PX) : Tm := [(4, .sl 5 0 x.1.1 x.1.2.2.2.2.2), (5, .int .i64 (hI x.2.1 x.2.2.1 : Nat)), (6, .int .i64 (x.2.2.2 : Int)), (7, .int .i64 (x.2.2.1 : Int))]
def P8 (f : Int) (A : List Pl) (B : List Slot) : Inv' C0 := ⟨8, PX, pgTm, fun x m => pgMem x.1 m, fun x => PI f A B x, fun x => A.length + B.length - x.2.2.1⟩
def P17 (f : Int) (A : List Pl) (B : List Slot) : Inv' C0 := ⟨17, PX, pgTm, fun x m => pgMem x.1 m, fun x => PI f A B x ∧ x.2.2.1 < x.2.1.length ∧ (x.2.1.getD x.2.2.1 pgZ).pl.2 ≠ 0, fun x => B.length - x.2.2.2⟩
def P22 (f : Int) (A : List Pl) (B : List Slot) : Inv' C0 := ⟨22, PX, pgTm, fun x m => pgMem x.1 m, fun x => PI f A B x ∧ x.2.2.1 = x.2.1.length, fun x => B.length - x.2.2.2⟩
end Go.Vx
namespace Go.Vx
open Go Go.Proofs
variable [Gl]
theorem grw_ok {α : Type} {L l : List α} {o : Bool} {b q i c : Nat} (h : Grw L l o i c) : Sq.ok (o, b, q, l, i, c) := ⟨h.2.2.1, yz h.2.2.1 h.2.2.2.1, h.2.2.2.2⟩
theorem pg_d0 {h' : Hd} {l : List (Rw Int)} {n c n2 c2 : Nat} {o o2 : Bool} {b q b2 q2 : Nat} {l2 : List Slot} (h1 : Sq.ok (o, b, q, l, n, c)) (h2 : Sq.ok (o2, b2, q2, l2, n2, c2)) (hr : ∀ r ∈ l.take n, Rok r)
 (d : (!fr (l.take n) n2 || !okP h' ((l.take n).map blkOf) (l2.take n2)) = false) : n ≤ 70 ∧ n2 ≤ 100 ∧ (∀ r ∈ l.take n, Rok r ∧ r.l.length = 2) ∧ OkF ((l.take n).map blkOf) (l2.take n2) := by
 simp only [yi, Bool.not_eq_false'] at d
 obtain ⟨e1, e2, e3⟩ := fr_iff.1 d.1
 rw [tk_len (h1.2.1)] at e1
 exact ⟨e1, e2, fun r hm => ⟨hr r hm, e3 r hm⟩, okP_facts d.2⟩
theorem fx_of {W l : List Pg} {o : Bool} {k c i : Nat} (G : Grw W l o k c) (hi : i < k) : o = true ∧ i < W.length ∧ i < l.length ∧ ∀ j, j ≤ i → l.getD j pgZ = W.getD j pgZ := by
 obtain ⟨g1, g2, g3, g4, g5⟩ := G
 refine ⟨?_, by omega, by omega, fun j hj => ?_⟩
 · cases o with
   | true => rfl
   | false => have := (g5 rfl).1; omega
 · rw [← g2, tk_at (by omega)]
theorem blk_is (r : Rw Int) : blkOf r = (r.l.getD 0 0, r.l.getD 1 0) := by unfold blkOf; rfl
theorem pg_at {l : List (Rw Int)} {n k : Nat} (h : k < n) : ((l.take n).map blkOf).getD k (0, 0) = blkOf (l.getD k Rw.nil) := by
 simp only [zz, zh, List.getElem?_take_of_lt h]
 cases l[k]? with
 | none => rw [blk_is]; rfl
 | some r => rfl
theorem eqMe_rfl (m : Me) : eqMe m m = true := by simp [eqMe]
set_option maxHeartbeats 16000000 in
theorem pagesL_ok (h : Hd) (o : Bool) (b q : Nat) (l : List (Rw Int)) (n c : Nat) (o2 : Bool) (b2 q2 : Nat) (l2 : List Slot) (n2 c2 : Nat)
 (h1 : Sq.ok (o, b, q, l, n, c)) (h2 : Sq.ok (o2, b2, q2, l2, n2, c2)) (hr : ∀ r ∈ l.take n, Rok r) :
 Tells (C := C0) Tryd.prog (.fn 7) [⟨b, q, 1, false, some o, .rows 71 l⟩, ⟨b2, q2, 9, false, some o2, .rows 74 l2⟩] [ptv h (.sl 0 0 n c) (.sl 1 0 n2 c2)] (.bool .t) := by
 have hnl : n ≤ l.length := h1.2.1
 have hnl2 : n2 ≤ l2.length := h2.2.1
 refine loc_pc (P := Tryd.prog) (E := ⟨[fcMade, fcPages, Sc.fcOf], [pcFirst, pcFair, pcRpmay, pcSameMeta, pcSamePlace], 240, [], [fI], []⟩) (L := [P8 h.2.2.2 ((l.take n).map blkOf) (l2.take n2), P17 h.2.2.2 ((l.take n).map blkOf) (l2.take n2), P22 h.2.2.2 ((l.take n).map blkOf) (l2.take n2)]) mix Tryd.func7 rfl (by kernel_rfl) (by kernel_rfl) rfl rfl ?_
 ((conv => arg 1; reduce); with_reducible repeat' first | exact ty | refine ta ?_ ?_ | refine ti fun _ => ?_ | refine tf fun _ => ?_ | refine tl ?_)
 all_goals try exact vlf
 · exact ⟨h1.2.1, h1.2.2⟩
 · rename_i u0 d0
   obtain ⟨e1, e2, e3⟩ := fr_iff.1 (by simpa using d0)
   rw [tk_len hnl] at e1
   exact ⟨h1, h2, fun r hm => ⟨hr r hm, e3 r hm⟩, by omega, by omega⟩
 · rename_i u0 d0
   obtain ⟨hn, hn2, hR, FO⟩ := pg_d0 h1 h2 hr d0
   exact ⟨h1, h2, hR, hn, hn2⟩
 · rename_i u0 d0 mk hmk
   obtain ⟨hn, hn2, hR, FO⟩ := pg_d0 h1 h2 hr d0
   obtain ⟨m1, m2⟩ := hmk
   have m1 : Grw ((l.take n).map blkOf) mk.1.2.2.2.2.1 mk.1.2.1 n mk.1.2.2.2.2.2 := m1
   have m2 : Grw (l2.take n2) mk.2.2.2.2.2.1 mk.2.2.1 n2 mk.2.2.2.2.2.2 := m2
   refine ⟨grw_ok m1, grw_ok m2, hn, hn2, fun x hx => ?_, fun x hx => ?_⟩
   · have hx : x ∈ mk.1.2.2.2.2.1.take n := hx
     rw [m1.2.1] at hx
     exact ⟨(FO.ai x hx).1, qu (FO.ai x hx).2⟩
   · have hx : x ∈ mk.2.2.2.2.2.1.take n2 := hx
     rw [m2.2.1] at hx
     obtain ⟨⟨e1, e2⟩, e3, e4⟩ := FO.bi x hx
     exact ⟨e1, qu e2, e3, qu e4⟩
 · rename_i u0 d0 mk hmk pg hpg
   obtain ⟨hn, hn2, hR, FO⟩ := pg_d0 h1 h2 hr d0
   obtain ⟨m1, m2⟩ := hmk
   have m1 : Grw ((l.take n).map blkOf) mk.1.2.2.2.2.1 mk.1.2.1 n mk.1.2.2.2.2.2 := m1
   have m2 : Grw (l2.take n2) mk.2.2.2.2.2.1 mk.2.2.1 n2 mk.2.2.2.2.2.2 := m2
   obtain ⟨W, w1, w2, w3⟩ := hpg
   have w1 : W.Perm ((mk.1.2.2.2.2.1.take n).map (hdP h.2.2.2) ++ (mk.2.2.2.2.2.1.take n2).filterMap slP) := w1
   rw [m1.2.1, m2.2.1] at w1
   refine Stands.one (pg, W, 0, 0) ⟨⟨pgs_of FO w1 w2, w3, zn _, SI.zero⟩, ?_⟩
   ((conv => arg 1; reduce); with_reducible repeat' first | exact ty | refine ta ?_ ?_ | refine ti fun _ => ?_ | refine tf fun _ => ?_ | refine tl ?_)
   all_goals first | exact vlf | (show (0 : Int) = ((hI W 0 : Nat) : Int); rw [hI_zero]; rfl)
 iterate 4 (
  focus
  rename_i u0 d0 mk hmk pg hpg x hx g
  obtain ⟨hn, hn2, hR, FO⟩ := pg_d0 h1 h2 hr d0
  obtain ⟨y, W, i, s⟩ := x
  obtain ⟨P, G, hi, S⟩ := hx
  have P : PgsOf h.2.2.2 ((l.take n).map blkOf) (l2.take n2) W := P
  have G : Grw W y.2.2.2.2.1 y.2.1 y.1 y.2.2.2.2.2 := G
  have S : SI (l2.take n2) W s i := S
  have hi : i ≤ W.length := hi
  have hw : W.length ≤ n + n2 := by have := P.len; rw [zt, tk_len hnl, tk_len hnl2] at this; exact this
  have g : i < y.1 := Int.ofNat_lt.1 (ow g)
  obtain ⟨yo, iw, il, at'⟩ := fx_of G g
  have q1 : ((i : Int)).toNat + 0 = i := by omega
  have q2 : ((i : Int) - 1).toNat + 0 = i - 1 := by omega
  first
   | exact yo
   | exact Int.ofNat_lt.2 g
   | (show ((i : Int)).toNat + 0 < y.2.2.2.2.1.length; omega)
   | (show (0 : Int) ≤ (i : Int) - 1; omega)
   | (show (i : Int) - 1 < (y.1 : Int); omega)
   | (show ((i : Int) - 1).toNat + 0 < y.2.2.2.2.1.length; omega)
   | exact inR64 (by show _ ≤ (i : Int) - 1; omega) (by show (i : Int) - 1 ≤ _; omega))
 iterate 10 (
  focus
  rename_i u0 d0 mk hmk pg hpg x hx g c1 c2
  obtain ⟨hn, hn2, hR, FO⟩ := pg_d0 h1 h2 hr d0
  obtain ⟨y, W, i, s⟩ := x
  obtain ⟨P, G, hi, S⟩ := hx
  have P : PgsOf h.2.2.2 ((l.take n).map blkOf) (l2.take n2) W := P
  have G : Grw W y.2.2.2.2.1 y.2.1 y.1 y.2.2.2.2.2 := G
  have S : SI (l2.take n2) W s i := S
  have hi : i ≤ W.length := hi
  have hw : W.length ≤ n + n2 := by have := P.len; rw [zt, tk_len hnl, tk_len hnl2] at this; exact this
  have g : i < y.1 := Int.ofNat_lt.1 (ow g)
  obtain ⟨yo, iw, il, at'⟩ := fx_of G g
  have q1 : ((i : Int)).toNat + 0 = i := by omega
  have q2 : ((i : Int) - 1).toNat + 0 = i - 1 := by omega
  have c2 : 0 < i := Int.ofNat_lt.1 (ow c2)
  first
   | exact yo
   | exact Int.ofNat_lt.2 g
   | (show ((i : Int)).toNat + 0 < y.2.2.2.2.1.length; omega)
   | (show (0 : Int) ≤ (i : Int) - 1; omega)
   | (show (i : Int) - 1 < (y.1 : Int); omega)
   | (show ((i : Int) - 1).toNat + 0 < y.2.2.2.2.1.length; omega)
   | exact inR64 (by show _ ≤ (i : Int) - 1; omega) (by show (i : Int) - 1 ≤ _; omega))
 iterate 10 (
  focus
  rename_i u0 d0 mk hmk pg hpg x hx g c1 c2 c3
  obtain ⟨hn, hn2, hR, FO⟩ := pg_d0 h1 h2 hr d0
  obtain ⟨y, W, i, s⟩ := x
  obtain ⟨P, G, hi, S⟩ := hx
  have P : PgsOf h.2.2.2 ((l.take n).map blkOf) (l2.take n2) W := P
  have G : Grw W y.2.2.2.2.1 y.2.1 y.1 y.2.2.2.2.2 := G
  have S : SI (l2.take n2) W s i := S
  have hi : i ≤ W.length := hi
  have hw : W.length ≤ n + n2 := by have := P.len; rw [zt, tk_len hnl, tk_len hnl2] at this; exact this
  have g : i < y.1 := Int.ofNat_lt.1 (ow g)
  obtain ⟨yo, iw, il, at'⟩ := fx_of G g
  have q1 : ((i : Int)).toNat + 0 = i := by omega
  have q2 : ((i : Int) - 1).toNat + 0 = i - 1 := by omega
  have c2 : 0 < i := Int.ofNat_lt.1 (ow c2)
  first
   | exact yo
   | exact Int.ofNat_lt.2 g
   | (show ((i : Int)).toNat + 0 < y.2.2.2.2.1.length; omega)
   | (show (0 : Int) ≤ (i : Int) - 1; omega)
   | (show (i : Int) - 1 < (y.1 : Int); omega)
   | (show ((i : Int) - 1).toNat + 0 < y.2.2.2.2.1.length; omega)
   | exact inR64 (by show _ ≤ (i : Int) - 1; omega) (by show (i : Int) - 1 ≤ _; omega))
 iterate 10 (
  focus
  rename_i u0 d0 mk hmk pg hpg x hx g c1 c2 c3 c4
  obtain ⟨hn, hn2, hR, FO⟩ := pg_d0 h1 h2 hr d0
  obtain ⟨y, W, i, s⟩ := x
  obtain ⟨P, G, hi, S⟩ := hx
  have P : PgsOf h.2.2.2 ((l.take n).map blkOf) (l2.take n2) W := P
  have G : Grw W y.2.2.2.2.1 y.2.1 y.1 y.2.2.2.2.2 := G
  have S : SI (l2.take n2) W s i := S
  have hi : i ≤ W.length := hi
  have hw : W.length ≤ n + n2 := by have := P.len; rw [zt, tk_len hnl, tk_len hnl2] at this; exact this
  have g : i < y.1 := Int.ofNat_lt.1 (ow g)
  obtain ⟨yo, iw, il, at'⟩ := fx_of G g
  have q1 : ((i : Int)).toNat + 0 = i := by omega
  have q2 : ((i : Int) - 1).toNat + 0 = i - 1 := by omega
  have c2 : 0 < i := Int.ofNat_lt.1 (ow c2)
  first
   | exact yo
   | exact Int.ofNat_lt.2 g
   | (show ((i : Int)).toNat + 0 < y.2.2.2.2.1.length; omega)
   | (show (0 : Int) ≤ (i : Int) - 1; omega)
   | (show (i : Int) - 1 < (y.1 : Int); omega)
   | (show ((i : Int) - 1).toNat + 0 < y.2.2.2.2.1.length; omega)
   | exact inR64 (by show _ ≤ (i : Int) - 1; omega) (by show (i : Int) - 1 ≤ _; omega))
 · rename_i u0 d0 mk hmk pg hpg x hx g c1
   obtain ⟨hn, hn2, hR, FO⟩ := pg_d0 h1 h2 hr d0
   obtain ⟨y, W, i, s⟩ := x
   obtain ⟨P, G, hi, S⟩ := hx
   have P : PgsOf h.2.2.2 ((l.take n).map blkOf) (l2.take n2) W := P
   have G : Grw W y.2.2.2.2.1 y.2.1 y.1 y.2.2.2.2.2 := G
   have S : SI (l2.take n2) W s i := S
   have hi : i ≤ W.length := hi
   have hw : W.length ≤ n + n2 := by have := P.len; rw [zt, tk_len hnl, tk_len hnl2] at this; exact this
   have g : i < y.1 := Int.ofNat_lt.1 (ow g)
   obtain ⟨yo, iw, il, at'⟩ := fx_of G g
   have q1 : ((i : Int)).toNat + 0 = i := by omega
   have q2 : ((i : Int) - 1).toNat + 0 = i - 1 := by omega
   exfalso
   have c1 : (decide ((y.2.2.2.2.1.getD ((i : Int).toNat + 0) pgZ).cl ≠ 1) || (decide (0 < (i : Int)) && (decide ((y.2.2.2.2.1.getD ((i : Int).toNat + 0) pgZ).pl.1 < (y.2.2.2.2.1.getD (((i : Int) - 1).toNat + 0) pgZ).pl.1) || (decide ((y.2.2.2.2.1.getD (((i : Int) - 1).toNat + 0) pgZ).pl.1 = (y.2.2.2.2.1.getD ((i : Int).toNat + 0) pgZ).pl.1) && decide ((y.2.2.2.2.1.getD ((i : Int).toNat + 0) pgZ).pl.2 ≤ (y.2.2.2.2.1.getD (((i : Int) - 1).toNat + 0) pgZ).pl.2))))) = true := c1
   rw [q1, q2, at' i (zy _), at' (i - 1) (Nat.sub_le _ _)] at c1
   simp only [yr, Bool.and_eq_true, decide_eq_true_eq] at c1
   have e1 := pgs_wh P iw
   rcases c1 with c1 | ⟨c2, c1⟩
   · exact c1 e1.1
   · have e2 := pgs_up P (Int.ofNat_lt.1 c2) iw
     unfold pLt at e2
     omega
 iterate 4 (
  focus
  rename_i u0 d0 mk hmk pg hpg x hx g c1
  obtain ⟨hn, hn2, hR, FO⟩ := pg_d0 h1 h2 hr d0
  obtain ⟨y, W, i, s⟩ := x
  obtain ⟨P, G, hi, S⟩ := hx
  have P : PgsOf h.2.2.2 ((l.take n).map blkOf) (l2.take n2) W := P
  have G : Grw W y.2.2.2.2.1 y.2.1 y.1 y.2.2.2.2.2 := G
  have S : SI (l2.take n2) W s i := S
  have hi : i ≤ W.length := hi
  have hw : W.length ≤ n + n2 := by have := P.len; rw [zt, tk_len hnl, tk_len hnl2] at this; exact this
  have g : i < y.1 := Int.ofNat_lt.1 (ow g)
  obtain ⟨yo, iw, il, at'⟩ := fx_of G g
  have q1 : ((i : Int)).toNat + 0 = i := by omega
  have q2 : ((i : Int) - 1).toNat + 0 = i - 1 := by omega
  first
   | exact yo
   | exact Int.ofNat_lt.2 g
   | (show ((i : Int)).toNat + 0 < y.2.2.2.2.1.length; omega)
   | (show (0 : Int) ≤ (i : Int) - 1; omega)
   | (show (i : Int) - 1 < (y.1 : Int); omega)
   | (show ((i : Int) - 1).toNat + 0 < y.2.2.2.2.1.length; omega)
   | exact inR64 (by show _ ≤ (i : Int) - 1; omega) (by show (i : Int) - 1 ≤ _; omega))
 iterate 4 (
  focus
  rename_i u0 d0 mk hmk pg hpg x hx g c1 c2
  obtain ⟨hn, hn2, hR, FO⟩ := pg_d0 h1 h2 hr d0
  obtain ⟨y, W, i, s⟩ := x
  obtain ⟨P, G, hi, S⟩ := hx
  have P : PgsOf h.2.2.2 ((l.take n).map blkOf) (l2.take n2) W := P
  have G : Grw W y.2.2.2.2.1 y.2.1 y.1 y.2.2.2.2.2 := G
  have S : SI (l2.take n2) W s i := S
  have hi : i ≤ W.length := hi
  have hw : W.length ≤ n + n2 := by have := P.len; rw [zt, tk_len hnl, tk_len hnl2] at this; exact this
  have g : i < y.1 := Int.ofNat_lt.1 (ow g)
  obtain ⟨yo, iw, il, at'⟩ := fx_of G g
  have q1 : ((i : Int)).toNat + 0 = i := by omega
  have q2 : ((i : Int) - 1).toNat + 0 = i - 1 := by omega
  first
   | exact yo
   | exact Int.ofNat_lt.2 g
   | (show ((i : Int)).toNat + 0 < y.2.2.2.2.1.length; omega)
   | (show (0 : Int) ≤ (i : Int) - 1; omega)
   | (show (i : Int) - 1 < (y.1 : Int); omega)
   | (show ((i : Int) - 1).toNat + 0 < y.2.2.2.2.1.length; omega)
   | exact inR64 (by show _ ≤ (i : Int) - 1; omega) (by show (i : Int) - 1 ≤ _; omega))
 iterate 5 (
  focus
  rename_i u0 d0 mk hmk pg hpg x hx g c1 c2 b1 d3
  obtain ⟨hn, hn2, hR, FO⟩ := pg_d0 h1 h2 hr d0
  obtain ⟨y, W, i, s⟩ := x
  obtain ⟨P, G, hi, S⟩ := hx
  have P : PgsOf h.2.2.2 ((l.take n).map blkOf) (l2.take n2) W := P
  have G : Grw W y.2.2.2.2.1 y.2.1 y.1 y.2.2.2.2.2 := G
  have S : SI (l2.take n2) W s i := S
  have hi : i ≤ W.length := hi
  have hw : W.length ≤ n + n2 := by have := P.len; rw [zt, tk_len hnl, tk_len hnl2] at this; exact this
  have g : i < y.1 := Int.ofNat_lt.1 (ow g)
  obtain ⟨yo, iw, il, at'⟩ := fx_of G g
  have q1 : ((i : Int)).toNat + 0 = i := by omega
  have q2 : ((i : Int) - 1).toNat + 0 = i - 1 := by omega
  have c2 : (y.2.2.2.2.1.getD ((i : Int).toNat + 0) pgZ).pl.2 = 0 := ow c2
  rw [q1, at' i (zy _)] at c2
  obtain ⟨k1, k2, k3⟩ := head_at P iw c2
  rw [zt, tk_len hnl] at k1
  first
   | exact on_of h1.2.2 (by show 0 < n; omega)
   | exact Int.ofNat_lt.2 k1
   | (show ((hI W i : Nat) : Int).toNat + 0 < l.length; omega)
   | (exfalso; have d3 : (n : Int) ≤ ((hI W i : Nat) : Int) := ow d3; omega))
 iterate 8 (
  focus
  rename_i u0 d0 mk hmk pg hpg x hx g c1 c2 b1 d3 r hr1
  obtain ⟨hn, hn2, hR, FO⟩ := pg_d0 h1 h2 hr d0
  obtain ⟨y, W, i, s⟩ := x
  obtain ⟨P, G, hi, S⟩ := hx
  have P : PgsOf h.2.2.2 ((l.take n).map blkOf) (l2.take n2) W := P
  have G : Grw W y.2.2.2.2.1 y.2.1 y.1 y.2.2.2.2.2 := G
  have S : SI (l2.take n2) W s i := S
  have hi : i ≤ W.length := hi
  have hw : W.length ≤ n + n2 := by have := P.len; rw [zt, tk_len hnl, tk_len hnl2] at this; exact this
  have g : i < y.1 := Int.ofNat_lt.1 (ow g)
  obtain ⟨yo, iw, il, at'⟩ := fx_of G g
  have q1 : ((i : Int)).toNat + 0 = i := by omega
  have q2 : ((i : Int) - 1).toNat + 0 = i - 1 := by omega
  have c2 : (y.2.2.2.2.1.getD ((i : Int).toNat + 0) pgZ).pl.2 = 0 := ow c2
  rw [q1, at' i (zy _)] at c2
  obtain ⟨k1, k2, k3⟩ := head_at P iw c2
  rw [zt, tk_len hnl] at k1
  change Rw Int at r
  have hr1 : l.getD (hI W i) Rw.nil = r := hr1
  obtain ⟨⟨g1, g2, g3⟩, g4⟩ := hR r (row_mem k1 hnl hr1)
  rw [pg_at k1, hr1] at k2
  have e5 : r.l.getD 0 0 = (W.getD i pgZ).pl.1 := by rw [← k2]; exact (congrArg zi (blk_is r)).symm
  have e6 : (W.getD i pgZ).me = ⟨1, (W.getD i pgZ).pl.1, 0, r.l.getD 1 0, 0, h.2.2.2⟩ := by
   rw [← k2]
   show (⟨1, (blkOf r).1, 0, (blkOf r).2, 0, h.2.2.2⟩ : Me) = ⟨1, (blkOf r).1, 0, r.l.getD 1 0, 0, h.2.2.2⟩
   rw [blk_is r]
  first
   | exact on_of g1 (by omega)
   | (show (0 : Int) < ((r.l.length : Nat) : Int); omega)
   | (show (0 : Int).toNat + 0 < r.l.length; rw [g4]; decide)
   | exact yo
   | exact Int.ofNat_lt.2 g
   | (show ((i : Int)).toNat + 0 < y.2.2.2.2.1.length; omega)
   | (show (0 : Int) ≤ (i : Int) - 1; omega)
   | (show (i : Int) - 1 < (y.1 : Int); omega)
   | (show ((i : Int) - 1).toNat + 0 < y.2.2.2.2.1.length; omega)
   | exact inR64 (by show _ ≤ (i : Int) - 1; omega) (by show (i : Int) - 1 ≤ _; omega))
 iterate 9 (
  focus
  rename_i u0 d0 mk hmk pg hpg x hx g c1 c2 b1 d3 r hr1 d4
  obtain ⟨hn, hn2, hR, FO⟩ := pg_d0 h1 h2 hr d0
  obtain ⟨y, W, i, s⟩ := x
  obtain ⟨P, G, hi, S⟩ := hx
  have P : PgsOf h.2.2.2 ((l.take n).map blkOf) (l2.take n2) W := P
  have G : Grw W y.2.2.2.2.1 y.2.1 y.1 y.2.2.2.2.2 := G
  have S : SI (l2.take n2) W s i := S
  have hi : i ≤ W.length := hi
  have hw : W.length ≤ n + n2 := by have := P.len; rw [zt, tk_len hnl, tk_len hnl2] at this; exact this
  have g : i < y.1 := Int.ofNat_lt.1 (ow g)
  obtain ⟨yo, iw, il, at'⟩ := fx_of G g
  have q1 : ((i : Int)).toNat + 0 = i := by omega
  have q2 : ((i : Int) - 1).toNat + 0 = i - 1 := by omega
  have c2 : (y.2.2.2.2.1.getD ((i : Int).toNat + 0) pgZ).pl.2 = 0 := ow c2
  rw [q1, at' i (zy _)] at c2
  obtain ⟨k1, k2, k3⟩ := head_at P iw c2
  rw [zt, tk_len hnl] at k1
  change Rw Int at r
  have hr1 : l.getD (hI W i) Rw.nil = r := hr1
  obtain ⟨⟨g1, g2, g3⟩, g4⟩ := hR r (row_mem k1 hnl hr1)
  rw [pg_at k1, hr1] at k2
  have e5 : r.l.getD 0 0 = (W.getD i pgZ).pl.1 := by rw [← k2]; exact (congrArg zi (blk_is r)).symm
  have e6 : (W.getD i pgZ).me = ⟨1, (W.getD i pgZ).pl.1, 0, r.l.getD 1 0, 0, h.2.2.2⟩ := by
   rw [← k2]
   show (⟨1, (blkOf r).1, 0, (blkOf r).2, 0, h.2.2.2⟩ : Me) = ⟨1, (blkOf r).1, 0, r.l.getD 1 0, 0, h.2.2.2⟩
   rw [blk_is r]
  first
   | exact on_of h1.2.2 (by show 0 < n; omega)
   | exact Int.ofNat_lt.2 k1
   | (show ((hI W i : Nat) : Int).toNat + 0 < l.length; omega)
   | (exfalso; have d3 : (n : Int) ≤ ((hI W i : Nat) : Int) := ow d3; omega)
   | (have d4 : r.l.getD 0 0 ≠ (y.2.2.2.2.1.getD ((i : Int).toNat + 0) pgZ).pl.1 := ow d4
      rw [q1, at' i (zy _)] at d4
      exact absurd e5 d4)
   | exact yo
   | exact Int.ofNat_lt.2 g
   | (show ((i : Int)).toNat + 0 < y.2.2.2.2.1.length; omega)
   | (show (0 : Int) ≤ (i : Int) - 1; omega)
   | (show (i : Int) - 1 < (y.1 : Int); omega)
   | (show ((i : Int) - 1).toNat + 0 < y.2.2.2.2.1.length; omega)
   | exact inR64 (by show _ ≤ (i : Int) - 1; omega) (by show (i : Int) - 1 ≤ _; omega))
 iterate 4 (
  focus
  rename_i u0 d0 mk hmk pg hpg x hx g c1 c2 b1 d3 r hr1 d4 r2 hr2
  obtain ⟨hn, hn2, hR, FO⟩ := pg_d0 h1 h2 hr d0
  obtain ⟨y, W, i, s⟩ := x
  obtain ⟨P, G, hi, S⟩ := hx
  have P : PgsOf h.2.2.2 ((l.take n).map blkOf) (l2.take n2) W := P
  have G : Grw W y.2.2.2.2.1 y.2.1 y.1 y.2.2.2.2.2 := G
  have S : SI (l2.take n2) W s i := S
  have hi : i ≤ W.length := hi
  have hw : W.length ≤ n + n2 := by have := P.len; rw [zt, tk_len hnl, tk_len hnl2] at this; exact this
  have g : i < y.1 := Int.ofNat_lt.1 (ow g)
  obtain ⟨yo, iw, il, at'⟩ := fx_of G g
  have q1 : ((i : Int)).toNat + 0 = i := by omega
  have q2 : ((i : Int) - 1).toNat + 0 = i - 1 := by omega
  have c2 : (y.2.2.2.2.1.getD ((i : Int).toNat + 0) pgZ).pl.2 = 0 := ow c2
  rw [q1, at' i (zy _)] at c2
  obtain ⟨k1, k2, k3⟩ := head_at P iw c2
  rw [zt, tk_len hnl] at k1
  change Rw Int at r
  have hr1 : l.getD (hI W i) Rw.nil = r := hr1
  obtain ⟨⟨g1, g2, g3⟩, g4⟩ := hR r (row_mem k1 hnl hr1)
  rw [pg_at k1, hr1] at k2
  have e5 : r.l.getD 0 0 = (W.getD i pgZ).pl.1 := by rw [← k2]; exact (congrArg zi (blk_is r)).symm
  have e6 : (W.getD i pgZ).me = ⟨1, (W.getD i pgZ).pl.1, 0, r.l.getD 1 0, 0, h.2.2.2⟩ := by
   rw [← k2]
   show (⟨1, (blkOf r).1, 0, (blkOf r).2, 0, h.2.2.2⟩ : Me) = ⟨1, (blkOf r).1, 0, r.l.getD 1 0, 0, h.2.2.2⟩
   rw [blk_is r]
  change Rw Int at r2
  have hr2 : l.getD (hI W i) Rw.nil = r2 := hr2
  have hr3 : r2 = r := hr2.symm.trans hr1
  subst hr3
  first
   | exact on_of g1 (by omega)
   | (show (1 : Int) < ((r2.l.length : Nat) : Int); omega)
   | (show (1 : Int).toNat + 0 < r2.l.length; rw [g4]; decide))
 · rename_i u0 d0 mk hmk pg hpg x hx g c1 c2 b1 d3 r hr1 d4 r2 hr2 d5
   obtain ⟨hn, hn2, hR, FO⟩ := pg_d0 h1 h2 hr d0
   obtain ⟨y, W, i, s⟩ := x
   obtain ⟨P, G, hi, S⟩ := hx
   have P : PgsOf h.2.2.2 ((l.take n).map blkOf) (l2.take n2) W := P
   have G : Grw W y.2.2.2.2.1 y.2.1 y.1 y.2.2.2.2.2 := G
   have S : SI (l2.take n2) W s i := S
   have hi : i ≤ W.length := hi
   have hw : W.length ≤ n + n2 := by have := P.len; rw [zt, tk_len hnl, tk_len hnl2] at this; exact this
   have g : i < y.1 := Int.ofNat_lt.1 (ow g)
   obtain ⟨yo, iw, il, at'⟩ := fx_of G g
   have q1 : ((i : Int)).toNat + 0 = i := by omega
   have q2 : ((i : Int) - 1).toNat + 0 = i - 1 := by omega
   have c2 : (y.2.2.2.2.1.getD ((i : Int).toNat + 0) pgZ).pl.2 = 0 := ow c2
   rw [q1, at' i (zy _)] at c2
   obtain ⟨k1, k2, k3⟩ := head_at P iw c2
   rw [zt, tk_len hnl] at k1
   change Rw Int at r
   have hr1 : l.getD (hI W i) Rw.nil = r := hr1
   obtain ⟨⟨g1, g2, g3⟩, g4⟩ := hR r (row_mem k1 hnl hr1)
   rw [pg_at k1, hr1] at k2
   have e5 : r.l.getD 0 0 = (W.getD i pgZ).pl.1 := by rw [← k2]; exact (congrArg zi (blk_is r)).symm
   have e6 : (W.getD i pgZ).me = ⟨1, (W.getD i pgZ).pl.1, 0, r.l.getD 1 0, 0, h.2.2.2⟩ := by
    rw [← k2]
    show (⟨1, (blkOf r).1, 0, (blkOf r).2, 0, h.2.2.2⟩ : Me) = ⟨1, (blkOf r).1, 0, r.l.getD 1 0, 0, h.2.2.2⟩
    rw [blk_is r]
   change Rw Int at r2
   have hr2 : l.getD (hI W i) Rw.nil = r2 := hr2
   have hr3 : r2 = r := hr2.symm.trans hr1
   subst hr3
   exfalso
   have d5 : (!eqMe (y.2.2.2.2.1.getD ((i : Int).toNat + 0) pgZ).me ⟨1, (y.2.2.2.2.1.getD ((i : Int).toNat + 0) pgZ).pl.1, 0, r2.l.getD 1 0, 0, h.2.2.2⟩) = true := d5
   rw [q1, at' i (zy _), ← e6, eqMe_rfl] at d5
   cases d5
 iterate 2 (
  focus
  rename_i u0 d0 mk hmk pg hpg x hx g c1 c2 b1 d3 r hr1 d4 r2 hr2 d5
  obtain ⟨hn, hn2, hR, FO⟩ := pg_d0 h1 h2 hr d0
  obtain ⟨y, W, i, s⟩ := x
  obtain ⟨P, G, hi, S⟩ := hx
  have P : PgsOf h.2.2.2 ((l.take n).map blkOf) (l2.take n2) W := P
  have G : Grw W y.2.2.2.2.1 y.2.1 y.1 y.2.2.2.2.2 := G
  have S : SI (l2.take n2) W s i := S
  have hi : i ≤ W.length := hi
  have hw : W.length ≤ n + n2 := by have := P.len; rw [zt, tk_len hnl, tk_len hnl2] at this; exact this
  have g : i < y.1 := Int.ofNat_lt.1 (ow g)
  obtain ⟨yo, iw, il, at'⟩ := fx_of G g
  have q1 : ((i : Int)).toNat + 0 = i := by omega
  have q2 : ((i : Int) - 1).toNat + 0 = i - 1 := by omega
  have c2 : (y.2.2.2.2.1.getD ((i : Int).toNat + 0) pgZ).pl.2 = 0 := ow c2
  rw [q1, at' i (zy _)] at c2
  obtain ⟨k1, k2, k3⟩ := head_at P iw c2
  rw [zt, tk_len hnl] at k1
  first
   | exact inR64 (by show _ ≤ ((hI W i : Nat) : Int) + 1; omega) (by show ((hI W i : Nat) : Int) + 1 ≤ _; omega)
   | exact inR64 (by show _ ≤ (i : Int) + 1; omega) (by show (i : Int) + 1 ≤ _; omega))
 · rename_i u0 d0 mk hmk pg hpg x hx g c1 c2 b1 d3 r hr1 d4 r2 hr2 d5
   obtain ⟨hn, hn2, hR, FO⟩ := pg_d0 h1 h2 hr d0
   obtain ⟨y, W, i, s⟩ := x
   obtain ⟨P, G, hi, S⟩ := hx
   have P : PgsOf h.2.2.2 ((l.take n).map blkOf) (l2.take n2) W := P
   have G : Grw W y.2.2.2.2.1 y.2.1 y.1 y.2.2.2.2.2 := G
   have S : SI (l2.take n2) W s i := S
   have hi : i ≤ W.length := hi
   have hw : W.length ≤ n + n2 := by have := P.len; rw [zt, tk_len hnl, tk_len hnl2] at this; exact this
   have g : i < y.1 := Int.ofNat_lt.1 (ow g)
   obtain ⟨yo, iw, il, at'⟩ := fx_of G g
   have q1 : ((i : Int)).toNat + 0 = i := by omega
   have q2 : ((i : Int) - 1).toNat + 0 = i - 1 := by omega
   have c2 : (y.2.2.2.2.1.getD ((i : Int).toNat + 0) pgZ).pl.2 = 0 := ow c2
   rw [q1, at' i (zy _)] at c2
   obtain ⟨k1, k2, k3⟩ := head_at P iw c2
   rw [zt, tk_len hnl] at k1
   refine Stands.one (y, W, i + 1, s) ⟨⟨P, G, iw, head_sl iw c2 S⟩, ?_, ?_⟩
   · show ((l.take n).map blkOf).length + (l2.take n2).length - (i + 1) < ((l.take n).map blkOf).length + (l2.take n2).length - i
     rw [zt, tk_len hnl, tk_len hnl2]; omega
   ((conv => arg 1; reduce); with_reducible repeat' first | exact ty | refine ta ?_ ?_ | refine ti fun _ => ?_ | refine tf fun _ => ?_ | refine tl ?_)
   all_goals first | exact vlf | (show ((hI W i : Nat) : Int) + 1 = ((hI W (i + 1) : Nat) : Int); rw [k3]; rfl)
 · rename_i u0 d0 mk hmk pg hpg x hx g c1 c2
   obtain ⟨hn, hn2, hR, FO⟩ := pg_d0 h1 h2 hr d0
   obtain ⟨y, W, i, s⟩ := x
   obtain ⟨P, G, hi, S⟩ := hx
   have P : PgsOf h.2.2.2 ((l.take n).map blkOf) (l2.take n2) W := P
   have G : Grw W y.2.2.2.2.1 y.2.1 y.1 y.2.2.2.2.2 := G
   have S : SI (l2.take n2) W s i := S
   have hi : i ≤ W.length := hi
   have hw : W.length ≤ n + n2 := by have := P.len; rw [zt, tk_len hnl, tk_len hnl2] at this; exact this
   have g : i < y.1 := Int.ofNat_lt.1 (ow g)
   obtain ⟨yo, iw, il, at'⟩ := fx_of G g
   have q1 : ((i : Int)).toNat + 0 = i := by omega
   have q2 : ((i : Int) - 1).toNat + 0 = i - 1 := by omega
   have c2 : (y.2.2.2.2.1.getD ((i : Int).toNat + 0) pgZ).pl.2 ≠ 0 := ov c2
   rw [q1, at' i (zy _)] at c2
   refine Stands.one (y, W, i, s) ⟨⟨⟨P, G, hi, S⟩, iw, c2⟩, ?_⟩
   exact vgo
 iterate 5 (
  focus
  rename_i u0 d0 mk hmk pg hpg x hx g c1 c2 z hz k1 k2 e1
  obtain ⟨hn, hn2, hR, FO⟩ := pg_d0 h1 h2 hr d0
  obtain ⟨y0, W0, i0, s0⟩ := x
  obtain ⟨y, W, i, s⟩ := z
  obtain ⟨⟨P, G, hi, S⟩, iw, nz⟩ := hz
  have P : PgsOf h.2.2.2 ((l.take n).map blkOf) (l2.take n2) W := P
  have G : Grw W y.2.2.2.2.1 y.2.1 y.1 y.2.2.2.2.2 := G
  have S : SI (l2.take n2) W s i := S
  have hi : i ≤ W.length := hi
  have hw : W.length ≤ n + n2 := by have := P.len; rw [zt, tk_len hnl, tk_len hnl2] at this; exact this
  have iw : i < W.length := iw
  have nz : (W.getD i pgZ).pl.2 ≠ 0 := nz
  have g : i < y.1 := by rw [G.1]; exact iw
  obtain ⟨yo, _, il, at'⟩ := fx_of G g
  have q1 : ((i : Int)).toNat + 0 = i := by omega
  have q2 : ((i : Int) - 1).toNat + 0 = i - 1 := by omega
  have q3 : ((s : Int)).toNat + 0 = s := by omega
  have sl := slot_no P iw nz S
  rw [tk_len hnl2] at sl
  first
   | exact on_of h2.2.2 (by show 0 < n2; omega)
   | exact Int.ofNat_lt.2 sl
   | (show ((s : Int)).toNat + 0 < l2.length; omega)
   | exact inR64 (by show _ ≤ (s : Int) + 1; omega) (by show (s : Int) + 1 ≤ _; omega)
   | exact inR64 (by show _ ≤ (i : Int) + 1; omega) (by show (i : Int) + 1 ≤ _; omega))
 · rename_i u0 d0 mk hmk pg hpg x hx g c1 c2 z hz k1 k2 e1
   obtain ⟨hn, hn2, hR, FO⟩ := pg_d0 h1 h2 hr d0
   obtain ⟨y0, W0, i0, s0⟩ := x
   obtain ⟨y, W, i, s⟩ := z
   obtain ⟨⟨P, G, hi, S⟩, iw, nz⟩ := hz
   have P : PgsOf h.2.2.2 ((l.take n).map blkOf) (l2.take n2) W := P
   have G : Grw W y.2.2.2.2.1 y.2.1 y.1 y.2.2.2.2.2 := G
   have S : SI (l2.take n2) W s i := S
   have hi : i ≤ W.length := hi
   have hw : W.length ≤ n + n2 := by have := P.len; rw [zt, tk_len hnl, tk_len hnl2] at this; exact this
   have iw : i < W.length := iw
   have nz : (W.getD i pgZ).pl.2 ≠ 0 := nz
   have g : i < y.1 := by rw [G.1]; exact iw
   obtain ⟨yo, _, il, at'⟩ := fx_of G g
   have q1 : ((i : Int)).toNat + 0 = i := by omega
   have q2 : ((i : Int) - 1).toNat + 0 = i - 1 := by omega
   have q3 : ((s : Int)).toNat + 0 = s := by omega
   have sl := slot_no P iw nz S
   rw [tk_len hnl2] at sl
   have e1 : (decide ((s : Int) < (n2 : Int)) && decide ((l2.getD ((s : Int).toNat + 0) slot0).pl.2 = 0)) = true := e1
   rw [q3] at e1
   have e1 := ow (Bool.and_eq_true_iff.1 e1).2
   refine Stands.one (y, W, i, s + 1) ⟨⟨⟨P, G, hi, slot_skip (by rw [tk_len hnl2]; exact sl) (by rw [tk_at sl]; exact e1) S⟩, iw, nz⟩, ?_, ?_⟩
   · show (l2.take n2).length - (s + 1) < (l2.take n2).length - s
     rw [tk_len hnl2]; omega
   exact vgo
 iterate 16 (
  focus
  rename_i u0 d0 mk hmk pg hpg x hx g c1 c2 z hz k1 k2 e1 e2
  obtain ⟨hn, hn2, hR, FO⟩ := pg_d0 h1 h2 hr d0
  obtain ⟨y0, W0, i0, s0⟩ := x
  obtain ⟨y, W, i, s⟩ := z
  obtain ⟨⟨P, G, hi, S⟩, iw, nz⟩ := hz
  have P : PgsOf h.2.2.2 ((l.take n).map blkOf) (l2.take n2) W := P
  have G : Grw W y.2.2.2.2.1 y.2.1 y.1 y.2.2.2.2.2 := G
  have S : SI (l2.take n2) W s i := S
  have hi : i ≤ W.length := hi
  have hw : W.length ≤ n + n2 := by have := P.len; rw [zt, tk_len hnl, tk_len hnl2] at this; exact this
  have iw : i < W.length := iw
  have nz : (W.getD i pgZ).pl.2 ≠ 0 := nz
  have g : i < y.1 := by rw [G.1]; exact iw
  obtain ⟨yo, _, il, at'⟩ := fx_of G g
  have q1 : ((i : Int)).toNat + 0 = i := by omega
  have q2 : ((i : Int) - 1).toNat + 0 = i - 1 := by omega
  have q3 : ((s : Int)).toNat + 0 = s := by omega
  have sl := slot_no P iw nz S
  rw [tk_len hnl2] at sl
  first
   | exact on_of h2.2.2 (by show 0 < n2; omega)
   | exact Int.ofNat_lt.2 sl
   | (show ((s : Int)).toNat + 0 < l2.length; omega)
   | exact inR64 (by show _ ≤ (s : Int) + 1; omega) (by show (s : Int) + 1 ≤ _; omega)
   | exact inR64 (by show _ ≤ (i : Int) + 1; omega) (by show (i : Int) + 1 ≤ _; omega)
   | exact yo
   | exact Int.ofNat_lt.2 g
   | (show ((i : Int)).toNat + 0 < y.2.2.2.2.1.length; omega)
   | (show (0 : Int) ≤ (i : Int) - 1; omega)
   | (show (i : Int) - 1 < (y.1 : Int); omega)
   | (show ((i : Int) - 1).toNat + 0 < y.2.2.2.2.1.length; omega)
   | exact inR64 (by show _ ≤ (i : Int) - 1; omega) (by show (i : Int) - 1 ≤ _; omega))
 · rename_i u0 d0 mk hmk pg hpg x hx g c1 c2 z hz k1 k2 e1 e2
   obtain ⟨hn, hn2, hR, FO⟩ := pg_d0 h1 h2 hr d0
   obtain ⟨y0, W0, i0, s0⟩ := x
   obtain ⟨y, W, i, s⟩ := z
   obtain ⟨⟨P, G, hi, S⟩, iw, nz⟩ := hz
   have P : PgsOf h.2.2.2 ((l.take n).map blkOf) (l2.take n2) W := P
   have G : Grw W y.2.2.2.2.1 y.2.1 y.1 y.2.2.2.2.2 := G
   have S : SI (l2.take n2) W s i := S
   have hi : i ≤ W.length := hi
   have hw : W.length ≤ n + n2 := by have := P.len; rw [zt, tk_len hnl, tk_len hnl2] at this; exact this
   have iw : i < W.length := iw
   have nz : (W.getD i pgZ).pl.2 ≠ 0 := nz
   have g : i < y.1 := by rw [G.1]; exact iw
   obtain ⟨yo, _, il, at'⟩ := fx_of G g
   have q1 : ((i : Int)).toNat + 0 = i := by omega
   have q2 : ((i : Int) - 1).toNat + 0 = i - 1 := by omega
   have q3 : ((s : Int)).toNat + 0 = s := by omega
   have sl := slot_no P iw nz S
   rw [tk_len hnl2] at sl
   have e1 : (decide ((s : Int) < (n2 : Int)) && decide ((l2.getD ((s : Int).toNat + 0) slot0).pl.2 = 0)) = false := e1
   rw [q3] at e1
   have nB : (l2.getD s slot0).pl.2 ≠ 0 := by
    rw [decide_eq_true (Int.ofNat_lt.2 sl), tt] at e1
    exact ov e1
   obtain ⟨a1, a2⟩ := slot_at FO P iw nz S (by rw [tk_len hnl2]; exact sl) (by rw [tk_at sl]; exact nB)
   rw [tk_at sl] at a1
   exfalso
   have e2 : ((decide ((n2 : Int) ≤ (s : Int)) || !(decide ((l2.getD ((s : Int).toNat + 0) slot0).pl.1 = (y.2.2.2.2.1.getD ((i : Int).toNat + 0) pgZ).pl.1) && decide ((l2.getD ((s : Int).toNat + 0) slot0).pl.2 = (y.2.2.2.2.1.getD ((i : Int).toNat + 0) pgZ).pl.2))) || !eqMe (l2.getD ((s : Int).toNat + 0) slot0).me (y.2.2.2.2.1.getD ((i : Int).toNat + 0) pgZ).me) = true := e2
   rw [q1, q3, at' i (zy _), a1, eqMe_rfl, decide_eq_true rfl, decide_eq_true rfl, decide_eq_false (by omega)] at e2
   cases e2
 iterate 2 (
  focus
  rename_i u0 d0 mk hmk pg hpg x hx g c1 c2 z hz k1 k2 e1 e2
  obtain ⟨hn, hn2, hR, FO⟩ := pg_d0 h1 h2 hr d0
  obtain ⟨y0, W0, i0, s0⟩ := x
  obtain ⟨y, W, i, s⟩ := z
  obtain ⟨⟨P, G, hi, S⟩, iw, nz⟩ := hz
  have P : PgsOf h.2.2.2 ((l.take n).map blkOf) (l2.take n2) W := P
  have G : Grw W y.2.2.2.2.1 y.2.1 y.1 y.2.2.2.2.2 := G
  have S : SI (l2.take n2) W s i := S
  have hi : i ≤ W.length := hi
  have hw : W.length ≤ n + n2 := by have := P.len; rw [zt, tk_len hnl, tk_len hnl2] at this; exact this
  have iw : i < W.length := iw
  have nz : (W.getD i pgZ).pl.2 ≠ 0 := nz
  have g : i < y.1 := by rw [G.1]; exact iw
  obtain ⟨yo, _, il, at'⟩ := fx_of G g
  have q1 : ((i : Int)).toNat + 0 = i := by omega
  have q2 : ((i : Int) - 1).toNat + 0 = i - 1 := by omega
  have q3 : ((s : Int)).toNat + 0 = s := by omega
  have sl := slot_no P iw nz S
  rw [tk_len hnl2] at sl
  first
   | exact on_of h2.2.2 (by show 0 < n2; omega)
   | exact Int.ofNat_lt.2 sl
   | (show ((s : Int)).toNat + 0 < l2.length; omega)
   | exact inR64 (by show _ ≤ (s : Int) + 1; omega) (by show (s : Int) + 1 ≤ _; omega)
   | exact inR64 (by show _ ≤ (i : Int) + 1; omega) (by show (i : Int) + 1 ≤ _; omega))
 · rename_i u0 d0 mk hmk pg hpg x hx g c1 c2 z hz k1 k2 e1 e2
   obtain ⟨hn, hn2, hR, FO⟩ := pg_d0 h1 h2 hr d0
   obtain ⟨y0, W0, i0, s0⟩ := x
   obtain ⟨y, W, i, s⟩ := z
   obtain ⟨⟨P, G, hi, S⟩, iw, nz⟩ := hz
   have P : PgsOf h.2.2.2 ((l.take n).map blkOf) (l2.take n2) W := P
   have G : Grw W y.2.2.2.2.1 y.2.1 y.1 y.2.2.2.2.2 := G
   have S : SI (l2.take n2) W s i := S
   have hi : i ≤ W.length := hi
   have hw : W.length ≤ n + n2 := by have := P.len; rw [zt, tk_len hnl, tk_len hnl2] at this; exact this
   have iw : i < W.length := iw
   have nz : (W.getD i pgZ).pl.2 ≠ 0 := nz
   have g : i < y.1 := by rw [G.1]; exact iw
   obtain ⟨yo, _, il, at'⟩ := fx_of G g
   have q1 : ((i : Int)).toNat + 0 = i := by omega
   have q2 : ((i : Int) - 1).toNat + 0 = i - 1 := by omega
   have q3 : ((s : Int)).toNat + 0 = s := by omega
   have sl := slot_no P iw nz S
   rw [tk_len hnl2] at sl
   have e1 : (decide ((s : Int) < (n2 : Int)) && decide ((l2.getD ((s : Int).toNat + 0) slot0).pl.2 = 0)) = false := e1
   rw [q3] at e1
   have nB : (l2.getD s slot0).pl.2 ≠ 0 := by
    rw [decide_eq_true (Int.ofNat_lt.2 sl), tt] at e1
    exact ov e1
   obtain ⟨a1, a2⟩ := slot_at FO P iw nz S (by rw [tk_len hnl2]; exact sl) (by rw [tk_at sl]; exact nB)
   rw [tk_at sl] at a1
   have k2 : i0 = i := Int.ofNat.inj k2
   have k1 : hI W0 i0 = hI W i := Int.ofNat.inj k1
   refine Stands.one (y, W, i + 1, s + 1) ⟨⟨P, G, iw, a2⟩, ?_, ?_⟩
   · show ((l.take n).map blkOf).length + (l2.take n2).length - (i + 1) < ((l.take n).map blkOf).length + (l2.take n2).length - i0
     rw [zt, tk_len hnl, tk_len hnl2]; omega
   ((conv => arg 1; reduce); with_reducible repeat' first | exact ty | refine ta ?_ ?_ | refine ti fun _ => ?_ | refine tf fun _ => ?_ | refine tl ?_)
   all_goals first | exact vlf | (show ((hI W0 i0 : Nat) : Int) = ((hI W (i + 1) : Nat) : Int); rw [slot_hI iw nz, k1]) | (show ((hI W i : Nat) : Int) = ((hI W (i + 1) : Nat) : Int); rw [slot_hI iw nz]) | (show ((i0 : Nat) : Int) + 1 = ((i + 1 : Nat) : Int); omega)
 · rename_i u0 d0 mk hmk pg hpg x hx g
   obtain ⟨hn, hn2, hR, FO⟩ := pg_d0 h1 h2 hr d0
   obtain ⟨y, W, i, s⟩ := x
   obtain ⟨P, G, hi, S⟩ := hx
   have P : PgsOf h.2.2.2 ((l.take n).map blkOf) (l2.take n2) W := P
   have G : Grw W y.2.2.2.2.1 y.2.1 y.1 y.2.2.2.2.2 := G
   have S : SI (l2.take n2) W s i := S
   have hi : i ≤ W.length := hi
   have hw : W.length ≤ n + n2 := by have := P.len; rw [zt, tk_len hnl, tk_len hnl2] at this; exact this
   have g : ¬ i < y.1 := fun e => ov g (Int.ofNat_lt.2 e)
   refine Stands.one (y, W, i, s) ⟨⟨⟨P, G, hi, S⟩, by show i = W.length; rw [G.1] at g; omega⟩, ?_⟩
   exact vgo
 iterate 4 (
  focus
  rename_i u0 d0 mk hmk pg hpg x hx g z hz k1 k2 e1
  obtain ⟨hn, hn2, hR, FO⟩ := pg_d0 h1 h2 hr d0
  obtain ⟨y0, W0, i0, s0⟩ := x
  obtain ⟨y, W, i, s⟩ := z
  obtain ⟨⟨P, G, hi, S⟩, ie⟩ := hz
  have P : PgsOf h.2.2.2 ((l.take n).map blkOf) (l2.take n2) W := P
  have G : Grw W y.2.2.2.2.1 y.2.1 y.1 y.2.2.2.2.2 := G
  have S : SI (l2.take n2) W s i := S
  have hi : i ≤ W.length := hi
  have hw : W.length ≤ n + n2 := by have := P.len; rw [zt, tk_len hnl, tk_len hnl2] at this; exact this
  have ie : i = W.length := ie
  have q3 : ((s : Int)).toNat + 0 = s := by omega
  have sl : s < n2 := Int.ofNat_lt.1 (ow e1)
  first
   | exact on_of h2.2.2 (by show 0 < n2; omega)
   | exact Int.ofNat_lt.2 sl
   | (show ((s : Int)).toNat + 0 < l2.length; omega)
   | exact inR64 (by show _ ≤ (s : Int) + 1; omega) (by show (s : Int) + 1 ≤ _; omega)
   | exact inR64 (by show _ ≤ (i : Int) + 1; omega) (by show (i : Int) + 1 ≤ _; omega))
 iterate 3 (
  focus
  rename_i u0 d0 mk hmk pg hpg x hx g z hz k1 k2 e1
  obtain ⟨hn, hn2, hR, FO⟩ := pg_d0 h1 h2 hr d0
  obtain ⟨y0, W0, i0, s0⟩ := x
  obtain ⟨y, W, i, s⟩ := z
  obtain ⟨⟨P, G, hi, S⟩, ie⟩ := hz
  have P : PgsOf h.2.2.2 ((l.take n).map blkOf) (l2.take n2) W := P
  have G : Grw W y.2.2.2.2.1 y.2.1 y.1 y.2.2.2.2.2 := G
  have S : SI (l2.take n2) W s i := S
  have hi : i ≤ W.length := hi
  have hw : W.length ≤ n + n2 := by have := P.len; rw [zt, tk_len hnl, tk_len hnl2] at this; exact this
  have ie : i = W.length := ie
  have q3 : ((s : Int)).toNat + 0 = s := by omega
  first
   | (have e1 := Bool.and_eq_true_iff.1 e1
      have sl : s < n2 := Int.ofNat_lt.1 (ow e1.1)
      exact inR64 (by show _ ≤ (s : Int) + 1; omega) (by show (s : Int) + 1 ≤ _; omega)
      done)
   | (have e1 : (decide ((s : Int) < (n2 : Int)) && decide ((l2.getD ((s : Int).toNat + 0) slot0).pl.2 = 0)) = true := e1
      rw [q3] at e1
      have e1 := Bool.and_eq_true_iff.1 e1
      have sl : s < n2 := Int.ofNat_lt.1 (ow e1.1)
      have e2 := ow e1.2
      refine Stands.one (y, W, i, s + 1) ⟨⟨⟨P, G, hi, slot_skip (by rw [tk_len hnl2]; exact sl) (by rw [tk_at sl]; exact e2) S⟩, ie⟩, ?_, ?_⟩
      · show (l2.take n2).length - (s + 1) < (l2.take n2).length - s
        rw [tk_len hnl2]; omega
      exact vgo
      done)
   | (refine ⟨⟨by decide, by decide⟩, ⟨by decide, by decide⟩, ⟨by decide, by decide⟩, ⟨zy _, by decide, fun _ => ⟨rfl, rfl⟩⟩, ?_, ?_, G.2.2.2.2⟩
      · show y.1 ≤ y.2.2.2.2.1.length
        exact yz G.2.2.1 G.2.2.2.1
      · show y.1 < 1000000
        rw [G.1]; omega
      done))
 iterate 2 (
  focus
  rename_i u0 d0 mk hmk pg hpg x hx g z hz k1 k2 e1 w ha b9
  obtain ⟨hn, hn2, hR, FO⟩ := pg_d0 h1 h2 hr d0
  obtain ⟨y0, W0, i0, s0⟩ := x
  obtain ⟨y, W, i, s⟩ := z
  obtain ⟨⟨P, G, hi, S⟩, ie⟩ := hz
  have P : PgsOf h.2.2.2 ((l.take n).map blkOf) (l2.take n2) W := P
  have G : Grw W y.2.2.2.2.1 y.2.1 y.1 y.2.2.2.2.2 := G
  have S : SI (l2.take n2) W s i := S
  have hi : i ≤ W.length := hi
  have hw : W.length ≤ n + n2 := by have := P.len; rw [zt, tk_len hnl, tk_len hnl2] at this; exact this
  have ie : i = W.length := ie
  have q3 : ((s : Int)).toNat + 0 = s := by omega
  first
   | (have e1 : (decide ((s : Int) < (n2 : Int)) && decide ((l2.getD ((s : Int).toNat + 0) slot0).pl.2 = 0)) = false := e1
      rw [q3] at e1
      have se : s = n2 := by
       refine Decidable.byContradiction fun hn' => ?_
       have s1 : s ≤ (l2.take n2).length := S.1
       rw [tk_len hnl2] at s1
       have sl : s < n2 := by omega
       rw [ie] at S
       have := slot_end FO P S (by rw [tk_len hnl2]; exact sl)
       rw [tk_at sl] at this
       rw [this, decide_eq_true (Int.ofNat_lt.2 sl)] at e1
       cases e1
      have k1 : ((hI W0 i0 : Nat) : Int) = ((hI W i : Nat) : Int) := k1
      have e3 : hI W i = n := by rw [ie, hI_end P, zt, tk_len hnl]
      first
       | (show (decide (((hI W0 i0 : Nat) : Int) = (n : Int)) && decide ((s : Int) = (n2 : Int))) = true; rw [k1, e3, se, decide_eq_true rfl, decide_eq_true rfl]; rfl)
       | (show (decide (((hI W i : Nat) : Int) = (n : Int)) && decide ((s : Int) = (n2 : Int))) = true; rw [e3, se, decide_eq_true rfl, decide_eq_true rfl]; rfl)
      done)
   | (exfalso
      obtain ⟨j, j1, j2⟩ := ha
      have j1 : j < (y.2.2.2.2.1.take y.1).length := j1
      have j2 : Sc.pgBad 64 64 [] (y.2.2.2.2.1.take y.1) j = true := j2
      rw [G.2.1] at j1 j2
      rw [pgs_good P j1] at j2
      cases j2
      done))
end Go.Vx
namespace Go.Vx
open Go Go.Proofs
variable [Gl]
def FrO (A : List Raw) : Inv' C0 := ⟨4, Nat, fun i => [(3, .int .i64 (i : Int))], fun _ m => m, fun i => i ≤ A.length ∧ ∀ r ∈ A.take i, r.2.1 = 2, fun i => A.length - i⟩
theorem fairO_ok (h : Hd) (o : Bool) (b q : Nat) (l : List Raw) (n c : Nat) (o' : Bool) (b' q' : Nat) (l' : List Slot) (n' c' : Nat) (h1 : n ≤ l.length) (ho : o = false → n = 0 ∧ c = 0) (hr : ∃ r ∈ l.take n, r.2.1 ≠ 2) :
 Tells (C := C0) Tryd.prog (.fn 9) [⟨b, q, 1, false, some o, .rows 1071 l⟩, ⟨b', q', 9, false, some o', .rows 74 l'⟩] [ptv h (.sl 0 0 n c) (.sl 1 0 n' c')] (.bool .f) := by
 refine loc_pc (P := Tryd.prog) (E := ⟨[], [], 28, [], [], []⟩) (L := [FrO (l.take n)]) mix Tryd.func9 rfl (by kernel_rfl) (by kernel_rfl) rfl rfl ?_
 ((conv => arg 1; reduce); with_reducible repeat' first | exact ty | refine ta ?_ ?_ | refine ti fun _ => ?_ | refine tf fun _ => ?_ | refine tl ?_)
 all_goals try exact vlf
 · rename_i b0 h0
   refine Stands.one (0 : Nat) ⟨⟨zn _, by simp⟩, ?_⟩
   exact vgo
 all_goals try (rename_i b0 h0 v hv h2; change Nat at v; have h2 := ow h2; first | exact h2 | exact on_of ho (by omega) | (show (v : Int).toNat + 0 < l.length; omega))
 · rename_i b0 h0 v hv h2 h3
   change Nat at v
   have h2 := ow h2
   have h0 : (decide (70 < (n : Int)) || decide (100 < (n' : Int))) = false := h0
   simp only [yi, decide_eq_false_iff_not] at h0
   exact inR64 (by show _ ≤ (v : Int) + 1; omega) (by show (v : Int) + 1 ≤ _; omega)
 · rename_i b0 h0 v hv h2 h3
   change Nat at v
   have h2 := ow h2
   obtain ⟨e1, e2⟩ := hv
   have h3 : ¬ (((l.getD v (none, 0, 0)).2.1 : Nat) : Int) ≠ 2 := ov h3
   refine Stands.one (v + 1 : Nat) ⟨⟨by rw [tk_len h1]; omega, ?_⟩, ?_, ?_⟩
   · intro r2 hr2
     have hr2 : r2 ∈ (l.take n).take (v + 1) := hr2
     rw [take_snoc (d := (none, 0, 0)) (by rw [tk_len h1]; omega), tk_at (by omega)] at hr2
     rcases List.mem_append.1 hr2 with h4 | h4
     · exact e2 r2 h4
     · rw [List.mem_singleton.1 h4]; omega
   · show (l.take n).length - (v + 1) < (l.take n).length - v
     rw [tk_len h1]; omega
   exact vgo
 · rename_i b0 h0 v hv h2
   change Nat at v
   have h2 := ov h2
   obtain ⟨e1, e2⟩ := hv
   rw [zu (by rw [tk_len h1]; omega)] at e2
   obtain ⟨r, hr1, hr2⟩ := hr
   exact absurd (e2 r hr1) hr2
def pcFairO : Pc Tryd.prog C0 where
 tg := .fn 9
 X := Hd × (Bool × Nat × Nat × List Raw × Nat × Nat) × Sq Slot
 args := fun (h, (o, b, q, l, n, c), (o', b', q', l', n', c')) => [ptv h (.sl 0 0 n c) (.sl 1 0 n' c')]
 mem := fun (h, (o, b, q, l, n, c), (o', b', q', l', n', c')) => [⟨b, q, 1, false, some o, .rows 1071 l⟩, ⟨b', q', 9, false, some o', .rows 74 l'⟩]
 pre := fun (h, (o, b, q, l, n, c), (o', b', q', l', n', c')) => n ≤ l.length ∧ (o = false → n = 0 ∧ c = 0) ∧ ∃ r ∈ l.take n, r.2.1 ≠ 2
 res := fun (h, (o, b, q, l, n, c), (o', b', q', l', n', c')) => .bool .f
 mat vs m := match vs with
  | [.agg [.int _ h1, .int _ h2, .int _ h3, .int _ h4, .sl a 0 n c, .sl a' 0 n' c']] => match nth m a, nth m a' with
    | ⟨b, q, _, _, g, .rows 1071 l⟩, ⟨b', q', _, _, g', .rows 74 l'⟩ => some (((h1, h2, h3, h4), (onOf g, b, q, l, n, c), (onOf g', b', q', l', n', c')), [a, a'])
    | _, _ => none
  | _ => none
 ok := fun (h, (o, b, q, l, n, c), (o', b', q', l', n', c')) x => fairO_ok h o b q l n c o' b' q' l' n' c' x.1 x.2.1 x.2.2
end Go.Vx
namespace Go.Vx
open Go Go.Proofs
variable [Gl]
theorem pagesO_ok (h : Hd) (o : Bool) (b q : Nat) (l : List Raw) (n c : Nat) (o2 : Bool) (b2 q2 : Nat) (l2 : List Slot) (n2 c2 : Nat)
 (h1 : n ≤ l.length) (ho : o = false → n = 0 ∧ c = 0) (hr : ∃ r ∈ l.take n, r.2.1 ≠ 2) :
 Tells (C := C0) Tryd.prog (.fn 7) [⟨b, q, 1, false, some o, .rows 1071 l⟩, ⟨b2, q2, 9, false, some o2, .rows 74 l2⟩] [ptv h (.sl 0 0 n c) (.sl 1 0 n2 c2)] (.bool .t) := by
 refine loc_pc (P := Tryd.prog) (E := ⟨[], [pcFirst, pcFairO], 240, [], [], []⟩) (L := []) mix Tryd.func7 rfl (by kernel_rfl) (by kernel_rfl) rfl rfl ?_
 ((conv => arg 1; reduce); with_reducible repeat' first | exact ty | refine ta ?_ ?_ | refine ti fun _ => ?_ | refine tf fun _ => ?_ | refine tl ?_)
 all_goals try exact vlf
 · exact ⟨h1, ho, hr⟩
end Go.Vx
namespace Go.Vx
open Go Go.Proofs Go.ChangeShapes Go.WideShapes Go.Deep Go.RowKit Go.Proofs.YtmdnpfocihfkdaaDoor
theorem c3 : Tryd.prog.cellsOf 3 = 1 := by kernel_rfl
theorem c9 : Tryd.prog.cellsOf 9 = 1 := by kernel_rfl
theorem c66 : Tryd.prog.cellsOf 66 = 2 := by kernel_rfl
theorem c68 : Tryd.prog.cellsOf 68 = 6 := by kernel_rfl
theorem c74 : Tryd.prog.cellsOf 74 = 9 := by kernel_rfl
theorem c212 : Tryd.prog.cellsOf 212 = 1 := by kernel_rfl
theorem star : "*" ++ "errors.errorString" = "*errors.errorString" := by decide
theorem row195 (u : TypeId) (h : Tryd.prog.typeName? 3 u = some "*errors.errorString") : u = 195 :=
 typeName_ptr_named (nm := "errors.errorString") (by rw [star]; kernel_rfl) (by kernel_rfl) (by decide) u (by rw [star]; exact h)
theorem gl_of {W : World} {L : List (String × DataW Unit)} {G0 : List Nat} {N : Nat} (pos : Nat → Nat) (hp : ∀ g, g < N → pos g < G0.length ∧ G0.getD (pos g) 0 = g) (hL : SentL Tryd.prog "*errors.errorString" 30 L G0) (h : laidMet Tryd.prog L W) :
 ∃ G : Gl, @Gl.lv G = N ∧ (∀ i j, i < N → j < N → @Gl.A G i = @Gl.A G j → i = j) ∧ ∀ g, g < N →
 W.cell? ⟨g, 0, none⟩ = some (.iface 195 (.pointer (some (@Gl.A G g)))) ∧ W.heap[(@Gl.A G g).block]? = some (.cells (@Gl.c G g) (@Gl.t G g) (0, 0)) := by
 obtain ⟨ps, hv, hnd, hrows⟩ := h
 obtain ⟨az, hs, _⟩ := laid_all Tryd.underlying30 row195 Tryd.underlying195 Tryd.underlying212 rfl rfl Tryd.underlying9 c212 c9 _ _ _ hL hv hnd hrows
 have hex : ∀ g, ∃ p : Array Value × TypeId, g < N → W.heap[(az.getD (pos g) default).block]? = some (.cells p.1 p.2 (0, 0)) := by
  intro g
  by_cases hg : g < N
  · obtain ⟨_, c, t, h2⟩ := hs.get (pos g) (hp g hg).1
    exact ⟨(c, t), fun _ => h2⟩
  · exact ⟨(#[], 0), fun h => absurd h hg⟩
 refine ⟨⟨fun g => az.getD (pos g) default, fun g => (Classical.choose (hex g)).1, fun g => (Classical.choose (hex g)).2, N⟩, rfl, ?_, ?_⟩
 · intro i j hi hj he
   have := hs.one (hp i hi).1 (hp j hj).1 he
   rw [← (hp i hi).2, ← (hp j hj).2, this]
 · intro g hg
   obtain ⟨h1, _⟩ := hs.get (pos g) (hp g hg).1
   rw [(hp g hg).2] at h1
   exact ⟨h1, Classical.choose_spec (hex g) hg⟩
theorem gv_is [Gl] (g : Nat) : (C0 g).gv = glV g := by unfold C0; split <;> rfl
theorem gp_is [Gl] (g : Nat) : (C0 g).gpins = glP g := by unfold C0; split <;> rfl
theorem glB_lt [Gl] {g : Nat} {n : Nat} (h3 : 5 ≤ n) (hn : Gl.lv ≤ n) (h : glB g = true) : g < n := by
 unfold glB at h
 split at h
 · rename_i hb; have : g < 5 := by simpa using hb
   omega
 · have : g < Gl.lv := by simpa using h
   omega
theorem more_of [Gl] {W : World} {n : Nat} (h3 : 5 ≤ n) (hn : Gl.lv ≤ n) (h : ∀ g, g < n → W.cell? ⟨g, 0, none⟩ = some (.iface 195 (.pointer (some (Gl.A g)))) ∧ W.heap[(Gl.A g).block]? = some (.cells (Gl.c g) (Gl.t g) (0, 0)))
 {mem : List (Ck C0)} (hnw : noWr mem = true) (hd : ∀ c ∈ mem, ∀ t x, c.cells.Has t x → (C0 t).good W x ∧ ∀ b ∈ (C0 t).blks x, b < W.heap.size) : More (wrS mem) W W mem where
 gv g v hv := by
  rw [gv_is] at hv
  unfold glV at hv
  split at hv
  · rename_i hb
    have hg := glB_lt h3 hn hb
    simp only [Option.some.injEq] at hv
    subst hv
    obtain ⟨h1, _⟩ := h g hg
    refine ⟨h1, ?_, ?_⟩
    · rcases xr g W.heap.size with h' | h'
      · exact h'
      · simp [World.cell?, Array.getElem?_eq_none h'] at h1
    · rintro ⟨c, hc, hw, _⟩
      rw [noWr_ok hnw c hc] at hw; cases hw
  · cases hv
 gp g p hp := by
  rw [gp_is] at hp
  unfold glP at hp
  split at hp
  · rename_i hb
    have hg := glB_lt h3 hn hb
    rw [List.mem_singleton] at hp
    subst hp
    obtain ⟨_, h2⟩ := h g hg
    refine ⟨h2, heap_size_of h2, ?_⟩
    rintro ⟨c, hc, hw, _⟩
    rw [noWr_ok hnw c hc] at hw; cases hw
  · cases hp
 pin p hp := by cases hp
 nod := List.nodup_nil
 deep := deep_ro hnw hd
theorem place_open {H : Type} {enc : TypeId × Value → H} {w : World} {base : Nat} {spare : Nat → Bool} {held : Bool} {fuel : Nat} {cs : List Value} {y : DataW H × List MemPlace} (h : DataW.trod enc Tryd.prog w base spare held fuel 66 cs = some y) :
 ∃ b : Pl, cs[0]? = some (.int .i64 b.1) ∧ cs[1]? = some (.int .i64 b.2) := by
 obtain ⟨y0, y1, n, _, _, h0, h1⟩ := trod_struct2 Tryd.underlying66 h
 simp only [c3] at h0 h1
 obtain ⟨n0, e0, _, _⟩ := DataW.trod_int Tryd.underlying3 h0
 obtain ⟨n1, e1, _, _⟩ := DataW.trod_int Tryd.underlying3 h1
 exact ⟨(n0, n1), one_at e0, one_at e1⟩
theorem meta_open {H : Type} {enc : TypeId × Value → H} {w : World} {base : Nat} {spare : Nat → Bool} {held : Bool} {fuel : Nat} {cs : List Value} {y : DataW H × List MemPlace} (h : DataW.trod enc Tryd.prog w base spare held fuel 68 cs = some y) :
 ∃ m : Me, cs[0]? = some (.int .i64 m.kind) ∧ cs[1]? = some (.int .i64 m.key) ∧ cs[2]? = some (.int .i64 m.seq) ∧ cs[3]? = some (.int .i64 m.stamp) ∧ cs[4]? = some (.int .i64 m.batch) ∧ cs[5]? = some (.int .i64 m.floor) := by
 obtain ⟨xs, n, _, rfl, hl, hlen, hf⟩ := DataW.trod_struct Tryd.underlying68 h
 match xs, hlen with
 | [y0, y1, y2, y3, y4, y5], _ =>
   have h0 : DataW.trod enc Tryd.prog w base spare held n 3 ((cs.drop 0).take (Tryd.prog.cellsOf 3)) = some y0 := hf 0 _ rfl
   have h1 : DataW.trod enc Tryd.prog w base spare held n 3 ((cs.drop 1).take (Tryd.prog.cellsOf 3)) = some y1 := hf 1 _ rfl
   have h2 : DataW.trod enc Tryd.prog w base spare held n 3 ((cs.drop 2).take (Tryd.prog.cellsOf 3)) = some y2 := hf 2 _ rfl
   have h3 : DataW.trod enc Tryd.prog w base spare held n 3 ((cs.drop 3).take (Tryd.prog.cellsOf 3)) = some y3 := hf 3 _ rfl
   have h4 : DataW.trod enc Tryd.prog w base spare held n 3 ((cs.drop 4).take (Tryd.prog.cellsOf 3)) = some y4 := hf 4 _ rfl
   have h5 : DataW.trod enc Tryd.prog w base spare held n 3 ((cs.drop 5).take (Tryd.prog.cellsOf 3)) = some y5 := hf 5 _ rfl
   simp only [c3] at h0 h1 h2 h3 h4 h5
   obtain ⟨n0, e0, _, _⟩ := DataW.trod_int Tryd.underlying3 h0
   obtain ⟨n1, e1, _, _⟩ := DataW.trod_int Tryd.underlying3 h1
   obtain ⟨n2, e2, _, _⟩ := DataW.trod_int Tryd.underlying3 h2
   obtain ⟨n3, e3, _, _⟩ := DataW.trod_int Tryd.underlying3 h3
   obtain ⟨n4, e4, _, _⟩ := DataW.trod_int Tryd.underlying3 h4
   obtain ⟨n5, e5, _, _⟩ := DataW.trod_int Tryd.underlying3 h5
   exact ⟨⟨n0, n1, n2, n3, n4, n5⟩, one_at e0, one_at e1, one_at e2, one_at e3, one_at e4, one_at e5⟩
theorem slot_open {H : Type} {enc : TypeId × Value → H} {w : World} {base : Nat} {spare : Nat → Bool} {held : Bool} {fuel : Nat} {cs : List Value} {y : DataW H × List MemPlace} (h : DataW.trod enc Tryd.prog w base spare held fuel 74 cs = some y) :
 ∃ b : Slot, ∀ f, f < 9 → cs[f]? = some (cellV cSlot b f) := by
 obtain ⟨y0, y1, y2, n, _, _, h0, h1, h2⟩ := Go.Deep.trod_struct3 Tryd.underlying74 h
 simp only [c3, c66, c68] at h0 h1 h2
 obtain ⟨n0, e0, _, _⟩ := DataW.trod_int Tryd.underlying3 h0
 obtain ⟨p, hp0, hp1⟩ := place_open h1
 obtain ⟨m, m0, m1, m2, m3, m4, m5⟩ := meta_open h2
 refine ⟨⟨n0, p, m⟩, fun f hf => ?_⟩
 have p0 := part_at hp0
 have p1 := part_at hp1
 have k0 := part_at m0
 have k1 := part_at m1
 have k2 := part_at m2
 have k3 := part_at m3
 have k4 := part_at m4
 have k5 := part_at m5
 rcases f with _ | _ | _ | _ | _ | _ | _ | _ | _ | f
 · exact one_at e0
 · exact p0
 · exact p1
 · exact k0
 · exact k1
 · exact k2
 · exact k3
 · exact k4
 · exact k5
 · omega
structure PtIn (W : World) (a : Option Addr) (n c : Nat) (l : List (Rw Int)) (a2 : Option Addr) (n2 c2 : Nat) (l2 : List Slot) : Prop where
 bl : IsPart (rwCodec (cInt .i64)) W a n c l
 rw : ∀ r ∈ l, RwIn (cInt .i64) W r
 sl : IsPart cSlot W a2 n2 c2 l2
theorem point_open {H : Type} {enc : TypeId × Value → H} {W : World} {base b0 : Nat} {r : Reach} {v : Value} {d : DataW H} {p : List MemPlace} (hv : Value.okWide Tryd.prog W r b0 25 v)
 (h : DataW.Trod enc Tryd.prog W base (fun _ => true) true 25 v d p) :
 ∃ (h : Hd) (a : Option Addr) (n c : Nat) (a2 : Option Addr) (n2 c2 : Nat) (l2 : List Slot) (R : List Raw), v = .agg #[.int .i64 h.1, .int .i64 h.2.1, .int .i64 h.2.2.1, .int .i64 h.2.2.2, .slice a n c, .slice a2 n2 c2] ∧ IsPart cSlot W a2 n2 c2 l2 ∧
   R.length = n ∧ IsPart cRaw W a n c R ∧ ((∀ r ∈ R, r.2.1 = 2) → ∃ l : List (Rw Int), (∀ r ∈ l, r.l.length = 2) ∧ PtIn W a n c l a2 n2 c2 l2) := by
 obtain ⟨cs, rfl, hsz⟩ := okWide_struct Tryd.underlying25 hv
 obtain ⟨fuel, hf⟩ := h
 obtain ⟨xs, m, _, hx, hl, hlen, hall⟩ := DataW.trod_struct Tryd.underlying25 hf
 have c25 : Tryd.prog.cellsOf 25 = 6 := by kernel_rfl
 have c22 : Tryd.prog.cellsOf 22 = 1 := by kernel_rfl
 have c23 : Tryd.prog.cellsOf 23 = 1 := by kernel_rfl
 rw [c25] at hsz
 obtain ⟨l⟩ := cs
 match l, hsz, xs, hlen with
 | [v0, v1, v2, v3, v4, v5], _, [y0, y1, y2, y3, y4, y5], _ =>
   have h0 : DataW.trod enc Tryd.prog W base (fun _ => true) true m 3 (([v0, v1, v2, v3, v4, v5].drop 0).take (Tryd.prog.cellsOf 3)) = some y0 := hall 0 _ rfl
   have h1 : DataW.trod enc Tryd.prog W base (fun _ => true) true m 3 (([v0, v1, v2, v3, v4, v5].drop 1).take (Tryd.prog.cellsOf 3)) = some y1 := hall 1 _ rfl
   have h2 : DataW.trod enc Tryd.prog W base (fun _ => true) true m 3 (([v0, v1, v2, v3, v4, v5].drop 2).take (Tryd.prog.cellsOf 3)) = some y2 := hall 2 _ rfl
   have h3 : DataW.trod enc Tryd.prog W base (fun _ => true) true m 3 (([v0, v1, v2, v3, v4, v5].drop 3).take (Tryd.prog.cellsOf 3)) = some y3 := hall 3 _ rfl
   have h4 : DataW.trod enc Tryd.prog W base (fun _ => true) true m 22 (([v0, v1, v2, v3, v4, v5].drop 4).take (Tryd.prog.cellsOf 22)) = some y4 := hall 4 _ rfl
   have h5 : DataW.trod enc Tryd.prog W base (fun _ => true) true m 23 (([v0, v1, v2, v3, v4, v5].drop 5).take (Tryd.prog.cellsOf 23)) = some y5 := hall 5 _ rfl
   simp only [c3, c22, c23] at h0 h1 h2 h3 h4 h5
   obtain ⟨n0, e0, _, _⟩ := DataW.trod_int Tryd.underlying3 h0
   obtain ⟨n1, e1, _, _⟩ := DataW.trod_int Tryd.underlying3 h1
   obtain ⟨n2, e2, _, _⟩ := DataW.trod_int Tryd.underlying3 h2
   obtain ⟨n3, e3, _, _⟩ := DataW.trod_int Tryd.underlying3 h3
   have e0 : [v0] = [.int .i64 n0] := e0
   have e1 : [v1] = [.int .i64 n1] := e1
   have e2 : [v2] = [.int .i64 n2] := e2
   have e3 : [v3] = [.int .i64 n3] := e3
   cases e0; cases e1; cases e2; cases e3
   have h4 : DataW.trod enc Tryd.prog W base (fun _ => true) true m 22 [v4] = some y4 := h4
   have h5 : DataW.trod enc Tryd.prog W base (fun _ => true) true m 23 [v5] = some y5 := h5
   obtain ⟨a, n, c, e4⟩ := Go.Joins.slice_form Tryd.underlying22 h4
   obtain ⟨a2, n2', c2, e5⟩ := Go.Joins.slice_form Tryd.underlying23 h5
   cases e4; cases e5
   obtain ⟨R, r1, r2, r3⟩ := rws_open (b0 := 0) Tryd.underlying22 Tryd.underlying71 Tryd.underlying3 (by kernel_rfl) c3 (fun x hx => arg_at (i := 4) (a := x) (len := n) (cap := c) Tryd.underlying25 hv (by rw [hx]; rfl)) h4
   obtain ⟨zs2, w3⟩ := rows_open2 cSlot Tryd.underlying23 c74 (fun _ _ _ h => slot_open h) (fun x hx => arg_at (i := 5) (a := x) (len := n2') (cap := c2) Tryd.underlying25 hv (by rw [hx]; rfl)) h5
   refine ⟨(n0, n1, n2, n3), a, n, c, a2, n2', c2, zs2, R, rfl, w3.part, r1, r2, fun hR => ?_⟩
   obtain ⟨zs, z1, z2, z3, z4⟩ := r3 fun r hr => by rw [hR r hr]; decide
   refine ⟨zs, fun r hr => ?_, z3, fun r hr => (z4 r hr).1, w3.part⟩
   obtain ⟨i, hi, rfl⟩ := List.getElem_of_mem hr
   have := z2 i (by omega)
   rw [zz, zv hi, zz, zv (by omega)] at this
   simp only [zb] at this
   rw [this]
   exact hR _ (List.getElem_mem _)
end Go.Vx
