/-
  Round 23: a point that may be.
  Round 23: a point's pages, in order: plain facts.
  Round 23: a point that may be, az the document has it.
  Round 23: a point's bytes.
  Round 23: bytes in pieces.
  Round 23: plain facts: numbers and their four bytes; a point's numbers.
  Round 23: bytes of pieces.
  Round 23: pieces joined are what they were pieces of.
  Round 23: a reader of numbers; what bytes are a point.
  Conditions: none.
-/
import Derived.Test.YtmdnpfocihfkdaaDoorM5
open Bool renaming and_assoc → sj, and_eq_false_iff → vu, and_eq_true → zx, false_or → qa, noConfusion → xf, not_and → tw, not_eq_false' → wy, not_eq_true' → zl, not_true → qe, or_eq_false_iff → yi, or_eq_true → yr, or_false → ry, true_and → tt
open Int renaming eq_ofNat_of_zero_le → sd, fdiv_eq_ediv_of_nonneg → ur, le_refl → ui, lt_trichotomy → pm, tdiv_eq_ediv_of_nonneg → rb
open List renaming append_assoc → zm, append_nil → zk, cons_append → wg, drop → vj, drop_append_of_le_length → xe, drop_drop → wz, drop_eq_getElem_cons → vx, drop_of_length_le → vi, drop_take → uh, drop_zero → xi, ext_getElem → qw, filter_append → ze, flatMap_append → uy, flatMap_cons → um, flatMap_singleton → ua, getD_eq_getElem?_getD → zz, getElem?_eq_getElem → zv, getElem?_eq_none → ya, getElem?_map → zh, getElem?_range → tj, getElem_mem → xk, length_append → zw, length_cons → xz, length_drop → zj, length_map → zt, length_nil → uv, length_replicate → wm, length_take → zp, map_append → yy, map_cons → ym, map_nil → sm, mem_cons → we, mem_cons_self → xj, mem_of_mem_drop → xn, nil_append → xl, not_mem_nil → ww, pairwise_singleton → sh, range → vh, range_succ → vw, replicate → zq, take → wx, take_add → vo, take_append_of_le_length → yh, take_of_length_le → zu, take_take → vm, take_zero → xv
open Nat renaming add_mul → zf, add_zero → xb, blt → xh, le_refl → zy, lt_of_le_of_lt → yp, lt_or_ge → xr, min_eq_left → rk, not_lt_zero → ue, one_mul → uj, zero_le → zn, zero_mul → vp
open Option renaming getD_some → zb
open Prod renaming ext → uf
set_option linter.unusedVariables false
set_option linter.unusedSimpArgs false
set_option linter.unusedSectionVars false
set_option maxRecDepth 100000
namespace Go.Vx
open Go Go.Proofs
variable [Gl]
def okB (ok : Bool) (i : Nat) (p b : Pl) : Bool := ok && (cn b.1 && cn b.2) && decide (b.1 < 64) && (decide (i = 0) || decide (p.1 < b.1))
def okBs : List Pl → Nat → Bool
 | _, 0 => true
 | A, i + 1 => okB (okBs A i) i (A.getD (i - 1) (0, 0)) (A.getD i (0, 0))
def okS (A : List Pl) (ok : Bool) (i : Nat) (p s : Slot) : Bool := ok && anyF (fun x => decide (x.1 = s.pl.1)) A && (cn s.key && cn s.pl.2) && decide (s.pl.2 < 64) && okMe s.me && (decide (i = 0) || (decide (p.pl.1 < s.pl.1) || (decide (p.pl.1 = s.pl.1) && decide (p.pl.2 < s.pl.2))))
def okSs (A : List Pl) (ok : Bool) (B : List Slot) : Nat → Bool
 | 0 => ok
 | i + 1 => okS A (okSs A ok B i) i (B.getD (i - 1) slot0) (B.getD i slot0)
def okH (h : Hd) : Bool := cn h.1 && cn h.2.1 && cn h.2.2.1 && cn h.2.2.2
@[irreducible] def okP (h : Hd) (A : List Pl) (B : List Slot) : Bool := okSs A (okH h && okBs A A.length) B B.length
def Mb (h : Hd) (A : List Pl) : Inv' C0 := ⟨3, Nat × Bool, fun x => [(22, .int .i64 (x.1 : Int)), (3, .bool (.tm x.2))], fun _ m => m, fun x => x.1 ≤ A.length ∧ x.2 = (okH h && okBs A x.1), fun x => A.length - x.1⟩
def Ms (h : Hd) (A : List Pl) (B : List Slot) : Inv' C0 := ⟨8, Nat × Bool, fun x => [(61, .int .i64 (x.1 : Int)), (3, .bool (.tm x.2))], fun _ m => m, fun x => x.1 ≤ B.length ∧ x.2 = okSs A (okH h && okBs A A.length) B x.1, fun x => B.length - x.1⟩
theorem pred_nat {v : Nat} : ((v : Int) - 1).toNat + 0 = v - 1 := by omega
theorem int_zero {v : Nat} : decide ((v : Int) = 0) = decide (v = 0) := by rw [decide_eq_decide]; omega
theorem alln2 (a b : Int) : alln [a, b] = (cn a && cn b) := by unfold alln; simp
theorem alln4 (a b c d : Int) : alln [a, b, c, d] = (cn a && cn b && cn c && cn d) := by unfold alln; simp [sj]
set_option maxHeartbeats 8000000 in
theorem pmay_ok (h : Hd) (o : Bool) (b q : Nat) (l : List Pl) (n c : Nat) (o2 : Bool) (b2 q2 : Nat) (l2 : List Slot) (n2 c2 : Nat)
 (h1 : Sq.ok (o, b, q, l, n, c)) (h2 : Sq.ok (o2, b2, q2, l2, n2, c2)) (hn : n ≤ 1000000) (hn2 : n2 ≤ 1000000) :
 Tells (C := C0) Tryd.prog (.fn 13) [⟨b, q, 2, false, some o, .rows 87 l⟩, ⟨b2, q2, 9, false, some o2, .rows 88 l2⟩] [ptv h (.sl 0 0 n c) (.sl 1 0 n2 c2)] (.bool (.tm (okP h (l.take n) (l2.take n2)))) := by
 have hnl : n ≤ l.length := h1.2.1
 have hnl2 : n2 ≤ l2.length := h2.2.1
 refine loc_pc (P := Tryd.prog) (E := ⟨[], [pcNumb, pcHasb, pcMay, pcAhead], 112, [(5, [], pmayA),
  (11, [], pmayB)], [], []⟩) (L := [Mb h (l.take n), Ms h (l.take n) (l2.take n2)]) mix Tryd.func13 rfl (by kernel_rfl) (by kernel_rfl) rfl rfl ?_
 ((conv => arg 1; reduce); with_reducible repeat' first | exact ty | refine ta ?_ ?_ | refine ti fun _ => ?_ | refine tf fun _ => ?_ | refine tl ?_)
 all_goals try exact pmayA_ok _ (by kernel_rfl)
 all_goals try exact pmayB_ok _ (by kernel_rfl)
 all_goals try (first | exact vlf | ((try dsimp only [Mb] at *); exact vau))
 · exact ⟨zy _, by decide, fun h => xf h⟩
 · refine Stands.one (0, okH h) ⟨⟨zn _, by simp [okBs]⟩, ?_⟩
   ((conv => arg 1; reduce); with_reducible repeat' first | exact ty | refine ta ?_ ?_ | refine ti fun _ => ?_ | refine tf fun _ => ?_ | refine tl ?_)
   all_goals try exact vlf
   exact alln4 _ _ _ _
 iterate 2 (
  focus
  rename_i b0 b1 v hv h3
  have hq := hv
  obtain ⟨v, k⟩ := v
  obtain ⟨e1, e2⟩ : v ≤ (l.take n).length ∧ k = (okH h && okBs (l.take n) v) := hq
  have h3 : v < n := Int.ofNat_lt.1 (ow h3)
  first
   | (exact on_of h1.2.2 (yp (zn _) h3)
      done))
 · exact ⟨zy _, by decide, fun h => xf h⟩
 iterate 2 (
  focus
  rename_i b0 b1 v hv h3 b2 hk b3 hg h5
  have hq := hv
  obtain ⟨v, k⟩ := v
  obtain ⟨e1, e2⟩ : v ≤ (l.take n).length ∧ k = (okH h && okBs (l.take n) v) := hq
  have h3 : v < n := Int.ofNat_lt.1 (ow h3)
  first
   | (exact on_of h1.2.2 (yp (zn _) h3)
      done))
 · rename_i b0 b1 v hv h3 b2 hk b3
   have hq := hv
   obtain ⟨v, k⟩ := v
   obtain ⟨e1, e2⟩ : v ≤ (l.take n).length ∧ k = (okH h && okBs (l.take n) v) := hq
   have h3 : v < n := Int.ofNat_lt.1 (ow h3)
   refine Stands.one (v + 1, okB k v (l.getD (v - 1) (0, 0)) (l.getD v (0, 0))) ⟨⟨by rw [tk_len hnl]; omega, ?_⟩, ?_, ?_⟩
   · show okB _ _ _ _ = (okH h && okBs (l.take n) (v + 1))
     rw [okBs, tk_at (by omega), tk_at (by omega), e2]
     unfold okB
     simp only [sj]
   · show (l.take n).length - (v + 1) < (l.take n).length - v
     rw [tk_len hnl]; omega
   ((conv => arg 1; reduce); with_reducible repeat' first | exact ty | refine ta ?_ ?_ | refine ti fun _ => ?_ | refine tf fun _ => ?_ | refine tl ?_)
   all_goals try exact vlf
   have hk : k = true := hk
   show (alln [(l.getD v (0, 0)).1, (l.getD v (0, 0)).2] && decide ((l.getD v (0, 0)).1 < 64) && (decide ((v : Int) = 0) || decide ((l.getD (((v : Int) - 1).toNat + 0) (0, 0)).1 < (l.getD v (0, 0)).1))) = okB k v _ _
   rw [alln2, hk, pred_nat, int_zero]
   unfold okB
   simp only [tt]
 · rename_i b0 b1 v hv h3 b2 hk
   have hq := hv
   obtain ⟨v, k⟩ := v
   obtain ⟨e1, e2⟩ : v ≤ (l.take n).length ∧ k = (okH h && okBs (l.take n) v) := hq
   have h3 : v < n := Int.ofNat_lt.1 (ow h3)
   refine Stands.one (v + 1, okB k v (l.getD (v - 1) (0, 0)) (l.getD v (0, 0))) ⟨⟨by rw [tk_len hnl]; omega, ?_⟩, ?_, ?_⟩
   · show okB _ _ _ _ = (okH h && okBs (l.take n) (v + 1))
     rw [okBs, tk_at (by omega), tk_at (by omega), e2]
     unfold okB
     simp only [sj]
   · show (l.take n).length - (v + 1) < (l.take n).length - v
     rw [tk_len hnl]; omega
   ((conv => arg 1; reduce); with_reducible repeat' first | exact ty | refine ta ?_ ?_ | refine ti fun _ => ?_ | refine tf fun _ => ?_ | refine tl ?_)
   all_goals try exact vlf
   have hk : k = false := hk
   show false = okB k v _ _
   rw [hk]; unfold okB; rfl
 · rename_i b0 b1 v hv h3
   obtain ⟨v, k⟩ := v
   obtain ⟨e1, e2⟩ : v ≤ (l.take n).length ∧ k = (okH h && okBs (l.take n) v) := hv
   have h3 : ¬ v < n := fun h => ov h3 (Int.ofNat_lt.2 h)
   obtain rfl : v = n := by rw [tk_len hnl] at e1; omega
   refine Stands.one (0, k) ⟨⟨zn _, by rw [tk_len hnl]; exact e2⟩, ?_⟩
   exact vgo
 iterate 2 (
  focus
  rename_i b0 b1 v hv h3 w hw h4
  have hq := hw
  obtain ⟨w, k⟩ := w
  obtain ⟨e1, e2⟩ : w ≤ (l2.take n2).length ∧ k = okSs (l.take n) (okH h && okBs (l.take n) (l.take n).length) (l2.take n2) w := hq
  have h4 : w < n2 := Int.ofNat_lt.1 (ow h4)
  first
   | (exact on_of h2.2.2 (yp (zn _) h4)
      done))
 · rename_i b0 b1 v hv h3 w hw h4 b2
   have hq := hw
   obtain ⟨w, k⟩ := w
   obtain ⟨e1, e2⟩ : w ≤ (l2.take n2).length ∧ k = okSs (l.take n) (okH h && okBs (l.take n) (l.take n).length) (l2.take n2) w := hq
   have h4 : w < n2 := Int.ofNat_lt.1 (ow h4)
   exact ⟨by show 0 + n ≤ l.length; omega, by show n < _; omega, h1.2.2⟩
 · exact ⟨zy _, by decide, fun h => xf h⟩
 iterate 2 (
  focus
  rename_i b0 b1 v hv h3 w hw h4 b2 hk b3 hg h5
  have hq := hw
  obtain ⟨w, k⟩ := w
  obtain ⟨e1, e2⟩ : w ≤ (l2.take n2).length ∧ k = okSs (l.take n) (okH h && okBs (l.take n) (l.take n).length) (l2.take n2) w := hq
  have h4 : w < n2 := Int.ofNat_lt.1 (ow h4)
  first
   | (exact on_of h2.2.2 (yp (zn _) h4)
      done))
 · rename_i b0 b1 v hv h3 w hw h4 b2 hk b3
   have hq := hw
   obtain ⟨w, k⟩ := w
   obtain ⟨e1, e2⟩ : w ≤ (l2.take n2).length ∧ k = okSs (l.take n) (okH h && okBs (l.take n) (l.take n).length) (l2.take n2) w := hq
   have h4 : w < n2 := Int.ofNat_lt.1 (ow h4)
   refine Stands.one (w + 1, okS (l.take n) k w (l2.getD (w - 1) slot0) (l2.getD w slot0)) ⟨⟨by rw [tk_len hnl2]; omega, ?_⟩, ?_, ?_⟩
   · show okS _ _ _ _ _ = okSs _ _ _ (w + 1)
     rw [okSs, tk_at (by omega), tk_at (by omega), e2]
   · show (l2.take n2).length - (w + 1) < (l2.take n2).length - w
     rw [tk_len hnl2]; omega
   ((conv => arg 1; reduce); with_reducible repeat' first | exact ty | refine ta ?_ ?_ | refine ti fun _ => ?_ | refine tf fun _ => ?_ | refine tl ?_)
   all_goals try exact vlf
   have hk : (k && anyF (fun x => decide (x.1 = (l2.getD w slot0).pl.1)) (l.take n)) = true := hk
   show (alln [(l2.getD w slot0).key, (l2.getD w slot0).pl.2] && decide ((l2.getD w slot0).pl.2 < 64) && okMe (l2.getD w slot0).me && (decide ((w : Int) = 0) ||
    (decide ((l2.getD (((w : Int) - 1).toNat + 0) slot0).pl.1 < (l2.getD w slot0).pl.1) || (decide ((l2.getD (((w : Int) - 1).toNat + 0) slot0).pl.1 = (l2.getD w slot0).pl.1) && decide ((l2.getD (((w : Int) - 1).toNat + 0) slot0).pl.2 < (l2.getD w slot0).pl.2))))) = okS (l.take n) k w _ _
   rw [alln2, pred_nat, int_zero]
   unfold okS
   rw [hk]
   simp only [tt]
 · rename_i b0 b1 v hv h3 w hw h4 b2 hk
   have hq := hw
   obtain ⟨w, k⟩ := w
   obtain ⟨e1, e2⟩ : w ≤ (l2.take n2).length ∧ k = okSs (l.take n) (okH h && okBs (l.take n) (l.take n).length) (l2.take n2) w := hq
   have h4 : w < n2 := Int.ofNat_lt.1 (ow h4)
   refine Stands.one (w + 1, okS (l.take n) k w (l2.getD (w - 1) slot0) (l2.getD w slot0)) ⟨⟨by rw [tk_len hnl2]; omega, ?_⟩, ?_, ?_⟩
   · show okS _ _ _ _ _ = okSs _ _ _ (w + 1)
     rw [okSs, tk_at (by omega), tk_at (by omega), e2]
   · show (l2.take n2).length - (w + 1) < (l2.take n2).length - w
     rw [tk_len hnl2]; omega
   ((conv => arg 1; reduce); with_reducible repeat' first | exact ty | refine ta ?_ ?_ | refine ti fun _ => ?_ | refine tf fun _ => ?_ | refine tl ?_)
   all_goals try exact vlf
   have hk : (k && anyF (fun x => decide (x.1 = (l2.getD w slot0).pl.1)) (l.take n)) = false := hk
   show false = okS (l.take n) k w _ _
   unfold okS
   rw [hk]
   rfl
 · rename_i b0 b1 v hv h3 w hw h4
   obtain ⟨w, k⟩ := w
   obtain ⟨e1, e2⟩ : w ≤ (l2.take n2).length ∧ k = okSs (l.take n) (okH h && okBs (l.take n) (l.take n).length) (l2.take n2) w := hw
   have h4 : ¬ w < n2 := fun h => ov h4 (Int.ofNat_lt.2 h)
   obtain rfl : w = n2 := by rw [tk_len hnl2] at e1; omega
   show k = okP _ _ _
   unfold okP
   rw [e2, tk_len hnl2]
def pcPmay : Pc Tryd.prog C0 where
 tg := .fn 13
 X := Hd × Sq Pl × Sq Slot
 args := fun (h, (o, b, q, l, n, c), (o2, b2, q2, l2, n2, c2)) => [ptv h (.sl 0 0 n c) (.sl 1 0 n2 c2)]
 mem := fun (h, (o, b, q, l, n, c), (o2, b2, q2, l2, n2, c2)) => [⟨b, q, 2, false, some o, .rows 87 l⟩, ⟨b2, q2, 9, false, some o2, .rows 88 l2⟩]
 pre := fun (h, (o, b, q, l, n, c), (o2, b2, q2, l2, n2, c2)) => Sq.ok (o, b, q, l, n, c) ∧ Sq.ok (o2, b2, q2, l2, n2, c2) ∧ n ≤ 1000000 ∧ n2 ≤ 1000000
 res := fun (h, (o, b, q, l, n, c), (o2, b2, q2, l2, n2, c2)) => .bool (.tm (okP h (l.take n) (l2.take n2)))
 mat vs m := match vs with
  | [.agg [.int _ h1, .int _ h2, .int _ h3, .int _ h4, sa, sb]] => match sa, sb with
    | .sl a 0 n c, .sl a' 0 n' c' => match nth m a, nth m a' with
      | ⟨b, q, _, _, g, .rows 87 l⟩, ⟨b', q', _, _, g', .rows 88 l'⟩ => some (((h1, h2, h3, h4), (onOf g, b, q, l, n, c), (onOf g', b', q', l', n', c')), [a, a'])
      | _, _ => none
    | .nils, .nils => some (((h1, h2, h3, h4), (false, 0, 0, [], 0, 0), (false, 0, 0, [], 0, 0)), [m.length, m.length + 1])
    | _, _ => none
  | _ => none
 ok := fun (h, (o, b, q, l, n, c), (o2, b2, q2, l2, n2, c2)) x => pmay_ok h o b q l n c o2 b2 q2 l2 n2 c2 x.1 x.2.1 x.2.2.1 x.2.2.2
end Go.Vx
namespace Go.Vx
open Go Go.Proofs
variable [Gl]
def pLt (p q : Pl) : Prop := p.1 < q.1 ∨ p.1 = q.1 ∧ p.2 < q.2
theorem pLt_tr {p q r : Pl} (h : pLt p q) (h' : pLt q r) : pLt p r := by unfold pLt at *; omega
theorem perm_eq {α : Type} {R : α → α → Prop} (hR : ∀ {x y}, R x y → ¬ R y x) : ∀ {A B : List α}, A.Perm B → A.Pairwise R → B.Pairwise R → A = B
 | [], B, h, _, _ => by rw [List.nil_perm.1 h]
 | x :: A, [], h, _, _ => absurd h.length_eq (by simp)
 | x :: A, y :: B, h, hA, hB => by
   obtain ⟨a1, a2⟩ := List.pairwise_cons.1 hA
   obtain ⟨b1, b2⟩ := List.pairwise_cons.1 hB
   have e : x = y := by
    rcases List.mem_cons.1 (h.mem_iff.1 (xj (a := x) (l := A))) with h1 | h1
    · exact h1
    · rcases List.mem_cons.1 (h.mem_iff.2 (xj (a := y) (l := B))) with h2 | h2
      · exact h2.symm
      · exact absurd (a1 y h2) (hR (b1 x h1))
   subst e
   rw [perm_eq hR h.cons_inv a2 b2]
theorem okBs_facts {A : List Pl} : ∀ {i : Nat}, i ≤ A.length → okBs A i = true → (A.take i).Pairwise (fun x y => x.1 < y.1) ∧ (∀ x ∈ A.take i, 0 ≤ x.1 ∧ x.1 < 64) ∧ ∀ x ∈ A.take i, x.1 ≤ (A.getD (i - 1) (0, 0)).1
 | 0, _, _ => by rw [xv]; exact ⟨List.Pairwise.nil, (fun x h => by cases h), (fun x h => by cases h)⟩
 | i + 1, hi, h => by
   have h : okB (okBs A i) i (A.getD (i - 1) (0, 0)) (A.getD i (0, 0)) = true := h
   unfold okB at h
   simp only [zx, yr, decide_eq_true_eq, cn_iff] at h
   obtain ⟨⟨⟨h1, h2, h3⟩, h4⟩, h5⟩ := h
   obtain ⟨p1, p2, p3⟩ := okBs_facts (by omega) h1
   have hlt : ∀ a ∈ A.take i, a.1 < (A.getD i (0, 0)).1 := fun a ha => by
    have := p3 a ha
    rcases h5 with h5 | h5
    · subst h5; rw [xv] at ha; cases ha
    · omega
   rw [take_snoc' (d := (0, 0)) (by omega)]
   refine ⟨List.pairwise_append.2 ⟨p1, sh _ _, fun a ha b hb => by rw [List.mem_singleton.1 hb]; exact hlt a ha⟩, fun x hx => ?_, fun x hx => ?_⟩
   · rcases List.mem_append.1 hx with hx | hx
     · exact p2 x hx
     · rw [List.mem_singleton.1 hx]; exact ⟨h2.1, h4⟩
   · show x.1 ≤ (A.getD i (0, 0)).1
     rcases List.mem_append.1 hx with hx | hx
     · exact Int.le_of_lt (hlt x hx)
     · rw [List.mem_singleton.1 hx]; exact ui _
theorem okSs_facts {A : List Pl} {ok : Bool} {B : List Slot} : ∀ {i : Nat}, i ≤ B.length → okSs A ok B i = true → ok = true ∧ (B.take i).Pairwise (fun x y => pLt x.pl y.pl) ∧ (∀ x ∈ B.take i, (∃ y ∈ A, y.1 = x.pl.1) ∧ 0 ≤ x.pl.2 ∧ x.pl.2 < 64) ∧ ∀ x ∈ B.take i, x.pl = (B.getD (i - 1) slot0).pl ∨ pLt x.pl (B.getD (i - 1) slot0).pl
 | 0, _, h => by rw [xv]; exact ⟨h, List.Pairwise.nil, (fun x h => by cases h), (fun x h => by cases h)⟩
 | i + 1, hi, h => by
   have h : okS A (okSs A ok B i) i (B.getD (i - 1) slot0) (B.getD i slot0) = true := h
   unfold okS at h
   simp only [zx, yr, decide_eq_true_eq, cn_iff] at h
   obtain ⟨⟨⟨⟨⟨h1, h2⟩, h3⟩, h4⟩, h6⟩, h5⟩ := h
   obtain ⟨p0, p1, p2, p3⟩ := okSs_facts (by omega) h1
   have hlt : ∀ a ∈ B.take i, pLt a.pl (B.getD i slot0).pl := fun a ha => by
    have := p3 a ha
    rcases h5 with h5 | h5
    · subst h5; rw [xv] at ha; cases ha
    · have h5 : pLt (B.getD (i - 1) slot0).pl (B.getD i slot0).pl := h5
      rcases this with e | e
      · rw [e]; exact h5
      · exact pLt_tr e h5
   rw [take_snoc' (d := slot0) (by omega)]
   refine ⟨p0, List.pairwise_append.2 ⟨p1, sh _ _, fun a ha b hb => by rw [List.mem_singleton.1 hb]; exact hlt a ha⟩, fun x hx => ?_, fun x hx => ?_⟩
   · rcases List.mem_append.1 hx with hx | hx
     · exact p2 x hx
     · rw [List.mem_singleton.1 hx]
       refine ⟨?_, h3.2.1, h4⟩
       unfold anyF at h2
       obtain ⟨y, hy, e⟩ := List.any_eq_true.1 h2
       exact ⟨y, hy, ow e⟩
   · show x.pl = (B.getD i slot0).pl ∨ pLt x.pl (B.getD i slot0).pl
     rcases List.mem_append.1 hx with hx | hx
     · exact .inr (hlt x hx)
     · rw [List.mem_singleton.1 hx]; exact .inl rfl
structure OkF (A : List Pl) (B : List Slot) : Prop where
 a : A.Pairwise fun x y => x.1 < y.1
 ai : ∀ x ∈ A, 0 ≤ x.1 ∧ x.1 < 64
 b : B.Pairwise fun x y => pLt x.pl y.pl
 bi : ∀ x ∈ B, (0 ≤ x.pl.1 ∧ x.pl.1 < 64) ∧ 0 ≤ x.pl.2 ∧ x.pl.2 < 64
theorem okP_facts {h : Hd} {A : List Pl} {B : List Slot} (hp : okP h A B = true) : OkF A B := by
 unfold okP at hp
 obtain ⟨p0, p1, p2, p3⟩ := okSs_facts (zy _) hp
 obtain ⟨q1, q2, q3⟩ := okBs_facts (zy _) (Bool.and_eq_true_iff.1 p0).2
 rw [List.take_length] at p1 p2 p3 q1 q2 q3
 exact ⟨q1, q2, p1, fun x hx => ⟨by obtain ⟨⟨y, hy, e⟩, _⟩ := p2 x hx; rw [← e]; exact q2 y hy, (p2 x hx).2⟩⟩
abbrev pz (x : Pg) : Bool := decide (x.pl.2 = 0)
structure PgsOf (f : Int) (A : List Pl) (B : List Slot) (W : List Pg) : Prop where
 up : W.Pairwise fun x y => pLt x.pl y.pl
 hd : W.filter pz = A.map (hdP f)
 sl : (W.filter fun x => !pz x) = B.filterMap slP
 wh : ∀ x ∈ W, x.cl = 1 ∧ (0 ≤ x.pl.1 ∧ x.pl.1 < 64) ∧ 0 ≤ x.pl.2 ∧ x.pl.2 < 64
 len : W.length ≤ A.length + B.length
theorem slP_some {s : Slot} {x : Pg} (h : slP s = some x) : 0 < s.pl.2 ∧ x = ⟨s.pl, 1, s.me⟩ := by
 unfold slP at h
 split at h
 · rename_i h1
   simp only [Option.some.injEq] at h
   exact ⟨h1, h.symm⟩
 · cases h
theorem pgs_of {f : Int} {A : List Pl} {B : List Slot} {W : List Pg} (F : OkF A B) (hp : W.Perm (A.map (hdP f) ++ B.filterMap slP)) (hs : Srd ltP W) : PgsOf f A B W := by
 have hH : ∀ x ∈ A.map (hdP f), x.pl.2 = 0 := fun x hx => by
  obtain ⟨y, hy, rfl⟩ := List.mem_map.1 hx; rfl
 have hS : ∀ x ∈ B.filterMap slP, 0 < x.pl.2 := fun x hx => by
  obtain ⟨y, hy, e⟩ := List.mem_filterMap.1 hx
  obtain ⟨e1, rfl⟩ := slP_some e
  exact e1
 have uH : (A.map (hdP f)).Pairwise fun x y => pLt x.pl y.pl := by
  rw [List.pairwise_map]
  exact F.a.imp fun {a b} h => .inl h
 have uS : (B.filterMap slP).Pairwise fun x y => pLt x.pl y.pl := by
  rw [List.pairwise_filterMap]
  refine F.b.imp fun {a b} h x hx y hy => ?_
  obtain ⟨_, rfl⟩ := slP_some hx
  obtain ⟨_, rfl⟩ := slP_some hy
  exact h
 have ne : ∀ {a b : Pg}, pLt a.pl b.pl → a.pl ≠ b.pl := fun {a b} h e => by
  rw [e] at h; unfold pLt at h; omega
 have dW : W.Pairwise fun x y => x.pl ≠ y.pl := by
  refine (hp.pairwise_iff (R := fun x y : Pg => x.pl ≠ y.pl) fun {x y} h => Ne.symm h).2 (List.pairwise_append.2 ⟨uH.imp ne, uS.imp ne, fun a ha b hb e => ?_⟩)
  have h1 := hH a ha
  have h2 := hS b hb
  rw [e] at h1
  omega
 have uW : W.Pairwise fun x y => pLt x.pl y.pl := by
  refine (hs.and dW).imp fun {a b} h => ?_
  obtain ⟨h1, h2⟩ := h
  rw [ltP_no] at h1
  rcases pm a.pl.1 b.pl.1 with h3 | h3 | h3
  · exact .inl h3
  · rcases pm a.pl.2 b.pl.2 with h4 | h4 | h4
    · exact .inr ⟨h3, h4⟩
    · exact absurd (uf h3 h4) h2
    · exact absurd (.inr ⟨h3.symm, h4⟩) h1
  · exact absurd (.inl h3) h1
 have asy : ∀ {x y : Pg}, pLt x.pl y.pl → ¬ pLt y.pl x.pl := fun {x y} h h' => by unfold pLt at *; omega
 refine ⟨uW, ?_, ?_, fun x hx => ?_, ?_⟩
 · refine perm_eq asy (((hp.filter pz).trans ?_)) (uW.filter _) uH
   rw [ze, List.filter_eq_self.2 (fun x hx => decide_eq_true (hH x hx)), List.filter_eq_nil_iff.2 (fun x hx => by have := hS x hx; simp only [pz, decide_eq_true_eq]; omega), zk]
 · refine perm_eq asy (((hp.filter fun x => !pz x).trans ?_)) (uW.filter _) uS
   rw [ze, List.filter_eq_nil_iff.2 (fun x hx => by simp [pz, hH x hx]), xl, List.filter_eq_self.2 (fun x hx => by have := hS x hx; simp only [pz, zl, decide_eq_false_iff_not]; omega)]
 · rcases List.mem_append.1 (hp.mem_iff.1 hx) with hx | hx
   · obtain ⟨y, hy, rfl⟩ := List.mem_map.1 hx
     exact ⟨rfl, F.ai y hy, ui _, by show (0 : Int) < 64; omega⟩
   · obtain ⟨y, hy, e⟩ := List.mem_filterMap.1 hx
     obtain ⟨_, rfl⟩ := slP_some e
     exact ⟨rfl, F.bi y hy⟩
 · rw [hp.length_eq, zw, zt]
   have := List.length_filterMap_le slP B
   omega
end Go.Vx
namespace Go.Vx
open Go Go.Proofs
variable [Gl]
theorem map_at {l : List (Rw Int)} {n v : Nat} (hv : v < n) (h : n ≤ l.length) : ((l.take n).map blkOf).getD v (0, 0) = blkOf (l.getD v Rw.nil) := by
 rw [zz, zh, List.getElem?_take_of_lt hv, zz, zv (by omega)]; rfl
theorem okBs_no {A : List Pl} {i : Nat} (h : okBs A i = false) : ∀ k, okBs A (i + k) = false
 | 0 => h
 | k + 1 => by
   show okBs A (i + k + 1) = false
   rw [okBs, okBs_no h k]; rfl
theorem okSs_no {A : List Pl} {ok : Bool} {B : List Slot} {i : Nat} (h : okSs A ok B i = false) : ∀ k, okSs A ok B (i + k) = false
 | 0 => h
 | k + 1 => by
   show okSs A ok B (i + k + 1) = false
   rw [okSs, okSs_no h k]; rfl
theorem okP_noS {h : Hd} {A : List Pl} {B : List Slot} {i : Nat} (hh : okSs A (okH h && okBs A A.length) B i = false) (hi : i ≤ B.length) : okP h A B = false := by
 have := okSs_no hh (B.length - i)
 rw [show i + (B.length - i) = B.length by omega] at this
 unfold okP; exact this
theorem okP_noB {h : Hd} {A : List Pl} {B : List Slot} {i : Nat} (hh : okBs A i = false) (hi : i ≤ A.length) : okP h A B = false := by
 have := okBs_no hh (A.length - i)
 rw [show i + (A.length - i) = A.length by omega] at this
 exact okP_noS (i := 0) (by rw [okSs, this, Bool.and_false]) (zn _)
theorem okP_noH {h : Hd} {A : List Pl} {B : List Slot} (hh : okH h = false) : okP h A B = false := okP_noS (i := 0) (by rw [okSs, hh]; rfl) (zn _)
theorem blk_no1 {ok : Bool} {i : Nat} {p b : Pl} (h : (decide (b.1 < 0) || decide (64 ≤ b.1) || !cn b.2) = true) : okB ok i p b = false := by
 unfold okB
 cases hk : cn b.2 with
 | false => simp
 | true =>
   rw [hk] at h
   simp only [qe, ry, yr, decide_eq_true_iff] at h
   rcases h with h | h
   · have : cn b.1 = false := by
      cases hc : cn b.1 with
      | false => rfl
      | true => have := cn_iff.1 hc; omega
     rw [this]; simp
   · rw [decide_eq_false (by omega : ¬ b.1 < 64)]; simp
theorem blk_no2 {ok : Bool} {i : Nat} {p b : Pl} (hi : 0 < i) (h : b.1 ≤ p.1) : okB ok i p b = false := by
 unfold okB
 rw [decide_eq_false (by omega : ¬ i = 0), decide_eq_false (by omega : ¬ p.1 < b.1)]; simp
theorem blk_yes {i : Nat} {p b : Pl} (h : (decide (b.1 < 0) || decide (64 ≤ b.1) || !cn b.2) = false) (h2 : i = 0 ∨ ¬ b.1 ≤ p.1) : (true && okB true i p b) = true := by
 simp only [yi, decide_eq_false_iff_not, wy] at h
 obtain ⟨⟨g1, g2⟩, g3⟩ := h
 unfold okB
 rw [g3, cn_iff.2 ⟨by omega, by omega⟩, decide_eq_true (by omega : b.1 < 64)]
 rcases h2 with h2 | h2
 · rw [decide_eq_true h2]; simp
 · rw [decide_eq_true (by omega : p.1 < b.1)]; simp
theorem slt_no1 {A : List Pl} {ok : Bool} {i : Nat} {p s : Slot} (h : (!anyF (fun x => decide (x.1 = s.pl.1)) A || decide (s.pl.2 < 0) || decide (64 ≤ s.pl.2) || !cn s.key || !okMe s.me) = true) : okS A ok i p s = false := by
 unfold okS
 cases h1 : anyF (fun x => decide (x.1 = s.pl.1)) A with
 | false => simp
 | true =>
   cases h2 : cn s.key with
   | false => simp
   | true =>
     cases h3 : okMe s.me with
     | false => simp
     | true =>
       rw [h1, h2, h3] at h
       simp only [qe, ry, qa, yr, decide_eq_true_iff] at h
       rcases h with h | h
       · have : cn s.pl.2 = false := by
          cases hc : cn s.pl.2 with
          | false => rfl
          | true => have := cn_iff.1 hc; omega
         rw [this]; simp
       · rw [decide_eq_false (by omega : ¬ s.pl.2 < 64)]; simp
theorem slt_no2 {A : List Pl} {ok : Bool} {i : Nat} {p s : Slot} (hi : 0 < i) (h : (decide (s.pl.1 < p.pl.1) || (decide (p.pl.1 = s.pl.1) && decide (s.pl.2 ≤ p.pl.2))) = true) : okS A ok i p s = false := by
 simp only [yr, zx, decide_eq_true_iff] at h
 unfold okS
 have : (decide (i = 0) || (decide (p.pl.1 < s.pl.1) || (decide (p.pl.1 = s.pl.1) && decide (p.pl.2 < s.pl.2)))) = false := by
  simp only [yi, vu, decide_eq_false_iff_not]
  omega
 rw [this]; simp
theorem slt_yes {A : List Pl} {i : Nat} {p s : Slot} (h : (!anyF (fun x => decide (x.1 = s.pl.1)) A || decide (s.pl.2 < 0) || decide (64 ≤ s.pl.2) || !cn s.key || !okMe s.me) = false)
 (h2 : i = 0 ∨ (decide (s.pl.1 < p.pl.1) || (decide (p.pl.1 = s.pl.1) && decide (s.pl.2 ≤ p.pl.2))) = false) : okS A true i p s = true := by
 simp only [yi, decide_eq_false_iff_not, wy] at h
 obtain ⟨⟨⟨⟨g1, g2⟩, g3⟩, g4⟩, g5⟩ := h
 unfold okS
 have : (decide (i = 0) || (decide (p.pl.1 < s.pl.1) || (decide (p.pl.1 = s.pl.1) && decide (p.pl.2 < s.pl.2)))) = true := by
  simp only [yi, vu, decide_eq_false_iff_not] at h2
  simp only [yr, zx, decide_eq_true_iff]
  omega
 rw [this, g1, g4, g5, cn_iff.2 ⟨by omega, by omega⟩, decide_eq_true (by omega : s.pl.2 < 64)]
 rfl
def Mr4 (h : Hd) (A : List Pl) : Inv' C0 := ⟨4, Nat, fun i => [(3, .int .i64 (i : Int))], fun _ m => m, fun i => i ≤ A.length ∧ (okH h && okBs A i) = true, fun i => A.length - i⟩
def Mr10 (h : Hd) (A : List Pl) (B : List Slot) : Inv' C0 := ⟨10, Nat, fun i => [(5, .int .i64 (i : Int))], fun _ m => m, fun i => i ≤ B.length ∧ okSs A (okH h && okBs A A.length) B i = true, fun i => B.length - i⟩
def Mr15 (A : List Pl) (B : List Slot) : Inv' C0 := ⟨15, Nat × Bool × Nat, fun x => [(8, .int .i64 (x.1 : Int)), (7, .bool (.tm x.2.1)), (5, .int .i64 (x.2.2 : Int))], fun _ m => m, fun x => x.1 ≤ A.length ∧ x.2.1 = anyF (fun b => decide (b.1 = (B.getD x.2.2 slot0).pl.1)) (A.take x.1), fun x => A.length - x.1⟩
set_option maxHeartbeats 8000000 in
theorem rpmay_ok (h : Hd) (o : Bool) (b q : Nat) (l : List (Rw Int)) (n c : Nat) (o2 : Bool) (b2 q2 : Nat) (l2 : List Slot) (n2 c2 : Nat)
 (h1 : Sq.ok (o, b, q, l, n, c)) (h2 : Sq.ok (o2, b2, q2, l2, n2, c2)) (hr : ∀ r ∈ l.take n, Rok r ∧ r.l.length = 2) (hn : n ≤ 1000000) (hn2 : n2 ≤ 1000000) :
 Tells (C := C0) Tryd.prog (.fn 12) [⟨b, q, 1, false, some o, .rows 71 l⟩, ⟨b2, q2, 9, false, some o2, .rows 74 l2⟩] [ptv h (.sl 0 0 n c) (.sl 1 0 n2 c2)] (.bool (.tm (okP h ((l.take n).map blkOf) (l2.take n2)))) := by
 have hnl : n ≤ l.length := h1.2.1
 have hnl2 : n2 ≤ l2.length := h2.2.1
 have hAl : ((l.take n).map blkOf).length = n := by rw [zt]; exact tk_len hnl
 refine loc_pc (P := Tryd.prog) (E := ⟨[], [pcCount, pcRmay], 169, [], [fI], []⟩) (L := [Mr4 h ((l.take n).map blkOf), Mr10 h ((l.take n).map blkOf) (l2.take n2), Mr15 ((l.take n).map blkOf) (l2.take n2)]) mix Tryd.func12 rfl (by kernel_rfl) (by kernel_rfl) rfl rfl ?_
 ((conv => arg 1; reduce); with_reducible repeat' first | exact ty | refine ta ?_ ?_ | refine ti fun _ => ?_ | refine tf fun _ => ?_ | refine tl ?_)
 all_goals try exact vlf
 · rename_i b0 h0
   have h0 : (!cn h.1 || !cn h.2.1 || !cn h.2.2.1 || !cn h.2.2.2) = true := h0
   refine (okP_noH ?_).symm
   unfold okH
   rw [← zl, tw, tw, tw]
   exact h0
 · rename_i b0 h0
   have h0 : (!cn h.1 || !cn h.2.1 || !cn h.2.2.1 || !cn h.2.2.2) = false := h0
   have hH : okH h = true := by
    unfold okH
    rw [← wy, tw, tw, tw]
    exact h0
   refine Stands.one (0 : Nat) ⟨⟨zn _, by rw [hH]; rfl⟩, ?_⟩
   exact vgo
 iterate 4 (
  focus
  rename_i b0 h0 v hv h3
  change Nat at v
  obtain ⟨e1, e2⟩ : v ≤ ((l.take n).map blkOf).length ∧ (okH h && okBs ((l.take n).map blkOf) v) = true := hv
  have h3 : v < n := Int.ofNat_lt.1 (ow h3)
  rw [hAl] at e1
  first
   | (exact on_of h1.2.2 (yp (zn _) h3)
      done)
   | (exact Int.ofNat_lt.2 h3
      done)
   | (show (v : Int).toNat + 0 < l.length
      omega
      done))
 iterate 4 (
  focus
  rename_i b0 h0 v hv h3 r hr1
  change Nat at v
  obtain ⟨e1, e2⟩ : v ≤ ((l.take n).map blkOf).length ∧ (okH h && okBs ((l.take n).map blkOf) v) = true := hv
  have h3 : v < n := Int.ofNat_lt.1 (ow h3)
  rw [hAl] at e1
  change Rw Int at r
  have hr1 : l.getD v Rw.nil = r := hr1
  obtain ⟨⟨g1, g2, g3⟩, g4⟩ := hr r (row_mem h3 hnl hr1)
  first
   | (exact on_of g1 (by omega)
      done)
   | (show (0 : Int) < ((r.l.length : Nat) : Int)
      rw [g4]; decide
      done)
   | (show (0 : Int).toNat + 0 < r.l.length
      rw [g4]; decide
      done))
 iterate 8 (
  focus
  rename_i b0 h0 v hv h3 r hr1 h5
  change Nat at v
  obtain ⟨e1, e2⟩ : v ≤ ((l.take n).map blkOf).length ∧ (okH h && okBs ((l.take n).map blkOf) v) = true := hv
  have h3 : v < n := Int.ofNat_lt.1 (ow h3)
  rw [hAl] at e1
  change Rw Int at r
  have hr1 : l.getD v Rw.nil = r := hr1
  obtain ⟨⟨g1, g2, g3⟩, g4⟩ := hr r (row_mem h3 hnl hr1)
  first
   | (exact on_of g1 (by omega)
      done)
   | (show (0 : Int) < ((r.l.length : Nat) : Int)
      rw [g4]; decide
      done)
   | (show (0 : Int).toNat + 0 < r.l.length
      rw [g4]; decide
      done)
   | (show (1 : Int) < ((r.l.length : Nat) : Int)
      rw [g4]; decide
      done)
   | (show (1 : Int).toNat + 0 < r.l.length
      rw [g4]; decide
      done))
 iterate 4 (
  focus
  rename_i b0 h0 v hv h3 r hr1 h5 h6
  change Nat at v
  obtain ⟨e1, e2⟩ : v ≤ ((l.take n).map blkOf).length ∧ (okH h && okBs ((l.take n).map blkOf) v) = true := hv
  have h3 : v < n := Int.ofNat_lt.1 (ow h3)
  rw [hAl] at e1
  first
   | (have h6 : 0 < v := Int.ofNat_lt.1 (ow h6)
      exact inR64 (by show _ ≤ (v : Int) - 1; omega) (by show (v : Int) - 1 ≤ _; omega)
      done)
   | (exact on_of h1.2.2 (yp (zn _) h3)
      done)
   | (have h6 : 0 < v := Int.ofNat_lt.1 (ow h6)
      show (0 : Int) ≤ (v : Int) - 1
      omega
      done)
   | (have h6 : 0 < v := Int.ofNat_lt.1 (ow h6)
      show (v : Int) - 1 < (n : Int)
      omega
      done))
 · rename_i b0 h0 v hv h3 r hr1 h5
   change Nat at v
   obtain ⟨e1, e2⟩ : v ≤ ((l.take n).map blkOf).length ∧ (okH h && okBs ((l.take n).map blkOf) v) = true := hv
   have h3 : v < n := Int.ofNat_lt.1 (ow h3)
   rw [hAl] at e1
   change Rw Int at r
   have hr1 : l.getD v Rw.nil = r := hr1
   obtain ⟨⟨g1, g2, g3⟩, g4⟩ := hr r (row_mem h3 hnl hr1)
   have hAv : ((l.take n).map blkOf).getD v (0, 0) = blkOf r := by rw [map_at h3 hnl, hr1]
   have hb1 : (blkOf r).1 = r.l.getD 0 0 := by unfold blkOf; rfl
   have hb2 : (blkOf r).2 = r.l.getD 1 0 := by unfold blkOf; rfl
   have h5 : (decide (r.l.getD 0 0 < 0) || decide (64 ≤ r.l.getD 0 0) || !cn (r.l.getD 1 0)) = true := h5
   rw [← hb1, ← hb2] at h5
   refine (okP_noB (i := v + 1) ?_ (by rw [hAl]; omega)).symm
   rw [okBs, hAv]
   exact blk_no1 h5
 iterate 2 (
  focus
  rename_i b0 h0 v hv h3 r hr1 h5 h6
  change Nat at v
  obtain ⟨e1, e2⟩ : v ≤ ((l.take n).map blkOf).length ∧ (okH h && okBs ((l.take n).map blkOf) v) = true := hv
  have h3 : v < n := Int.ofNat_lt.1 (ow h3)
  rw [hAl] at e1
  first
   | (exact on_of h1.2.2 (yp (zn _) h3)
      done)
   | (have h6 : 0 < v := Int.ofNat_lt.1 (ow h6)
      show ((v : Int) - 1).toNat + 0 < l.length
      omega
      done))
 iterate 8 (
  focus
  rename_i b0 h0 v hv h3 r hr1 h5 h6 r2 hr2
  change Nat at v
  obtain ⟨e1, e2⟩ : v ≤ ((l.take n).map blkOf).length ∧ (okH h && okBs ((l.take n).map blkOf) v) = true := hv
  have h3 : v < n := Int.ofNat_lt.1 (ow h3)
  rw [hAl] at e1
  first
   | (have h6 : 0 < v := Int.ofNat_lt.1 (ow h6)
      change Rw Int at r2
      have hr2 : l.getD ((v : Int) - 1).toNat Rw.nil = r2 := hr2
      obtain ⟨⟨g1, g2, g3⟩, g4⟩ := hr r2 (row_mem (by omega) hnl hr2)
      exact on_of g1 (by omega)
      done)
   | (have h6 : 0 < v := Int.ofNat_lt.1 (ow h6)
      change Rw Int at r2
      have hr2 : l.getD ((v : Int) - 1).toNat Rw.nil = r2 := hr2
      obtain ⟨⟨g1, g2, g3⟩, g4⟩ := hr r2 (row_mem (by omega) hnl hr2)
      show (0 : Int) < ((r2.l.length : Nat) : Int)
      rw [g4]; decide
      done)
   | (have h6 : 0 < v := Int.ofNat_lt.1 (ow h6)
      change Rw Int at r2
      have hr2 : l.getD ((v : Int) - 1).toNat Rw.nil = r2 := hr2
      obtain ⟨⟨g1, g2, g3⟩, g4⟩ := hr r2 (row_mem (by omega) hnl hr2)
      show (0 : Int).toNat + 0 < r2.l.length
      rw [g4]; decide
      done)
   | (change Rw Int at r
      have hr1 : l.getD v Rw.nil = r := hr1
      obtain ⟨⟨g1, g2, g3⟩, g4⟩ := hr r (row_mem h3 hnl hr1)
      exact on_of g1 (by omega)
      done)
   | (change Rw Int at r
      have hr1 : l.getD v Rw.nil = r := hr1
      obtain ⟨⟨g1, g2, g3⟩, g4⟩ := hr r (row_mem h3 hnl hr1)
      show (0 : Int) < ((r.l.length : Nat) : Int)
      rw [g4]; decide
      done)
   | (change Rw Int at r
      have hr1 : l.getD v Rw.nil = r := hr1
      obtain ⟨⟨g1, g2, g3⟩, g4⟩ := hr r (row_mem h3 hnl hr1)
      show (0 : Int).toNat + 0 < r.l.length
      rw [g4]; decide
      done))
 iterate 3 (
  focus
  rename_i b0 h0 v hv h3 r hr1 h5 h6 r2 hr2 h7
  change Nat at v
  obtain ⟨e1, e2⟩ : v ≤ ((l.take n).map blkOf).length ∧ (okH h && okBs ((l.take n).map blkOf) v) = true := hv
  have h3 : v < n := Int.ofNat_lt.1 (ow h3)
  rw [hAl] at e1
  first
   | (have h6 : 0 < v := Int.ofNat_lt.1 (ow h6)
      change Rw Int at r
      have hr1 : l.getD v Rw.nil = r := hr1
      obtain ⟨⟨g1, g2, g3⟩, g4⟩ := hr r (row_mem h3 hnl hr1)
      change Rw Int at r2
      have hr2 : l.getD ((v : Int) - 1).toNat Rw.nil = r2 := hr2
      obtain _ := hr r2 (row_mem (by omega) hnl hr2)
      have hAv : ((l.take n).map blkOf).getD v (0, 0) = blkOf r := by rw [map_at h3 hnl, hr1]
      have hb1 : (blkOf r).1 = r.l.getD 0 0 := by unfold blkOf; rfl
      have hb2 : (blkOf r).2 = r.l.getD 1 0 := by unfold blkOf; rfl
      have h5 : (decide (r.l.getD 0 0 < 0) || decide (64 ≤ r.l.getD 0 0) || !cn (r.l.getD 1 0)) = false := h5
      rw [← hb1, ← hb2] at h5
      have hAp : ((l.take n).map blkOf).getD (v - 1) (0, 0) = blkOf r2 := by
       rw [map_at (by omega) hnl, ← hr2]; congr 2; omega
      have hb3 : (blkOf r2).1 = r2.l.getD 0 0 := by unfold blkOf; rfl
      have h7 : decide (r.l.getD 0 0 ≤ r2.l.getD 0 0) = true := h7
      rw [← hb1, ← hb3] at h7
      refine (okP_noB (i := v + 1) ?_ (by rw [hAl]; omega)).symm
      rw [okBs, hAv]
      rw [hAp]
      exact blk_no2 h6 (ow h7)
      done)
   | (exact inR64 (by show _ ≤ (v : Int) + 1; omega) (by show (v : Int) + 1 ≤ _; omega)
      done)
   | (have h6 : 0 < v := Int.ofNat_lt.1 (ow h6)
      change Rw Int at r
      have hr1 : l.getD v Rw.nil = r := hr1
      obtain ⟨⟨g1, g2, g3⟩, g4⟩ := hr r (row_mem h3 hnl hr1)
      change Rw Int at r2
      have hr2 : l.getD ((v : Int) - 1).toNat Rw.nil = r2 := hr2
      obtain _ := hr r2 (row_mem (by omega) hnl hr2)
      have hAv : ((l.take n).map blkOf).getD v (0, 0) = blkOf r := by rw [map_at h3 hnl, hr1]
      have hb1 : (blkOf r).1 = r.l.getD 0 0 := by unfold blkOf; rfl
      have hb2 : (blkOf r).2 = r.l.getD 1 0 := by unfold blkOf; rfl
      have h5 : (decide (r.l.getD 0 0 < 0) || decide (64 ≤ r.l.getD 0 0) || !cn (r.l.getD 1 0)) = false := h5
      rw [← hb1, ← hb2] at h5
      have hAp : ((l.take n).map blkOf).getD (v - 1) (0, 0) = blkOf r2 := by
       rw [map_at (by omega) hnl, ← hr2]; congr 2; omega
      have hb3 : (blkOf r2).1 = r2.l.getD 0 0 := by unfold blkOf; rfl
      have h7 : decide (r.l.getD 0 0 ≤ r2.l.getD 0 0) = false := h7
      rw [← hb1, ← hb3] at h7
      simp only [zx] at e2
      refine Stands.one (v + 1 : Nat) ⟨⟨by rw [hAl]; exact h3, ?_⟩, ?_, ?_⟩
      · show (okH h && okBs ((l.take n).map blkOf) (v + 1)) = true
        rw [okBs, hAv, e2.1, e2.2]
        rw [hAp]; exact blk_yes h5 (.inr (ov h7))
      · show ((l.take n).map blkOf).length - (v + 1) < ((l.take n).map blkOf).length - v
        rw [hAl]; omega
      exact vgo
      done))
 iterate 2 (
  focus
  rename_i b0 h0 v hv h3 r hr1 h5 h6
  change Nat at v
  obtain ⟨e1, e2⟩ : v ≤ ((l.take n).map blkOf).length ∧ (okH h && okBs ((l.take n).map blkOf) v) = true := hv
  have h3 : v < n := Int.ofNat_lt.1 (ow h3)
  rw [hAl] at e1
  first
   | (exact inR64 (by show _ ≤ (v : Int) + 1; omega) (by show (v : Int) + 1 ≤ _; omega)
      done)
   | (have h6 : ¬ 0 < v := fun hq => ov h6 (Int.ofNat_lt.2 hq)
      change Rw Int at r
      have hr1 : l.getD v Rw.nil = r := hr1
      obtain ⟨⟨g1, g2, g3⟩, g4⟩ := hr r (row_mem h3 hnl hr1)
      have hAv : ((l.take n).map blkOf).getD v (0, 0) = blkOf r := by rw [map_at h3 hnl, hr1]
      have hb1 : (blkOf r).1 = r.l.getD 0 0 := by unfold blkOf; rfl
      have hb2 : (blkOf r).2 = r.l.getD 1 0 := by unfold blkOf; rfl
      have h5 : (decide (r.l.getD 0 0 < 0) || decide (64 ≤ r.l.getD 0 0) || !cn (r.l.getD 1 0)) = false := h5
      rw [← hb1, ← hb2] at h5
      simp only [zx] at e2
      refine Stands.one (v + 1 : Nat) ⟨⟨by rw [hAl]; exact h3, ?_⟩, ?_, ?_⟩
      · show (okH h && okBs ((l.take n).map blkOf) (v + 1)) = true
        rw [okBs, hAv, e2.1, e2.2]
        exact blk_yes h5 (.inl (by omega))
      · show ((l.take n).map blkOf).length - (v + 1) < ((l.take n).map blkOf).length - v
        rw [hAl]; omega
      exact vgo
      done))
 · rename_i b0 h0 v hv h3
   change Nat at v
   obtain ⟨e1, e2⟩ : v ≤ ((l.take n).map blkOf).length ∧ (okH h && okBs ((l.take n).map blkOf) v) = true := hv
   have h3 : ¬ v < n := fun hq => ov h3 (Int.ofNat_lt.2 hq)
   rw [hAl] at e1
   obtain rfl : v = n := by omega
   refine Stands.one (0 : Nat) ⟨⟨zn _, by rw [okSs, hAl]; exact e2⟩, ?_⟩
   exact vgo
 iterate 4 (
  focus
  rename_i b0 h0 v hv h3 w hw h4
  change Nat at w
  obtain ⟨f1, f2⟩ : w ≤ (l2.take n2).length ∧ okSs ((l.take n).map blkOf) (okH h && okBs ((l.take n).map blkOf) ((l.take n).map blkOf).length) (l2.take n2) w = true := hw
  have h4 : w < n2 := Int.ofNat_lt.1 (ow h4)
  have hBw : (l2.take n2).getD w slot0 = l2.getD w slot0 := tk_at h4
  first
   | (exact on_of h2.2.2 (yp (zn _) h4)
      done)
   | (exact Int.ofNat_lt.2 h4
      done)
   | (show (w : Int).toNat + 0 < l2.length
      omega
      done))
 · rename_i b0 h0 v hv h3 w hw h4 bs
   change Nat at w
   obtain ⟨f1, f2⟩ : w ≤ (l2.take n2).length ∧ okSs ((l.take n).map blkOf) (okH h && okBs ((l.take n).map blkOf) ((l.take n).map blkOf).length) (l2.take n2) w = true := hw
   have h4 : w < n2 := Int.ofNat_lt.1 (ow h4)
   have hBw : (l2.take n2).getD w slot0 = l2.getD w slot0 := tk_at h4
   refine Stands.one (0, false, w) ⟨⟨zn _, anyF_zero.symm⟩, ?_⟩
   exact vgo
 iterate 6 (
  focus
  rename_i b0 h0 v hv h3 w hw h4 bs k hk hl h5 h6
  change Nat at w
  obtain ⟨f1, f2⟩ : w ≤ (l2.take n2).length ∧ okSs ((l.take n).map blkOf) (okH h && okBs ((l.take n).map blkOf) ((l.take n).map blkOf).length) (l2.take n2) w = true := hw
  have h4 : w < n2 := Int.ofNat_lt.1 (ow h4)
  have hBw : (l2.take n2).getD w slot0 = l2.getD w slot0 := tk_at h4
  obtain ⟨k, nd, w2⟩ := k
  obtain rfl : w = w2 := Int.ofNat_inj.1 hl
  obtain ⟨k1, k2⟩ : k ≤ ((l.take n).map blkOf).length ∧ nd = anyF (fun b => decide (b.1 = ((l2.take n2).getD w slot0).pl.1)) (((l.take n).map blkOf).take k) := hk
  rw [hBw] at k2
  have h5n : k < n := Int.ofNat_lt.1 (ow h5)
  first
   | (exact on_of h1.2.2 (yp (zn _) h5n)
      done)
   | (exact Int.ofNat_lt.2 h5n
      done)
   | (exact inR64 (by show _ ≤ (k : Int) + 1; omega) (by show (k : Int) + 1 ≤ _; omega)
      done)
   | (have h6 : nd = true := h6
      subst h6
      refine Stands.one (k + 1, true, w) ⟨⟨by rw [hAl]; exact h5n, ?_⟩, ?_, ?_⟩
      · show _ = anyF (fun b => decide (b.1 = ((l2.take n2).getD w slot0).pl.1)) (((l.take n).map blkOf).take (k + 1))
        rw [hBw, anyF_snoc (d := (0, 0)) (by rw [hAl]; exact h5n), ← k2]
        rfl
      · show ((l.take n).map blkOf).length - (k + 1) < ((l.take n).map blkOf).length - k
        rw [hAl]; omega
      exact vgo
      done)
   | (show (k : Int).toNat + 0 < l.length
      omega
      done))
 iterate 6 (
  focus
  rename_i b0 h0 v hv h3 w hw h4 bs k hk hl h5 h6 r hr1
  change Nat at w
  obtain ⟨f1, f2⟩ : w ≤ (l2.take n2).length ∧ okSs ((l.take n).map blkOf) (okH h && okBs ((l.take n).map blkOf) ((l.take n).map blkOf).length) (l2.take n2) w = true := hw
  have h4 : w < n2 := Int.ofNat_lt.1 (ow h4)
  have hBw : (l2.take n2).getD w slot0 = l2.getD w slot0 := tk_at h4
  obtain ⟨k, nd, w2⟩ := k
  obtain rfl : w = w2 := Int.ofNat_inj.1 hl
  obtain ⟨k1, k2⟩ : k ≤ ((l.take n).map blkOf).length ∧ nd = anyF (fun b => decide (b.1 = ((l2.take n2).getD w slot0).pl.1)) (((l.take n).map blkOf).take k) := hk
  rw [hBw] at k2
  have h5n : k < n := Int.ofNat_lt.1 (ow h5)
  first
   | (change Rw Int at r
      have hr1n : l.getD k Rw.nil = r := hr1
      obtain ⟨⟨g1, g2, g3⟩, g4⟩ := hr r (row_mem h5n hnl hr1n)
      exact on_of g1 (by omega)
      done)
   | (change Rw Int at r
      have hr1n : l.getD k Rw.nil = r := hr1
      obtain ⟨⟨g1, g2, g3⟩, g4⟩ := hr r (row_mem h5n hnl hr1n)
      show (0 : Int) < ((r.l.length : Nat) : Int)
      rw [g4]; decide
      done)
   | (change Rw Int at r
      have hr1n : l.getD k Rw.nil = r := hr1
      obtain ⟨⟨g1, g2, g3⟩, g4⟩ := hr r (row_mem h5n hnl hr1n)
      show (0 : Int).toNat + 0 < r.l.length
      rw [g4]; decide
      done)
   | (exact inR64 (by show _ ≤ (k : Int) + 1; omega) (by show (k : Int) + 1 ≤ _; omega)
      done)
   | (change Rw Int at r
      have hr1n : l.getD k Rw.nil = r := hr1
      obtain ⟨⟨g1, g2, g3⟩, g4⟩ := hr r (row_mem h5n hnl hr1n)
      have h6 : nd = false := h6
      subst h6
      refine Stands.one (k + 1, decide (r.l.getD 0 0 = (l2.getD w slot0).pl.1), w) ⟨⟨by rw [hAl]; exact h5n, ?_⟩, ?_, ?_⟩
      · show _ = anyF (fun b => decide (b.1 = ((l2.take n2).getD w slot0).pl.1)) (((l.take n).map blkOf).take (k + 1))
        rw [hBw, anyF_snoc (d := (0, 0)) (by rw [hAl]; exact h5n), ← k2]
        rw [map_at h5n hnl, hr1n, qa]
        unfold blkOf; rfl
      · show ((l.take n).map blkOf).length - (k + 1) < ((l.take n).map blkOf).length - k
        rw [hAl]; omega
      exact vgo
      done))
 · rename_i b0 h0 v hv h3 w hw h4 bs k hk hl h5 h6
   change Nat at w
   obtain ⟨f1, f2⟩ : w ≤ (l2.take n2).length ∧ okSs ((l.take n).map blkOf) (okH h && okBs ((l.take n).map blkOf) ((l.take n).map blkOf).length) (l2.take n2) w = true := hw
   have h4 : w < n2 := Int.ofNat_lt.1 (ow h4)
   have hBw : (l2.take n2).getD w slot0 = l2.getD w slot0 := tk_at h4
   obtain ⟨k, nd, w2⟩ := k
   obtain rfl : w = w2 := Int.ofNat_inj.1 hl
   obtain ⟨k1, k2⟩ : k ≤ ((l.take n).map blkOf).length ∧ nd = anyF (fun b => decide (b.1 = ((l2.take n2).getD w slot0).pl.1)) (((l.take n).map blkOf).take k) := hk
   rw [hBw] at k2
   have h5 : ¬ k < n := fun hq => ov h5 (Int.ofNat_lt.2 hq)
   rw [hAl] at k1
   rw [zu (l := (l.take n).map blkOf) (by rw [hAl]; omega)] at k2
   have h6 : (!nd || decide ((l2.getD w slot0).pl.2 < 0) || decide (64 ≤ (l2.getD w slot0).pl.2) || !cn (l2.getD w slot0).key || !okMe (l2.getD w slot0).me) = true := h6
   rw [k2] at h6
   refine (okP_noS (i := w + 1) ?_ (by rw [tk_len hnl2]; omega)).symm
   rw [okSs, hBw]
   exact slt_no1 h6
 iterate 6 (
  focus
  rename_i b0 h0 v hv h3 w hw h4 bs k hk hl h5 h6 h7
  change Nat at w
  obtain ⟨f1, f2⟩ : w ≤ (l2.take n2).length ∧ okSs ((l.take n).map blkOf) (okH h && okBs ((l.take n).map blkOf) ((l.take n).map blkOf).length) (l2.take n2) w = true := hw
  have h4 : w < n2 := Int.ofNat_lt.1 (ow h4)
  have hBw : (l2.take n2).getD w slot0 = l2.getD w slot0 := tk_at h4
  obtain ⟨k, nd, w2⟩ := k
  obtain rfl : w = w2 := Int.ofNat_inj.1 hl
  obtain ⟨k1, k2⟩ : k ≤ ((l.take n).map blkOf).length ∧ nd = anyF (fun b => decide (b.1 = ((l2.take n2).getD w slot0).pl.1)) (((l.take n).map blkOf).take k) := hk
  rw [hBw] at k2
  first
   | (have h7 : 0 < w := Int.ofNat_lt.1 (ow h7)
      exact inR64 (by show _ ≤ (w : Int) - 1; omega) (by show (w : Int) - 1 ≤ _; omega)
      done)
   | (exact on_of h2.2.2 (yp (zn _) h4)
      done)
   | (have h7 : 0 < w := Int.ofNat_lt.1 (ow h7)
      show (0 : Int) ≤ (w : Int) - 1
      omega
      done)
   | (have h7 : 0 < w := Int.ofNat_lt.1 (ow h7)
      show (w : Int) - 1 < (n2 : Int)
      omega
      done)
   | (have h7 : 0 < w := Int.ofNat_lt.1 (ow h7)
      show ((w : Int) - 1).toNat + 0 < l2.length
      omega
      done))
 iterate 3 (
  focus
  rename_i b0 h0 v hv h3 w hw h4 bs k hk hl h5 h6 h7 bq h8
  change Nat at w
  obtain ⟨f1, f2⟩ : w ≤ (l2.take n2).length ∧ okSs ((l.take n).map blkOf) (okH h && okBs ((l.take n).map blkOf) ((l.take n).map blkOf).length) (l2.take n2) w = true := hw
  have h4 : w < n2 := Int.ofNat_lt.1 (ow h4)
  have hBw : (l2.take n2).getD w slot0 = l2.getD w slot0 := tk_at h4
  obtain ⟨k, nd, w2⟩ := k
  obtain rfl : w = w2 := Int.ofNat_inj.1 hl
  obtain ⟨k1, k2⟩ : k ≤ ((l.take n).map blkOf).length ∧ nd = anyF (fun b => decide (b.1 = ((l2.take n2).getD w slot0).pl.1)) (((l.take n).map blkOf).take k) := hk
  rw [hBw] at k2
  first
   | (have h5 : ¬ k < n := fun hq => ov h5 (Int.ofNat_lt.2 hq)
      rw [hAl] at k1
      rw [zu (l := (l.take n).map blkOf) (by rw [hAl]; omega)] at k2
      have h6 : (!nd || decide ((l2.getD w slot0).pl.2 < 0) || decide (64 ≤ (l2.getD w slot0).pl.2) || !cn (l2.getD w slot0).key || !okMe (l2.getD w slot0).me) = false := h6
      rw [k2] at h6
      have h7 : 0 < w := Int.ofNat_lt.1 (ow h7)
      have h8 : (decide ((l2.getD w slot0).pl.1 < (l2.getD (((w : Int) - 1).toNat + 0) slot0).pl.1) || (decide ((l2.getD (((w : Int) - 1).toNat + 0) slot0).pl.1 = (l2.getD w slot0).pl.1) && decide ((l2.getD w slot0).pl.2 ≤ (l2.getD (((w : Int) - 1).toNat + 0) slot0).pl.2))) = true := h8
      rw [pred_nat] at h8
      have hBp : (l2.take n2).getD (w - 1) slot0 = l2.getD (w - 1) slot0 := tk_at (by omega)
      refine (okP_noS (i := w + 1) ?_ (by rw [tk_len hnl2]; omega)).symm
      rw [okSs, hBw]
      rw [hBp]
      exact slt_no2 h7 h8
      done)
   | (exact inR64 (by show _ ≤ (w : Int) + 1; omega) (by show (w : Int) + 1 ≤ _; omega)
      done)
   | (have h5 : ¬ k < n := fun hq => ov h5 (Int.ofNat_lt.2 hq)
      rw [hAl] at k1
      rw [zu (l := (l.take n).map blkOf) (by rw [hAl]; omega)] at k2
      have h6 : (!nd || decide ((l2.getD w slot0).pl.2 < 0) || decide (64 ≤ (l2.getD w slot0).pl.2) || !cn (l2.getD w slot0).key || !okMe (l2.getD w slot0).me) = false := h6
      rw [k2] at h6
      have h7 : 0 < w := Int.ofNat_lt.1 (ow h7)
      have h8 : (decide ((l2.getD w slot0).pl.1 < (l2.getD (((w : Int) - 1).toNat + 0) slot0).pl.1) || (decide ((l2.getD (((w : Int) - 1).toNat + 0) slot0).pl.1 = (l2.getD w slot0).pl.1) && decide ((l2.getD w slot0).pl.2 ≤ (l2.getD (((w : Int) - 1).toNat + 0) slot0).pl.2))) = false := h8
      rw [pred_nat] at h8
      have hBp : (l2.take n2).getD (w - 1) slot0 = l2.getD (w - 1) slot0 := tk_at (by omega)
      refine Stands.one (w + 1 : Nat) ⟨⟨by rw [tk_len hnl2]; exact h4, ?_⟩, ?_, ?_⟩
      · show okSs _ _ _ (w + 1) = true
        rw [okSs, hBw, f2]
        rw [hBp]; exact slt_yes h6 (.inr h8)
      · show (l2.take n2).length - (w + 1) < (l2.take n2).length - w
        rw [tk_len hnl2]; omega
      exact vgo
      done))
 iterate 2 (
  focus
  rename_i b0 h0 v hv h3 w hw h4 bs k hk hl h5 h6 h7
  change Nat at w
  obtain ⟨f1, f2⟩ : w ≤ (l2.take n2).length ∧ okSs ((l.take n).map blkOf) (okH h && okBs ((l.take n).map blkOf) ((l.take n).map blkOf).length) (l2.take n2) w = true := hw
  have h4 : w < n2 := Int.ofNat_lt.1 (ow h4)
  have hBw : (l2.take n2).getD w slot0 = l2.getD w slot0 := tk_at h4
  obtain ⟨k, nd, w2⟩ := k
  obtain rfl : w = w2 := Int.ofNat_inj.1 hl
  obtain ⟨k1, k2⟩ : k ≤ ((l.take n).map blkOf).length ∧ nd = anyF (fun b => decide (b.1 = ((l2.take n2).getD w slot0).pl.1)) (((l.take n).map blkOf).take k) := hk
  rw [hBw] at k2
  first
   | (exact inR64 (by show _ ≤ (w : Int) + 1; omega) (by show (w : Int) + 1 ≤ _; omega)
      done)
   | (have h5 : ¬ k < n := fun hq => ov h5 (Int.ofNat_lt.2 hq)
      rw [hAl] at k1
      rw [zu (l := (l.take n).map blkOf) (by rw [hAl]; omega)] at k2
      have h6 : (!nd || decide ((l2.getD w slot0).pl.2 < 0) || decide (64 ≤ (l2.getD w slot0).pl.2) || !cn (l2.getD w slot0).key || !okMe (l2.getD w slot0).me) = false := h6
      rw [k2] at h6
      have h7 : ¬ 0 < w := fun hq => ov h7 (Int.ofNat_lt.2 hq)
      refine Stands.one (w + 1 : Nat) ⟨⟨by rw [tk_len hnl2]; exact h4, ?_⟩, ?_, ?_⟩
      · show okSs _ _ _ (w + 1) = true
        rw [okSs, hBw, f2]
        exact slt_yes h6 (.inl (by omega))
      · show (l2.take n2).length - (w + 1) < (l2.take n2).length - w
        rw [tk_len hnl2]; omega
      exact vgo
      done))
 · rename_i b0 h0 v hv h3 w hw h4
   change Nat at w
   obtain ⟨f1, f2⟩ : w ≤ (l2.take n2).length ∧ okSs ((l.take n).map blkOf) (okH h && okBs ((l.take n).map blkOf) ((l.take n).map blkOf).length) (l2.take n2) w = true := hw
   have h4 : ¬ w < n2 := fun hq => ov h4 (Int.ofNat_lt.2 hq)
   have hw2 : w = (l2.take n2).length := by rw [tk_len hnl2] at f1 ⊢; omega
   show true = okP _ _ _
   unfold okP
   rw [← hw2, f2]
def pcRpmay : Pc Tryd.prog C0 where
 tg := .fn 12
 X := Hd × Sq (Rw Int) × Sq Slot
 args := fun (h, (o, b, q, l, n, c), (o2, b2, q2, l2, n2, c2)) => [ptv h (.sl 0 0 n c) (.sl 1 0 n2 c2)]
 mem := fun (h, (o, b, q, l, n, c), (o2, b2, q2, l2, n2, c2)) => [⟨b, q, 1, false, some o, .rows 71 l⟩, ⟨b2, q2, 9, false, some o2, .rows 74 l2⟩]
 pre := fun (h, (o, b, q, l, n, c), (o2, b2, q2, l2, n2, c2)) => Sq.ok (o, b, q, l, n, c) ∧ Sq.ok (o2, b2, q2, l2, n2, c2) ∧ (∀ r ∈ l.take n, Rok r ∧ r.l.length = 2) ∧ n ≤ 1000000 ∧ n2 ≤ 1000000
 res := fun (h, (o, b, q, l, n, c), (o2, b2, q2, l2, n2, c2)) => .bool (.tm (okP h ((l.take n).map blkOf) (l2.take n2)))
 mat vs m := match vs with
  | [.agg [.int _ h1, .int _ h2, .int _ h3, .int _ h4, .sl a 0 n c, .sl a' 0 n' c']] => match nth m a, nth m a' with
    | ⟨b, q, _, _, g, .rows 71 l⟩, ⟨b', q', _, _, g', .rows 74 l'⟩ => some (((h1, h2, h3, h4), (onOf g, b, q, l, n, c), (onOf g', b', q', l', n', c')), [a, a'])
    | _, _ => none
  | _ => none
 ok := fun (h, (o, b, q, l, n, c), (o2, b2, q2, l2, n2, c2)) x => rpmay_ok h o b q l n c o2 b2 q2 l2 n2 c2 x.1 x.2.1 x.2.2.1 x.2.2.2.1 x.2.2.2.2
end Go.Vx
namespace Go.Vx
open Go Go.Proofs
variable [Gl]
abbrev eV (g : Nat) : SV := .ifc 195 (.val (.pointer (some (Gl.A g))))
def slotN (s : Slot) : List Int := [s.key, s.pl.1, s.pl.2, s.me.kind, s.me.key, s.me.seq, s.me.stamp, s.me.batch, s.me.floor]
@[irreducible] def nums (h : Hd) (A : List Pl) (B : List Slot) : List Int := [h.1, h.2.1, h.2.2.1, h.2.2.2, (A.length : Int)] ++ A.flatMap lst ++ [(B.length : Int)] ++ B.flatMap slotN
@[irreducible] def bytesP (h : Hd) (A : List Pl) (B : List Slot) : List Int := fours (nums h A B) ++ four (crc (fours (nums h A B)))
abbrev Wx := Nat × Nat × Bool × List Int × Nat
def Wr (N : List Int) (y : Wx) (k : Nat) : Prop := Gr (fours N) y.2.2.2.1 k y.2.2.2.2 ∧ (y.2.2.1 = false → k = 0 ∧ y.2.2.2.2 = 0)
theorem Wr.lay {N M : List Int} {y0 y : Wx} {k m : Nat} (h : Wr N y0 k) (hy : Gr (y0.2.2.2.1.take k ++ fours M) y.2.2.2.1 (k + 4 * m) y.2.2.2.2 ∧ (y.2.2.1 = false → k + 4 * m = 0 ∧ y.2.2.2.2 = 0)) : Wr (N ++ M) y (k + 4 * m) := by
 refine ⟨?_, hy.2⟩
 rw [fours_app, ← h.1.2.1]
 exact hy.1
theorem Wr.pre {N : List Int} {y : Wx} {k n len : Nat} (h : Wr N y k) (hn : 0 + n ≤ len) (hn2 : n < 35184372088700) (hk : k + 4 * n < 140737488355000) :
 0 + n ≤ len ∧ n < 35184372088700 ∧ k ≤ y.2.2.2.2 ∧ y.2.2.2.2 ≤ y.2.2.2.1.length ∧ k + 4 * n < 140737488355000 ∧ (y.2.2.1 = false → k = 0 ∧ y.2.2.2.2 = 0) :=
 ⟨hn, hn2, h.1.2.2.1, h.1.2.2.2, hk, h.2⟩
abbrev hdN (h : Hd) (n : Nat) : List Int := [h.1, h.2.1, h.2.2.1, h.2.2.2, (n : Int)]
def By6 (h : Hd) (A : List Pl) : Inv' C0 := ⟨6, Nat × Wx, fun x => [(34, .int .i64 (x.1 : Int))], fun x m => match m with
 | [a0, a1, bx, w, i, d, y] => [a0, a1, bx, ⟨w.block, w.base, 1, true, none, .one [.sl 6 0 (20 + 8 * x.1) x.2.2.2.2.2]⟩, i, d, ⟨x.2.1, x.2.2.1, 1, true, some x.2.2.2.1, .rows 5 x.2.2.2.2.1⟩]
 | m => m, fun x => x.1 ≤ A.length ∧ Wr (hdN h A.length ++ (A.take x.1).flatMap lst) x.2 (20 + 8 * x.1), fun x => A.length - x.1⟩
def By12 (h : Hd) (A : List Pl) (B : List Slot) : Inv' C0 := ⟨12, Nat × Wx, fun x => [(57, .int .i64 (x.1 : Int))], fun x m => match m with
 | [a0, a1, bx, w, i, d, e, i2, y] => [a0, a1, bx, ⟨w.block, w.base, 1, true, none, .one [.sl 8 0 (24 + 8 * A.length + 36 * x.1) x.2.2.2.2.2]⟩, i, d, e, i2, ⟨x.2.1, x.2.2.1, 1, true, some x.2.2.2.1, .rows 5 x.2.2.2.2.1⟩]
 | m => m, fun x => x.1 ≤ B.length ∧ Wr (hdN h A.length ++ A.flatMap lst ++ [(B.length : Int)] ++ (B.take x.1).flatMap slotN) x.2 (24 + 8 * A.length + 36 * x.1), fun x => B.length - x.1⟩
set_option maxHeartbeats 8000000 in
theorem bytes_ok (h : Hd) (o : Bool) (b q : Nat) (l : List Pl) (n c : Nat) (o2 : Bool) (b2 q2 : Nat) (l2 : List Slot) (n2 c2 : Nat)
 (h1 : Sq.ok (o, b, q, l, n, c)) (h2 : Sq.ok (o2, b2, q2, l2, n2, c2)) (hn : n ≤ 1000000) (hn2 : n2 ≤ 1000000) :
 Does (C := C0) Tryd.prog (.fn 10) [⟨b, q, 2, false, some o, .rows 87 l⟩, ⟨b2, q2, 9, false, some o2, .rows 88 l2⟩] [ptv h (.sl 0 0 n c) (.sl 1 0 n2 c2)]
 [⟨Unit, fun _ => okP h (l.take n) (l2.take n2) = false, fun _ => .tup [.nils, eV 0], fun _ => [⟨b, q, 2, false, some o, .rows 87 l⟩, ⟨b2, q2, 9, false, some o2, .rows 88 l2⟩]⟩,
  ⟨Nat × Nat × List Int × Nat, fun y => okP h (l.take n) (l2.take n2) = true ∧ Gr (bytesP h (l.take n) (l2.take n2)) y.2.2.1 (bytesP h (l.take n) (l2.take n2)).length y.2.2.2, fun y => .tup [.sl 2 0 (bytesP h (l.take n) (l2.take n2)).length y.2.2.2, .nili],
   fun y => [⟨b, q, 2, false, some o, .rows 87 l⟩, ⟨b2, q2, 9, false, some o2, .rows 88 l2⟩, ⟨y.1, y.2.1, 1, true, none, .rows 5 y.2.2.1⟩]⟩] := by
 have hnl : n ≤ l.length := h1.2.1
 have hnl2 : n2 ≤ l2.length := h2.2.1
 refine loc_fn (P := Tryd.prog) (E := ⟨[fcLay], [pcPmay, pcCrc], 101, [(2, [], [.p 1, .q 0, .p 2])], [], []⟩) (L := [By6 h (l.take n), By12 h (l.take n) (l2.take n2)]) mix Tryd.func10 rfl (by kernel_rfl) (by kernel_rfl) rfl rfl ?_
 ((conv => arg 1; reduce); with_reducible repeat' first | exact ty | refine ta ?_ ?_ | refine ti fun _ => ?_ | refine tf fun _ => ?_ | refine tl ?_)
 all_goals try exact vlf
 · exact ⟨h1, h2, hn, hn2⟩
 · rename_i b0 h0
   have h0 : (!okP h (l.take n) (l2.take n2)) = true := h0
   refine Ends.one () (show okP h (l.take n) (l2.take n2) = false by simpa using h0) ?_
   exact vgo
 · exact ⟨zy 5, by decide, zy 0, zy 0, by decide, fun _ => ⟨rfl, rfl⟩⟩
 · rename_i b0 h0 bw bi y hy
   refine Stands.one (0, y) ⟨⟨zn _, ?_⟩, ?_⟩
   · have e := Wr.lay (N := []) (y0 := (0, 0, false, [], 0)) (k := 0) ⟨⟨by rw [fours_nil]; rfl, by rw [fours_nil]; rfl, zy _, zy _⟩, fun _ => ⟨rfl, rfl⟩⟩ hy
     rw [tk_len hnl]
     exact e
   exact vgo
 iterate 4 (
  focus
  rename_i b0 h0 bw bi y hy v hv h3
  obtain ⟨v, y6⟩ := v
  obtain ⟨e1, e2⟩ : v ≤ (l.take n).length ∧ Wr (hdN h (l.take n).length ++ ((l.take n).take v).flatMap lst) y6 (20 + 8 * v) := hv
  have h3 : v < n := Int.ofNat_lt.1 (ow h3)
  first
   | (exact on_of h1.2.2 (yp (zn _) h3)
      done)
   | (exact Int.ofNat_lt.2 h3
      done)
   | (show (v : Int).toNat + 0 < l.length
      omega
      done))
 · rename_i b0 h0 bw bi y hy v hv h3 b3 b4
   obtain ⟨v, y6⟩ := v
   obtain ⟨e1, e2⟩ : v ≤ (l.take n).length ∧ Wr (hdN h (l.take n).length ++ ((l.take n).take v).flatMap lst) y6 (20 + 8 * v) := hv
   have h3 : v < n := Int.ofNat_lt.1 (ow h3)
   exact e2.pre (zy 2) (by decide) (by omega)
 iterate 2 (
  focus
  rename_i b0 h0 bw bi y hy v hv h3 b3 b4 z hz
  obtain ⟨v, y6⟩ := v
  obtain ⟨e1, e2⟩ : v ≤ (l.take n).length ∧ Wr (hdN h (l.take n).length ++ ((l.take n).take v).flatMap lst) y6 (20 + 8 * v) := hv
  have h3 : v < n := Int.ofNat_lt.1 (ow h3)
  first
   | (exact inR64 (by show _ ≤ (v : Int) + 1; omega) (by show (v : Int) + 1 ≤ _; omega)
      done)
   | (have e3 := e2.lay (M := lst (l.getD v (0, 0))) hz
      refine Stands.one (v + 1, z) ⟨⟨by rw [tk_len hnl]; omega, ?_⟩, ?_, ?_⟩
      · show Wr (_ ++ ((l.take n).take (v + 1)).flatMap lst) z (20 + 8 * (v + 1))
        rw [take_snoc (d := (0, 0)) (by rw [tk_len hnl]; exact h3), tk_at h3, uy, ua, ← zm]
        exact e3
      · show (l.take n).length - (v + 1) < (l.take n).length - v
        rw [tk_len hnl]; omega
      exact vgo
      done))
 · rename_i b0 h0 bw bi y hy v hv h3 b3
   obtain ⟨v, y6⟩ := v
   obtain ⟨e1, e2⟩ : v ≤ (l.take n).length ∧ Wr (hdN h (l.take n).length ++ ((l.take n).take v).flatMap lst) y6 (20 + 8 * v) := hv
   have h3 : ¬ v < n := fun h => ov h3 (Int.ofNat_lt.2 h)
   obtain rfl : v = n := by rw [tk_len hnl] at e1; omega
   rw [zu (l := l.take v) (by rw [tk_len hnl]; exact zy _)] at e2
   exact e2.pre (zy 1) (by decide) (by omega)
 · rename_i b0 h0 bw bi y hy v hv h3 b3 z hz
   obtain ⟨v, y6⟩ := v
   obtain ⟨e1, e2⟩ : v ≤ (l.take n).length ∧ Wr (hdN h (l.take n).length ++ ((l.take n).take v).flatMap lst) y6 (20 + 8 * v) := hv
   have h3 : ¬ v < n := fun h => ov h3 (Int.ofNat_lt.2 h)
   obtain rfl : v = n := by rw [tk_len hnl] at e1; omega
   rw [zu (l := l.take v) (by rw [tk_len hnl]; exact zy _)] at e2
   have e3 := e2.lay (M := [(n2 : Int)]) hz
   refine Stands.one (0, z) ⟨⟨zn _, ?_⟩, ?_⟩
   · show Wr (_ ++ [((l2.take n2).length : Int)] ++ []) z (24 + 8 * (l.take v).length + 36 * 0)
     rw [tk_len hnl2, tk_len hnl, zk, show 24 + 8 * v + 36 * 0 = 20 + 8 * v + 4 * 1 by omega]
     rw [tk_len hnl] at e3
     exact e3
   exact vgo
 iterate 4 (
  focus
  rename_i b0 h0 bw bi y hy v hv h3 b3 z hz w hw h4
  obtain ⟨w, y9⟩ := w
  obtain ⟨e1, e2⟩ : w ≤ (l2.take n2).length ∧ Wr (hdN h (l.take n).length ++ (l.take n).flatMap lst ++ [((l2.take n2).length : Int)] ++ ((l2.take n2).take w).flatMap slotN) y9 (24 + 8 * (l.take n).length + 36 * w) := hw
  have hnn := tk_len hnl
  have h4 : w < n2 := Int.ofNat_lt.1 (ow h4)
  first
   | (exact on_of h2.2.2 (yp (zn _) h4)
      done)
   | (exact Int.ofNat_lt.2 h4
      done)
   | (show (w : Int).toNat + 0 < l2.length
      omega
      done))
 · rename_i b0 h0 bw bi y hy v hv h3 b3 z hz w hw h4 b5 b6 b7
   obtain ⟨w, y9⟩ := w
   obtain ⟨e1, e2⟩ : w ≤ (l2.take n2).length ∧ Wr (hdN h (l.take n).length ++ (l.take n).flatMap lst ++ [((l2.take n2).length : Int)] ++ ((l2.take n2).take w).flatMap slotN) y9 (24 + 8 * (l.take n).length + 36 * w) := hw
   have hnn := tk_len hnl
   have h4 : w < n2 := Int.ofNat_lt.1 (ow h4)
   exact e2.pre (zy 9) (by decide) (by omega)
 iterate 2 (
  focus
  rename_i b0 h0 bw bi y hy v hv h3 b3 z hz w hw h4 b5 b6 b7 x hx
  obtain ⟨w, y9⟩ := w
  obtain ⟨e1, e2⟩ : w ≤ (l2.take n2).length ∧ Wr (hdN h (l.take n).length ++ (l.take n).flatMap lst ++ [((l2.take n2).length : Int)] ++ ((l2.take n2).take w).flatMap slotN) y9 (24 + 8 * (l.take n).length + 36 * w) := hw
  have hnn := tk_len hnl
  have h4 : w < n2 := Int.ofNat_lt.1 (ow h4)
  first
   | (exact inR64 (by show _ ≤ (w : Int) + 1; omega) (by show (w : Int) + 1 ≤ _; omega)
      done)
   | (have e3 := e2.lay (M := slotN (l2.getD w slot0)) hx
      refine Stands.one (w + 1, x) ⟨⟨by rw [tk_len hnl2]; omega, ?_⟩, ?_, ?_⟩
      · show Wr (_ ++ ((l2.take n2).take (w + 1)).flatMap slotN) x (24 + 8 * (l.take n).length + 36 * (w + 1))
        rw [take_snoc (d := slot0) (by rw [tk_len hnl2]; exact h4), tk_at h4, uy, ua, ← zm, show 24 + 8 * (l.take n).length + 36 * (w + 1) = 24 + 8 * (l.take n).length + 36 * w + 4 * 9 by omega]
        exact e3
      · show (l2.take n2).length - (w + 1) < (l2.take n2).length - w
        rw [tk_len hnl2]; omega
      exact vgo
      done))
 · rename_i b0 h0 bw bi y hy v hv h3 b3 z hz w hw h4
   obtain ⟨w, y9⟩ := w
   obtain ⟨e1, e2⟩ : w ≤ (l2.take n2).length ∧ Wr (hdN h (l.take n).length ++ (l.take n).flatMap lst ++ [((l2.take n2).length : Int)] ++ ((l2.take n2).take w).flatMap slotN) y9 (24 + 8 * (l.take n).length + 36 * w) := hw
   have hnn := tk_len hnl
   have h4 : ¬ w < n2 := fun h => ov h4 (Int.ofNat_lt.2 h)
   obtain rfl : w = n2 := by rw [tk_len hnl2] at e1; omega
   rw [zu (l := l2.take w) (by rw [tk_len hnl2]; exact zy _)] at e2
   have e4 : Wr (nums h (l.take n) (l2.take w)) y9 (24 + 8 * (l.take n).length + 36 * w) := by unfold nums; exact e2
   have g := e4.1
   exact ⟨by show 0 + (24 + 8 * (l.take n).length + 36 * w) ≤ y9.2.2.2.1.length; have := g.2.2; omega, by show _ < (4611686018427387904 : Nat); omega, e4.2⟩
 · rename_i b0 h0 bw bi y hy v hv h3 b3 z hz w hw h4 b5
   obtain ⟨w, y9⟩ := w
   obtain ⟨e1, e2⟩ : w ≤ (l2.take n2).length ∧ Wr (hdN h (l.take n).length ++ (l.take n).flatMap lst ++ [((l2.take n2).length : Int)] ++ ((l2.take n2).take w).flatMap slotN) y9 (24 + 8 * (l.take n).length + 36 * w) := hw
   have hnn := tk_len hnl
   have h4 : ¬ w < n2 := fun h => ov h4 (Int.ofNat_lt.2 h)
   obtain rfl : w = n2 := by rw [tk_len hnl2] at e1; omega
   rw [zu (l := l2.take w) (by rw [tk_len hnl2]; exact zy _)] at e2
   have e4 : Wr (nums h (l.take n) (l2.take w)) y9 (24 + 8 * (l.take n).length + 36 * w) := by unfold nums; exact e2
   exact e4.pre (zy 1) (by decide) (by omega)
 · rename_i b0 h0 bw bi y hy v hv h3 b3 z hz w hw h4 b5 x hx
   obtain ⟨w, y9⟩ := w
   obtain ⟨e1, e2⟩ : w ≤ (l2.take n2).length ∧ Wr (hdN h (l.take n).length ++ (l.take n).flatMap lst ++ [((l2.take n2).length : Int)] ++ ((l2.take n2).take w).flatMap slotN) y9 (24 + 8 * (l.take n).length + 36 * w) := hw
   have hnn := tk_len hnl
   have h4 : ¬ w < n2 := fun h => ov h4 (Int.ofNat_lt.2 h)
   obtain rfl : w = n2 := by rw [tk_len hnl2] at e1; omega
   rw [zu (l := l2.take w) (by rw [tk_len hnl2]; exact zy _)] at e2
   have e4 : Wr (nums h (l.take n) (l2.take w)) y9 (24 + 8 * (l.take n).length + 36 * w) := by unfold nums; exact e2
   have hc := e4.1
   obtain ⟨hx1, hx2⟩ := hx
   have hx1 : Gr (y9.2.2.2.1.take (24 + 8 * (l.take n).length + 36 * w) ++ fours [crc (y9.2.2.2.1.take (24 + 8 * (l.take n).length + 36 * w))]) x.2.2.2.1 (24 + 8 * (l.take n).length + 36 * w + 4 * 1) x.2.2.2.2 := hx1
   rw [fours_one, hc.2.1] at hx1
   have hx1 : Gr (bytesP h (l.take n) (l2.take w)) x.2.2.2.1 (24 + 8 * (l.take n).length + 36 * w + 4 * 1) x.2.2.2.2 := by unfold bytesP; exact hx1
   have hlen := hx1.1
   rw [hlen] at hx1
   refine Ends.next (Ends.one (x.1, x.2.1, x.2.2.2.1, x.2.2.2.2) ⟨by simpa using h0, hx1⟩ ?_)
   ((conv => arg 1; reduce); with_reducible repeat' first | exact ty | refine ta ?_ ?_ | refine ti fun _ => ?_ | refine tf fun _ => ?_ | refine tl ?_)
   all_goals try exact vlf
   cases hx3 : x.2.2.1 with
   | true => rfl
   | false => exact absurd (hx2 hx3).1 (by omega)
def fcBytes : Fc Tryd.prog C0 where
 tg := .fn 10
 X := Hd × Sq Pl × Sq Slot
 args := fun (h, (o, b, q, l, n, c), (o2, b2, q2, l2, n2, c2)) => [ptv h (.sl 0 0 n c) (.sl 1 0 n2 c2)]
 mem := fun (h, (o, b, q, l, n, c), (o2, b2, q2, l2, n2, c2)) => [⟨b, q, 2, false, some o, .rows 87 l⟩, ⟨b2, q2, 9, false, some o2, .rows 88 l2⟩]
 pre := fun (h, (o, b, q, l, n, c), (o2, b2, q2, l2, n2, c2)) => Sq.ok (o, b, q, l, n, c) ∧ Sq.ok (o2, b2, q2, l2, n2, c2) ∧ n ≤ 1000000 ∧ n2 ≤ 1000000
 alts := fun (h, (o, b, q, l, n, c), (o2, b2, q2, l2, n2, c2)) => [⟨Unit, fun _ => okP h (l.take n) (l2.take n2) = false, fun _ => .tup [.nils, eV 0], fun _ => [⟨b, q, 2, false, some o, .rows 87 l⟩, ⟨b2, q2, 9, false, some o2, .rows 88 l2⟩]⟩,
  ⟨Nat × Nat × List Int × Nat, fun y => okP h (l.take n) (l2.take n2) = true ∧ Gr (bytesP h (l.take n) (l2.take n2)) y.2.2.1 (bytesP h (l.take n) (l2.take n2)).length y.2.2.2, fun y => .tup [.sl 2 0 (bytesP h (l.take n) (l2.take n2)).length y.2.2.2, .nili],
   fun y => [⟨b, q, 2, false, some o, .rows 87 l⟩, ⟨b2, q2, 9, false, some o2, .rows 88 l2⟩, ⟨y.1, y.2.1, 1, true, none, .rows 5 y.2.2.1⟩]⟩]
 mat vs m := match vs with
  | [.agg [.int _ h1, .int _ h2, .int _ h3, .int _ h4, sa, sb]] => match sa, sb with
    | .sl a 0 n c, .sl a' 0 n' c' => match nth m a, nth m a' with
      | ⟨b, q, _, _, g, .rows 87 l⟩, ⟨b', q', _, _, g', .rows 88 l'⟩ => some (((h1, h2, h3, h4), (onOf g, b, q, l, n, c), (onOf g', b', q', l', n', c')), [a, a'])
      | _, _ => none
    | .nils, .nils => some (((h1, h2, h3, h4), (false, 0, 0, [], 0, 0), (false, 0, 0, [], 0, 0)), [m.length, m.length + 1])
    | _, _ => none
  | _ => none
 ok := fun (h, (o, b, q, l, n, c), (o2, b2, q2, l2, n2, c2)) x => bytes_ok h o b q l n c o2 b2 q2 l2 n2 c2 x.1 x.2.1 x.2.2.1 x.2.2.2
end Go.Vx
namespace Go.Vx
open Go Go.Proofs
variable [Gl]
theorem by26 : Tryd.prog.types[26].bytes = 24 := by kernel_rfl
@[irreducible] def piece (B : List Int) (s : Nat) (n : Int) (k : Nat) : List Int :=
  fours [n, (k : Int), (B.length : Int)] ++ ((B.drop (k * (s - 12))).take (s - 12) ++ zq (s - 12 - ((B.drop (k * (s - 12))).take (s - 12)).length) 0)
theorem piece_len {B : List Int} {s : Nat} {n : Int} {k : Nat} (h : 12 ≤ s) : (piece B s n k).length = s := by
 unfold piece
 rw [zw, fours_len, zw, wm, zp, zj]
 simp only [xz, uv]
 omega
def pcN (len s : Nat) : Nat := max 1 ((len + (s - 12) - 1) / (s - 12))
theorem pcN_lt {len s k : Nat} (hs : 12 < s) : k < pcN len s ↔ k = 0 ∨ k * (s - 12) < len := by
 unfold pcN
 have hm : ∀ a : Nat, k < max 1 a ↔ k = 0 ∨ k < a := by intro a; omega
 rw [hm]
 have : k < (len + (s - 12) - 1) / (s - 12) ↔ k * (s - 12) < len := by
  rw [show (k < (len + (s - 12) - 1) / (s - 12)) ↔ (k + 1 ≤ (len + (s - 12) - 1) / (s - 12)) from Iff.rfl, Nat.le_div_iff_mul_le (by omega), zf, uj]
  omega
 rw [this]
theorem pcN_le {len s : Nat} (hs : 12 < s) (h : len ≤ 64 * (s - 12)) : pcN len s ≤ 64 := by
 rcases xr 64 (pcN len s) with h1 | h1
 · rcases (pcN_lt (len := len) hs).1 h1 with h | h <;> omega
 · exact h1
theorem pcN_pos (len s : Nat) : 1 ≤ pcN len s := by unfold pcN; exact Nat.le_max_left ..
def Prs (B : List Int) (s : Nat) (n : Int) (vl : List (Rw Int)) (k : Nat) : Prop := (vl.take k).map (·.l) = (vh k).map (piece B s n) ∧ ∀ r ∈ vl.take k, Rok r
def Pi9 (B : List Int) (s : Nat) (n : Int) : Inv' C0 := ⟨9, Gx (Rw Int), fun x => [(9, .int .i64 ((x.1 * (s - 12) : Nat) : Int)), (8, .sl 2 0 x.1 x.2.2.2.2.2)], fun x m => match m with
 | [a, rs] => [a, rs, ⟨x.2.2.1, x.2.2.2.1, 1, true, some x.2.1, .rows 26 x.2.2.2.2.1⟩]
 | m => m, fun x => x.1 ≤ pcN B.length s ∧ Grw (x.2.2.2.2.1.take x.1) x.2.2.2.2.1 x.2.1 x.1 x.2.2.2.2.2 ∧ Prs B s n x.2.2.2.2.1 x.1, fun x => pcN B.length s - x.1⟩
theorem alln1 (n : Int) : alln [n] = cn n := by unfold alln; simp
theorem piS0 {s : Int} (h : (decide (s < 16) || decide (1024 < s)) = false) : 16 ≤ s ∧ s ≤ 1024 := by
 simp only [yi, decide_eq_false_iff_not] at h; omega
theorem piS1 {s : Int} (h : (decide (s < 16) || decide (1024 < s)) = true) : s < 16 ∨ 1024 < s := by
 simpa only [yr, decide_eq_true_eq] using h
theorem piK {n k : Nat} {s : Int} (hS : (decide (s < 16) || decide (1024 < s)) = false) (h : (decide (((k * (s.toNat - 12) : Nat) : Int) = 0) || decide (((k * (s.toNat - 12) : Nat) : Int) < (n : Int))) = true) :
 16 ≤ s ∧ s ≤ 1024 ∧ k < pcN n s.toNat ∧ k * (s.toNat - 12) ≤ n := by
 obtain ⟨s1, s2⟩ := piS0 hS
 simp only [yr, decide_eq_true_eq] at h
 refine ⟨s1, s2, (pcN_lt (by omega)).2 ?_, by omega⟩
 rcases h with h | h
 · have h : k * (s.toNat - 12) = 0 := by omega
   rcases Nat.mul_eq_zero.1 h with h | h <;> omega
 · omega
theorem piK2 {n k : Nat} {s : Int} (hS : (decide (s < 16) || decide (1024 < s)) = false) (h : (decide (((k * (s.toNat - 12) : Nat) : Int) = 0) || decide (((k * (s.toNat - 12) : Nat) : Int) < (n : Int))) = false)
 (hk : k ≤ pcN n s.toNat) : k = pcN n s.toNat := by
 obtain ⟨s1, s2⟩ := piS0 hS
 simp only [yi, decide_eq_false_iff_not] at h
 have : ¬ k < pcN n s.toNat := by
  rw [pcN_lt (by omega)]
  rintro (rfl | h3)
  · exact h.1 (by simp)
  · omega
 omega
theorem pi_m {n K : Nat} {s : Int} (hs : 16 ≤ s) (hK : K ≤ n) : (min ((K : Int) + s - 12) (n : Int)).toNat - (K : Int).toNat = min (s.toNat - 12) (n - K) := by omega
abbrev piM (n k : Nat) (s : Int) : Nat := (min (((k * (s.toNat - 12) : Nat) : Int) + s - 12) (n : Int)).toNat - ((k * (s.toNat - 12) : Nat) : Int).toNat
abbrev piZ (n k : Nat) (s : Int) : Nat := (s - ((0 + 4 * 3 + piM n k s : Nat) : Int)).toNat
abbrev piRow (c n k : Nat) (s : Int) (g l spA spZ : List Int) : List Int :=
 wx (0 + 4 * 3 + piM n k s) (vj 0 (wx (0 + 4 * 3) (vj 0 g) ++ wx (piM n k s) (vj (srow c (k * (s.toNat - 12)) 0) l) ++ spA)) ++ zq (piZ n k s) 0 ++ spZ
theorem pi_srow {c n k : Nat} {s : Int} {l : List Int} (hm : piM n k s = min (s.toNat - 12) (n - k * (s.toNat - 12))) (hn : n ≤ l.length) (hc : n ≤ c) (hK : k * (s.toNat - 12) ≤ n) :
 (wx (piM n k s) (vj (srow c (k * (s.toNat - 12)) 0) l)).length = piM n k s := by
 rw [zp, zj, hm]
 unfold srow
 split <;> omega
theorem pi_row0 {L g l spA : List Int} {c n k cg : Nat} {s : Int} (hg : Gr L g (0 + 4 * 3) cg) (hm : piM n k s = min (s.toNat - 12) (n - k * (s.toNat - 12))) (hn : n ≤ l.length) (hc : n ≤ c) (hK : k * (s.toNat - 12) ≤ n) :
 wx (0 + 4 * 3 + piM n k s) (vj 0 (wx (0 + 4 * 3) (vj 0 g) ++ wx (piM n k s) (vj (srow c (k * (s.toNat - 12)) 0) l) ++ spA)) = L ++ wx (piM n k s) (vj (srow c (k * (s.toNat - 12)) 0) l) := by
 have e := pi_srow hm hn hc hK
 rw [xi, xi, hg.2.1, yh (by rw [zw, e, ← hg.1]; exact zy _), zu (by rw [zw, e, ← hg.1]; exact zy _)]
theorem pi_row_len {L g l spA spZ : List Int} {c n k cg : Nat} {s : Int} (hg : Gr L g (0 + 4 * 3) cg) (hm : piM n k s = min (s.toNat - 12) (n - k * (s.toNat - 12))) (hn : n ≤ l.length) (hc : n ≤ c) (hK : k * (s.toNat - 12) ≤ n) :
 (piRow c n k s g l spA spZ).length = 0 + 4 * 3 + piM n k s + piZ n k s + spZ.length := by
 unfold piRow
 rw [pi_row0 (spA := spA) hg hm hn hc hK, zw, zw, zw, pi_srow hm hn hc hK, wm, ← hg.1]
theorem pi_row {num : Int} {g l spA spZ : List Int} {c n k cg : Nat} {s : Int} (hg : Gr (fours [num, (k : Int), (n : Int)]) g (0 + 4 * 3) cg) (hm : piM n k s = min (s.toNat - 12) (n - k * (s.toNat - 12))) (hn : n ≤ l.length) (hc : n ≤ c)
 (hK : k * (s.toNat - 12) ≤ n) : wx (0 + 4 * 3 + piM n k s + piZ n k s) (vj 0 (piRow c n k s g l spA spZ)) = piece (l.take n) s.toNat num k := by
 have e := pi_srow hm hn hc hK
 have h12 := hg.1
 unfold piRow
 rw [pi_row0 (spA := spA) hg hm hn hc hK, xi, yh (by rw [zw, zw, e, wm, ← h12]; exact zy _),
  zu (by rw [zw, zw, e, wm, ← h12]; exact zy _), zm]
 unfold piece
 rw [tk_len hn]
 have e2 : wx (s.toNat - 12) (vj (k * (s.toNat - 12)) (wx n l)) = wx (piM n k s) (vj (srow c (k * (s.toNat - 12)) 0) l) := by
  rw [uh, vm, hm]
  unfold srow
  split
  · rename_i h
    have : min (s.toNat - 12) (n - k * (s.toNat - 12)) = 0 := by omega
    rw [this, xv, xv]
  · rw [xb]
 rw [e2, e]
 congr 3
 show (s - ((0 + 4 * 3 + piM n k s : Nat) : Int)).toNat = s.toNat - 12 - piM n k s
 omega
set_option maxHeartbeats 8000000 in
theorem pieces_ok (o : Bool) (b q : Nat) (l : List Int) (n c : Nat) (s num : Int) (h1 : Sq.ok (o, b, q, l, n, c)) (hn : n ≤ 1000000) :
 Does (C := C0) Tryd.prog (.fn 20) [⟨b, q, 1, false, some o, .rows 5 l⟩] [.sl 0 0 n c, .int .i64 s, .int .i64 num]
 [⟨Unit, fun _ => s < 16 ∨ 1024 < s, fun _ => .tup [.nils, eV 2], fun _ => [⟨b, q, 1, false, some o, .rows 5 l⟩]⟩,
  ⟨Unit, fun _ => (16 ≤ s ∧ s ≤ 1024) ∧ cn num = false, fun _ => .tup [.nils, eV 0], fun _ => [⟨b, q, 1, false, some o, .rows 5 l⟩]⟩,
  ⟨Unit, fun _ => (16 ≤ s ∧ s ≤ 1024) ∧ cn num = true ∧ 64 * (s.toNat - 12) < n, fun _ => .tup [.nils, eV 1], fun _ => [⟨b, q, 1, false, some o, .rows 5 l⟩]⟩,
  ⟨Nat × Nat × List (Rw Int) × Nat, fun y => (16 ≤ s ∧ s ≤ 1024) ∧ cn num = true ∧ n ≤ 64 * (s.toNat - 12) ∧ Grw (y.2.2.1.take (pcN n s.toNat)) y.2.2.1 true (pcN n s.toNat) y.2.2.2 ∧ Prs (l.take n) s.toNat num y.2.2.1 (pcN n s.toNat), fun y => .tup [.sl 1 0 (pcN n s.toNat) y.2.2.2, .nili],
   fun y => [⟨b, q, 1, false, some o, .rows 5 l⟩, ⟨y.1, y.2.1, 1, true, none, .rows 26 y.2.2.1⟩]⟩] := by
 have hnl : n ≤ l.length := h1.2.1
 refine loc_fn (P := Tryd.prog) (E := ⟨[fcLay], [pcNumb], 90, [(2, [], [.p 0, .p 1, .p 2]), (4, [], [.p 0, .p 1, .p 2]), (6, [], [.p 0, .p 1, .p 2]),
  (13, [3], [.p 0, .p 1, .p 2, .p 3, .p 4, .p 5, .p 6, .p 7, .p 8, .p 9, .p 10, .p 11, .p 12, .p 13, .p 14, .e 15, .p 16, .p 17, .f 18]),
  (14, [3], [.p 0, .p 1, .p 2, .p 3, .p 4, .p 5, .p 6, .p 7, .p 8, .p 9, .p 10, .p 11, .e 12, .e 13, .e 14, .p 15])], [], [wB]⟩) (L := [Pi9 (l.take n) s.toNat num]) mix Tryd.func20 rfl (by kernel_rfl) (by kernel_rfl) rfl rfl ?_
 ((conv => arg 1; reduce); with_reducible repeat' first | exact ty | refine ta ?_ ?_ | refine ti fun _ => ?_ | refine tf fun _ => ?_ | refine tl ?_)
 all_goals try exact vlf
 · rename_i hS
   refine Ends.one () (piS1 hS) ?_
   exact vgo
 · exact ⟨zy 1, by decide, fun h => xf h⟩
 · rename_i hS bn hA
   refine Ends.next (Ends.one () ⟨piS0 hS, (alln1 num).symm.trans (by simpa using hA)⟩ ?_)
   exact vgo
 iterate 2 (
  focus
  rename_i hS bn hA
  have := piS0 hS
  first
   | (exact inR64 (by omega) (by omega)
      done))
 · rename_i hS bn hA h64
   have h := ow h64
   have := piS0 hS
   refine Ends.next (Ends.next (Ends.one () ⟨piS0 hS, (alln1 num).symm.trans (by simpa using hA), by omega⟩ ?_))
   exact vgo
 · rename_i hS bn hA h64
   refine Stands.one (0, false, 0, 0, [], 0) ⟨⟨zn _, ⟨rfl, rfl, zy _, zy _, fun _ => ⟨rfl, rfl⟩⟩, rfl, by intro r hr; cases hr⟩, ?_⟩
   exact vgo
 · rename_i hS bn hA h64 v hv hk bw bi
   exact ⟨zy 3, by decide, zy 0, zy 0, by decide, fun _ => ⟨rfl, rfl⟩⟩
 iterate 2 (
  focus
  rename_i hS bn hA h64 v hv hk bw bi y hy
  obtain ⟨k, on, vb, vq, vl, vc⟩ := v
  obtain ⟨e1, e2, e3⟩ : k ≤ pcN (l.take n).length s.toNat ∧ Grw (vl.take k) vl on k vc ∧ Prs (l.take n) s.toNat num vl k := hv
  obtain ⟨s1, s2, k1, k2⟩ : 16 ≤ s ∧ s ≤ 1024 ∧ k < pcN n s.toNat ∧ k * (s.toNat - 12) ≤ n := piK hS hk
  have hm : (min (((k * (s.toNat - 12) : Nat) : Int) + s - 12) (n : Int)).toNat - ((k * (s.toNat - 12) : Nat) : Int).toNat = min (s.toNat - 12) (n - k * (s.toNat - 12)) := pi_m s1 k2
  first
   | (exact inR64 (by show _ ≤ ((k * (s.toNat - 12) : Nat) : Int) + s; omega) (by show ((k * (s.toNat - 12) : Nat) : Int) + s ≤ _; omega)
      done)
   | (exact inR64 (by show _ ≤ ((k * (s.toNat - 12) : Nat) : Int) + s - 12; omega) (by show ((k * (s.toNat - 12) : Nat) : Int) + s - 12 ≤ _; omega)
      done))
 · exact h1.2.2
 iterate 4 (
  focus
  rename_i hS bn hA h64 v hv hk bw bi y hy
  obtain ⟨k, on, vb, vq, vl, vc⟩ := v
  obtain ⟨e1, e2, e3⟩ : k ≤ pcN (l.take n).length s.toNat ∧ Grw (vl.take k) vl on k vc ∧ Prs (l.take n) s.toNat num vl k := hv
  obtain ⟨s1, s2, k1, k2⟩ : 16 ≤ s ∧ s ≤ 1024 ∧ k < pcN n s.toNat ∧ k * (s.toNat - 12) ≤ n := piK hS hk
  have hm : (min (((k * (s.toNat - 12) : Nat) : Int) + s - 12) (n : Int)).toNat - ((k * (s.toNat - 12) : Nat) : Int).toNat = min (s.toNat - 12) (n - k * (s.toNat - 12)) := pi_m s1 k2
  first
   | (show 0 ≤ min (((k * (s.toNat - 12) : Nat) : Int) + s - 12) (n : Int)
      omega
      done)
   | (have := h1.1
      show min (((k * (s.toNat - 12) : Nat) : Int) + s - 12) (n : Int) ≤ (c : Int)
      dsimp only at this; omega
      done)
   | (show ((k * (s.toNat - 12) : Nat) : Int) ≤ min (((k * (s.toNat - 12) : Nat) : Int) + s - 12) (n : Int)
      omega
      done)
   | (have hc : n ≤ c := h1.1
      obtain ⟨f1, f2, f3, f4⟩ := hy.1
      rw [by5]
      refine ⟨f3, by show 0 + y.2.2.2.2 ≤ y.2.2.2.1.length; omega, ?_, ?_⟩
      · show srow c (k * (s.toNat - 12)) 0 + ((min (((k * (s.toNat - 12) : Nat) : Int) + s - 12) (n : Int)).toNat - ((k * (s.toNat - 12) : Nat) : Int).toNat) ≤ l.length
        rw [hm]
        unfold srow
        split <;> omega
      · show (0 + 4 * 3 + ((min (((k * (s.toNat - 12) : Nat) : Int) + s - 12) (n : Int)).toNat - ((k * (s.toNat - 12) : Nat) : Int).toNat)) * 1 ≤ 140737488355328
        rw [hm]; omega
      done))
 iterate 2 (
  focus
  rename_i hS bn hA h64 v hv hk bw bi y hy
  first
   | (exact hy.2
      done)
   | (obtain ⟨k, on, vb, vq, vl, vc⟩ := v
      obtain ⟨e1, e2, e3⟩ : k ≤ pcN (l.take n).length s.toNat ∧ Grw (vl.take k) vl on k vc ∧ Prs (l.take n) s.toNat num vl k := hv
      obtain ⟨s1, s2, k1, k2⟩ : 16 ≤ s ∧ s ≤ 1024 ∧ k < pcN n s.toNat ∧ k * (s.toNat - 12) ≤ n := piK hS hk
      have hm : (min (((k * (s.toNat - 12) : Nat) : Int) + s - 12) (n : Int)).toNat - ((k * (s.toNat - 12) : Nat) : Int).toNat = min (s.toNat - 12) (n - k * (s.toNat - 12)) := pi_m s1 k2
      intro ho
      have := h1.2.2 ho
      show (min (((k * (s.toNat - 12) : Nat) : Int) + s - 12) (n : Int)).toNat - ((k * (s.toNat - 12) : Nat) : Int).toNat = 0 ∧ (min (((k * (s.toNat - 12) : Nat) : Int) + s - 12) (n : Int)).toNat - ((k * (s.toNat - 12) : Nat) : Int).toNat = 0
      dsimp only at this
      rw [hm]; omega
      done))
 iterate 2 (
  focus
  rename_i hS bn hA h64 v hv hk bw bi y hy bA qA spA cA a1 a2
  obtain ⟨k, on, vb, vq, vl, vc⟩ := v
  obtain ⟨e1, e2, e3⟩ : k ≤ pcN (l.take n).length s.toNat ∧ Grw (vl.take k) vl on k vc ∧ Prs (l.take n) s.toNat num vl k := hv
  obtain ⟨s1, s2, k1, k2⟩ : 16 ≤ s ∧ s ≤ 1024 ∧ k < pcN n s.toNat ∧ k * (s.toNat - 12) ≤ n := piK hS hk
  have hm : (min (((k * (s.toNat - 12) : Nat) : Int) + s - 12) (n : Int)).toNat - ((k * (s.toNat - 12) : Nat) : Int).toNat = min (s.toNat - 12) (n - k * (s.toNat - 12)) := pi_m s1 k2
  first
   | (show inR .i64 (s - ((0 + 4 * 3 + ((min (((k * (s.toNat - 12) : Nat) : Int) + s - 12) (n : Int)).toNat - ((k * (s.toNat - 12) : Nat) : Int).toNat) : Nat) : Int))
      rw [hm]
      exact inR64 (by omega) (by omega)
      done)
   | (rw [by5]
      refine ⟨a1, ?_, ?_, ?_⟩
      · show 0 + cA ≤ (wx (0 + 4 * 3) (vj 0 y.2.2.2.1) ++ wx (piM n k s) (vj (srow c (k * (s.toNat - 12)) 0) l) ++ spA).length
        obtain ⟨f1, f2, f3, f4⟩ := hy.1
        have a2 : cA ≤ 0 + 4 * 3 + piM n k s + spA.length := a2
        have e5 := pi_srow (c := c) (l := l) hm hnl h1.1 k2
        rw [zw, zw, e5, xi, zp]
        omega
      · show 0 ≤ s - ((0 + 4 * 3 + ((min (((k * (s.toNat - 12) : Nat) : Int) + s - 12) (n : Int)).toNat - ((k * (s.toNat - 12) : Nat) : Int).toNat) : Nat) : Int)
        rw [hm]; omega
      · show (0 + 4 * 3 + ((min (((k * (s.toNat - 12) : Nat) : Int) + s - 12) (n : Int)).toNat - ((k * (s.toNat - 12) : Nat) : Int).toNat) + (s - ((0 + 4 * 3 + ((min (((k * (s.toNat - 12) : Nat) : Int) + s - 12) (n : Int)).toNat - ((k * (s.toNat - 12) : Nat) : Int).toNat) : Nat) : Int)).toNat) * 1 ≤ 140737488355328
        rw [hm]; omega
      done))
 · rename_i hS bn hA h64 v hv hk bw bi y hy bA qA spA cA a1 a2
   cases hb : y.2.2.1 with
   | true => exact Bool.or_true _
   | false => exact absurd (hy.2 hb).1 (by decide)
 · rename_i hS bn hA h64 v hv hk bw bi y hy bA qA spA cA a1 a2 bZ qZ spZ cZ z1 z2
   obtain ⟨k, on, vb, vq, vl, vc⟩ := v
   obtain ⟨e1, e2, e3⟩ : k ≤ pcN (l.take n).length s.toNat ∧ Grw (vl.take k) vl on k vc ∧ Prs (l.take n) s.toNat num vl k := hv
   obtain ⟨s1, s2, k1, k2⟩ : 16 ≤ s ∧ s ≤ 1024 ∧ k < pcN n s.toNat ∧ k * (s.toNat - 12) ≤ n := piK hS hk
   have hm : (min (((k * (s.toNat - 12) : Nat) : Int) + s - 12) (n : Int)).toNat - ((k * (s.toNat - 12) : Nat) : Int).toNat = min (s.toNat - 12) (n - k * (s.toNat - 12)) := pi_m s1 k2
   show 0 + (0 + 4 * 3 + piM n k s + piZ n k s) ≤ (piRow c n k s y.2.2.2.1 l spA spZ).length
   rw [pi_row_len hy.1 hm hnl h1.1 k2]; omega
 iterate 2 (
  focus
  rename_i hS bn hA h64 v hv hk bw bi y hy bA qA spA cA a1 a2 bZ qZ spZ cZ z1 z2 bB
  obtain ⟨k, on, vb, vq, vl, vc⟩ := v
  obtain ⟨e1, e2, e3⟩ : k ≤ pcN (l.take n).length s.toNat ∧ Grw (vl.take k) vl on k vc ∧ Prs (l.take n) s.toNat num vl k := hv
  obtain ⟨s1, s2, k1, k2⟩ : 16 ≤ s ∧ s ≤ 1024 ∧ k < pcN n s.toNat ∧ k * (s.toNat - 12) ≤ n := piK hS hk
  have hm : (min (((k * (s.toNat - 12) : Nat) : Int) + s - 12) (n : Int)).toNat - ((k * (s.toNat - 12) : Nat) : Int).toNat = min (s.toNat - 12) (n - k * (s.toNat - 12)) := pi_m s1 k2
  first
   | (obtain ⟨g1, g2, g3, g4, g5⟩ := e2
      have k64 := pcN_le (len := n) (s := s.toNat) (by omega) (by have := ov h64; omega)
      rw [by26]
      exact ⟨g3, by show 0 + vc ≤ vl.length; omega, zy 1, by show (k + 1) * 24 ≤ _; omega⟩
      done)
   | (exact e2.2.2.2.2
      done))
 iterate 3 (
  focus
  rename_i hS bn hA h64 v hv hk bw bi y hy bA qA spA cA a1 a2 bZ qZ spZ cZ z1 z2 bB b9 q9 sp9 c9 m1 m2
  obtain ⟨k, on, vb, vq, vl, vc⟩ := v
  obtain ⟨e1, e2, e3⟩ : k ≤ pcN (l.take n).length s.toNat ∧ Grw (vl.take k) vl on k vc ∧ Prs (l.take n) s.toNat num vl k := hv
  obtain ⟨s1, s2, k1, k2⟩ : 16 ≤ s ∧ s ≤ 1024 ∧ k < pcN n s.toNat ∧ k * (s.toNat - 12) ≤ n := piK hS hk
  have hm : (min (((k * (s.toNat - 12) : Nat) : Int) + s - 12) (n : Int)).toNat - ((k * (s.toNat - 12) : Nat) : Int).toNat = min (s.toNat - 12) (n - k * (s.toNat - 12)) := pi_m s1 k2
  first
   | (exact inR64 (by omega) (by omega)
      done)
   | (exact inR64 (by show _ ≤ ((k * (s.toNat - 12) : Nat) : Int) + (s - 12); omega) (by show ((k * (s.toNat - 12) : Nat) : Int) + (s - 12) ≤ _; omega)
      done)
   | (have hnn : (l.take n).length = n := tk_len hnl
      have hrow := pi_row (num := num) hy.1 hm hnl h1.1 k2 (spA := spA) (spZ := spZ)
      have e5 := e2.app (x := (⟨true, bZ, qZ + 0 * 1, cZ, wx (0 + 4 * 3 + piM n k s + piZ n k s) (vj 0 (piRow c n k s y.2.2.2.1 l spA spZ))⟩ : Rw Int)) (sp := sp9) m1 m2
      have e6 := e5.2.1
      refine Stands.one (k + 1, true, b9, q9, vl.take k ++ [⟨true, bZ, qZ + 0 * 1, cZ, wx (0 + 4 * 3 + piM n k s + piZ n k s) (vj 0 (piRow c n k s y.2.2.2.1 l spA spZ))⟩] ++ sp9, c9) ⟨⟨by rw [hnn]; exact k1, ?_, ?_, ?_⟩, ?_, ?_⟩
      · show Grw (wx (k + 1) _) _ _ _ _
        rw [e6]
        exact e5
      · show (wx (k + 1) _).map _ = _
        rw [e6, vw, yy, yy, e3.1]
        show _ ++ [_] = _ ++ [_]
        rw [hrow]
      · show ∀ r ∈ wx (k + 1) _, Rok r
        rw [e6]
        intro r hr
        rcases List.mem_append.1 hr with hr | hr
        · exact e3.2 r hr
        · rw [List.mem_singleton.1 hr, hrow]
          have hl := piece_len (B := l.take n) (s := s.toNat) (n := num) (k := k) (by omega)
          have z1 : 0 + 4 * 3 + piM n k s + piZ n k s ≤ cZ := z1
          have e7 : 0 + 4 * 3 + piM n k s + piZ n k s = s.toNat := by unfold piZ piM; rw [hm]; omega
          exact ⟨fun h => xf h, by show _ ≤ cZ; rw [hl]; omega, by rw [hl]; omega⟩
      · show pcN (l.take n).length s.toNat - (k + 1) < pcN (l.take n).length s.toNat - k
        rw [hnn]; omega
      ((conv => arg 1; reduce); with_reducible repeat' first | exact ty | refine ta ?_ ?_ | refine ti fun _ => ?_ | refine tf fun _ => ?_ | refine tl ?_)
      all_goals try exact vlf
      show ((k * (s.toNat - 12) : Nat) : Int) + (s - 12) = (((k + 1) * (s.toNat - 12) : Nat) : Int)
      rw [zf, uj]; omega
      done))
 · rename_i hS bn hA h64 v hv hk
   obtain ⟨k, on, vb, vq, vl, vc⟩ := v
   obtain ⟨e1, e2, e3⟩ : k ≤ pcN (l.take n).length s.toNat ∧ Grw (vl.take k) vl on k vc ∧ Prs (l.take n) s.toNat num vl k := hv
   rw [tk_len hnl] at e1
   obtain rfl := piK2 hS hk e1
   have hp := pcN_pos n s.toNat
   obtain rfl : on = true := on_of e2.2.2.2.2 hp
   have h64 := ov h64
   have hs0 := piS0 hS
   refine Ends.next (Ends.next (Ends.next (Ends.one (vb, vq, vl, vc) ⟨hs0, (alln1 num).symm.trans (by simpa using hA), by omega, e2, e3⟩ ?_)))
   exact vgo
def fcPieces : Fc Tryd.prog C0 where
 tg := .fn 20
 X := Sq Int × Int × Int
 args := fun ((o, b, q, l, n, c), s, num) => [.sl 0 0 n c, .int .i64 s, .int .i64 num]
 mem := fun ((o, b, q, l, n, c), s, num) => [⟨b, q, 1, false, some o, .rows 5 l⟩]
 pre := fun ((o, b, q, l, n, c), s, num) => Sq.ok (o, b, q, l, n, c) ∧ n ≤ 1000000
 alts := fun ((o, b, q, l, n, c), s, num) => [⟨Unit, fun _ => s < 16 ∨ 1024 < s, fun _ => .tup [.nils, eV 2], fun _ => [⟨b, q, 1, false, some o, .rows 5 l⟩]⟩,
  ⟨Unit, fun _ => (16 ≤ s ∧ s ≤ 1024) ∧ cn num = false, fun _ => .tup [.nils, eV 0], fun _ => [⟨b, q, 1, false, some o, .rows 5 l⟩]⟩,
  ⟨Unit, fun _ => (16 ≤ s ∧ s ≤ 1024) ∧ cn num = true ∧ 64 * (s.toNat - 12) < n, fun _ => .tup [.nils, eV 1], fun _ => [⟨b, q, 1, false, some o, .rows 5 l⟩]⟩,
  ⟨Nat × Nat × List (Rw Int) × Nat, fun y => (16 ≤ s ∧ s ≤ 1024) ∧ cn num = true ∧ n ≤ 64 * (s.toNat - 12) ∧ Grw (y.2.2.1.take (pcN n s.toNat)) y.2.2.1 true (pcN n s.toNat) y.2.2.2 ∧ Prs (l.take n) s.toNat num y.2.2.1 (pcN n s.toNat), fun y => .tup [.sl 1 0 (pcN n s.toNat) y.2.2.2, .nili],
   fun y => [⟨b, q, 1, false, some o, .rows 5 l⟩, ⟨y.1, y.2.1, 1, true, none, .rows 26 y.2.2.1⟩]⟩]
 mat vs m := match vs with
  | [.sl a 0 n c, .int _ s, .int _ num] => match nth m a with
    | ⟨b, q, _, _, g, .rows 5 l⟩ => some (((onOf g, b, q, l, n, c), s, num), [a])
    | _ => none
  | [.nils, .int _ s, .int _ num] => some (((false, 0, 0, [], 0, 0), s, num), [m.length])
  | _ => none
 ok := fun ((o, b, q, l, n, c), s, num) h => pieces_ok o b q l n c s num h.1 h.2
end Go.Vx
namespace Go.Vx
open Go Go.Proofs
variable [Gl]
theorem wrap_i64 (n : Nat) (h : n < 9223372036854775808) : IntKind.i64.wrap (n : Int) = n := by
 unfold IntKind.wrap
 simp [IntKind.bits, IntKind.signed]
 omega
theorem ofInt_i64 (n : Nat) (h : n < 9223372036854775808) : (BitVec.ofInt 64 (n : Int)).toNat = n := by
 simp [BitVec.toNat_ofInt]; omega
theorem or_i64 (a b : Nat) (ha : a < 9223372036854775808) (hb : b < 9223372036854775808) : ibit .or .i64 a b = ((a ||| b : Nat) : Int) := by
 show IntKind.i64.wrap (((BitVec.ofInt 64 (a : Int)) ||| (BitVec.ofInt 64 (b : Int))).toNat : Int) = _
 rw [BitVec.toNat_or, ofInt_i64 a ha, ofInt_i64 b hb]
 exact wrap_i64 _ (Nat.or_lt_two_pow (n := 63) ha hb)
theorem or_add (i a b : Nat) (h : b < 2 ^ i) : b ||| (a * 2 ^ i) = b + a * 2 ^ i := by
 rw [Nat.or_comm, Nat.mul_comm a, ← Nat.two_pow_add_eq_or_of_lt h, Nat.add_comm]
theorem ishl_nat (a k : Nat) (hk : k ≤ 24) (ha : a < 256) : ishl .i64 (a : Int) k = ((a * 2 ^ k : Nat) : Int) := by
 unfold ishl
 have e : min ((k : Int)).toNat IntKind.i64.bits = k := by simp [IntKind.bits]; omega
 rw [e, show ((a : Int) * 2 ^ k) = ((a * 2 ^ k : Nat) : Int) by simp]
 have h2 : 2 ^ k ≤ 2 ^ 24 := Nat.pow_le_pow_right (by decide) hk
 refine wrap_i64 _ ?_
 calc a * 2 ^ k ≤ 256 * 2 ^ 24 := Nat.mul_le_mul (by omega) h2
  _ < _ := by decide
theorem nm_nat (l : List Int) (i a b c d : Nat) (ha : a < 256) (hb : b < 256) (hc : c < 256) (hd : d < 256) (h0 : l.getD i 0 = a) (h1 : l.getD (i + 1) 0 = b) (h2 : l.getD (i + 2) 0 = c) (h3 : l.getD (i + 3) 0 = d) :
 nm l i = ((a + b * 256 + c * 65536 + d * 16777216 : Nat) : Int) := by
 unfold nm
 rw [h0, h1, h2, h3]
 have e1 := ishl_nat b 8 (by decide) hb
 have e2 := ishl_nat c 16 (by decide) hc
 have e3 := ishl_nat d 24 (by decide) hd
 simp only [Int.reducePow, Nat.reducePow] at e1 e2 e3
 rw [show ishl .i64 (b : Int) 8 = ((b * 256 : Nat) : Int) from e1, show ishl .i64 (c : Int) 16 = ((c * 65536 : Nat) : Int) from e2, show ishl .i64 (d : Int) 24 = ((d * 16777216 : Nat) : Int) from e3]
 rw [or_i64 _ _ (by omega) (by omega), show a ||| b * 256 = a + b * 256 from or_add 8 b a (by omega)]
 rw [or_i64 _ _ (by omega) (by omega), show (a + b * 256) ||| c * 65536 = a + b * 256 + c * 65536 from or_add 16 c _ (by omega)]
 rw [or_i64 _ _ (by omega) (by omega), show (a + b * 256 + c * 65536) ||| d * 16777216 = a + b * 256 + c * 65536 + d * 16777216 from or_add 24 d _ (by omega)]
theorem four_nat (n : Nat) (h : n < 4294967296) : four (n : Int) = [((n % 256 : Nat) : Int), ((n / 256 % 256 : Nat) : Int), ((n / 65536 % 256 : Nat) : Int), ((n / 16777216 % 256 : Nat) : Int)] := by
 unfold four
 have w : ∀ m : Int, IntKind.u8.wrap m = m % 256 := fun m => by simp [IntKind.wrap, IntKind.signed, IntKind.bits]
 have s8 : ishr .i64 (n : Int) 8 = ((n / 256 : Nat) : Int) := by
  show ((n : Int)).fdiv 256 = _
  rw [ur _ (by decide)]; simp
 have s16 : ishr .i64 (n : Int) 16 = ((n / 65536 : Nat) : Int) := by
  show ((n : Int)).fdiv 65536 = _
  rw [ur _ (by decide)]; simp
 have s24 : ishr .i64 (n : Int) 24 = ((n / 16777216 : Nat) : Int) := by
  show ((n : Int)).fdiv 16777216 = _
  rw [ur _ (by decide)]; simp
 rw [s8, s16, s24, w, w, w, w]
 simp
def U32 (x : Int) : Prop := 0 ≤ x ∧ x < 4294967296
theorem byt_at {l : List Int} (h : Bys l) {i : Nat} (hi : i < l.length) : ∃ a : Nat, a < 256 ∧ l.getD i 0 = a ∧ l[i] = a := by
 obtain ⟨h1, h2⟩ := h l[i] (xk hi)
 obtain ⟨a, ha⟩ := sd h1
 refine ⟨a, by omega, ?_, ha⟩
 rw [zz, zv hi, zb]; exact ha
theorem four_nm {l : List Int} (h : Bys l) {j : Nat} (hj : j + 4 ≤ l.length) : four (nm l j) = (l.drop j).take 4 ∧ U32 (nm l j) := by
 obtain ⟨a, ha, ha2, ha3⟩ := byt_at h (i := j) (by omega)
 obtain ⟨b, hb, hb2, hb3⟩ := byt_at h (i := j + 1) (by omega)
 obtain ⟨c, hc, hc2, hc3⟩ := byt_at h (i := j + 2) (by omega)
 obtain ⟨d, hd, hd2, hd3⟩ := byt_at h (i := j + 3) (by omega)
 rw [nm_nat l j a b c d ha hb hc hd ha2 hb2 hc2 hd2]
 refine ⟨?_, by unfold U32; omega⟩
 rw [four_nat _ (by omega)]
 have e1 : (a + b * 256 + c * 65536 + d * 16777216) % 256 = a := by omega
 have e2 : (a + b * 256 + c * 65536 + d * 16777216) / 256 % 256 = b := by omega
 have e3 : (a + b * 256 + c * 65536 + d * 16777216) / 65536 % 256 = c := by omega
 have e4 : (a + b * 256 + c * 65536 + d * 16777216) / 16777216 % 256 = d := by omega
 rw [e1, e2, e3, e4, vx (show j < l.length by omega), vx (show j + 1 < l.length by omega),
  vx (show j + 1 + 1 < l.length by omega), vx (show j + 1 + 1 + 1 < l.length by omega)]
 simp only [List.take_succ_cons, xv, ha3, hb3]
 rw [show l[j + 1 + 1] = (c : Int) from hc3, show l[j + 1 + 1 + 1] = (d : Int) from hd3]
theorem nm_four {x : Int} (h : U32 x) (r : List Int) : nm (four x ++ r) 0 = x := by
 obtain ⟨n, rfl⟩ := sd h.1
 have hn : n < 4294967296 := by have := h.2; omega
 rw [four_nat n hn]
 rw [nm_nat _ 0 (n % 256) (n / 256 % 256) (n / 65536 % 256) (n / 16777216 % 256) (by omega) (by omega) (by omega) (by omega) rfl rfl rfl rfl]
 congr 1
 omega
theorem nm_drop (l : List Int) (i j : Nat) : nm (l.drop i) j = nm l (i + j) := by
 unfold nm
 simp only [zz, List.getElem?_drop, Nat.add_assoc]
theorem nm_take (l : List Int) {n j : Nat} (h : j + 4 ≤ n) : nm (l.take n) j = nm l j := by
 unfold nm
 simp only [zz, List.getElem?_take, show j < n by omega, show j + 1 < n by omega, show j + 2 < n by omega, show j + 3 < n by omega, if_true]
theorem nm_fours {N : List Int} (h : ∀ x ∈ N, U32 x) (r : List Int) : ∀ {k : Nat}, k < N.length → nm (fours N ++ r) (4 * k) = N.getD k 0 := by
 induction N with
 | nil => intro k hk; simp at hk
 | cons x M ih =>
   intro k hk
   have e : fours (x :: M) ++ r = four x ++ (fours M ++ r) := by
    rw [show x :: M = [x] ++ M from rfl, fours_app, fours_one, zm]
   rw [e]
   cases k with
   | zero => rw [Nat.mul_zero, nm_four (h x xj)]; rfl
   | succ k =>
     have h2 := ih (fun y hy => h y (List.mem_cons_of_mem _ hy)) (k := k) (by simpa using hk)
     have h3 := nm_drop (four x ++ (fours M ++ r)) 4 (4 * k)
     rw [xe (by rw [four_len]; exact zy _), vi (by rw [four_len]; exact zy _), xl] at h3
     rw [show 4 * (k + 1) = 4 + 4 * k by omega, ← h3, h2]; rfl
def rdN (b : List Int) (M : Nat) : List Int := (vh M).map fun k => nm b (4 * k)
theorem rdN_len (b : List Int) (M : Nat) : (rdN b M).length = M := by unfold rdN; simp
theorem rdN_get (b : List Int) {M k : Nat} (h : k < M) : (rdN b M).getD k 0 = nm b (4 * k) := by
 unfold rdN
 rw [zz, zh, tj h]; rfl
theorem fours_rdN {b : List Int} (h : Bys b) : ∀ (M : Nat), 4 * M ≤ b.length → fours (rdN b M) = b.take (4 * M)
 | 0, _ => by unfold rdN; simp [fours_nil]
 | M + 1, hM => by
   have ih := fours_rdN h M (by omega)
   unfold rdN at *
   rw [vw, yy, fours_app, ih, List.map_singleton, fours_one, (four_nm h (by omega)).1, show 4 * (M + 1) = 4 * M + 4 by omega, vo]
theorem rdN_u32 {b : List Int} (h : Bys b) {M : Nat} (hM : 4 * M ≤ b.length) : ∀ x ∈ rdN b M, U32 x := by
 unfold rdN
 intro x hx
 obtain ⟨k, hk, rfl⟩ := List.mem_map.1 hx
 exact (four_nm h (by have := List.mem_range.1 hk; omega)).2
theorem rdN_fours {N : List Int} (h : ∀ x ∈ N, U32 x) (r : List Int) : rdN (fours N ++ r) N.length = N := by
 refine qw (by rw [rdN_len]) fun k h1 h2 => ?_
 have e := nm_fours h r (k := k) h2
 rw [zz, zv h2, zb] at e
 rw [← e, ← rdN_get _ h2, zz, zv h1, zb]
theorem crc_u32 (l : List Int) : U32 (crc l) := ibit_u32 _ _ _
theorem nums_len (h : Hd) (A : List Pl) (B : List Slot) : (nums h A B).length = 6 + 2 * A.length + 9 * B.length := by
 unfold nums
 have e1 : ∀ A : List Pl, (A.flatMap lst).length = 2 * A.length := by
  intro A
  induction A with
  | nil => rfl
  | cons x r ih => rw [um, zw, ih]; simp [lst]; omega
 have e2 : ∀ B : List Slot, (B.flatMap slotN).length = 9 * B.length := by
  intro B
  induction B with
  | nil => rfl
  | cons x r ih => rw [um, zw, ih]; simp [slotN]; omega
 simp only [zw, xz, uv, e1, e2]
 omega
theorem flat_inj {α : Type} {f : α → List Int} {k : Nat} (hf : ∀ x, (f x).length = k) (hi : ∀ x y, f x = f y → x = y) : ∀ {A A' : List α}, A.length = A'.length → A.flatMap f = A'.flatMap f → A = A'
 | [], [], _, _ => rfl
 | [], _ :: _, h, _ => by simp at h
 | _ :: _, [], h, _ => by simp at h
 | x :: A, y :: A', hl, h => by
   rw [um, um] at h
   obtain ⟨h1, h2⟩ := List.append_inj h (by rw [hf, hf])
   rw [hi x y h1, flat_inj hf hi (by simpa using hl) h2]
theorem lst_inj (x y : Pl) (h : lst x = lst y) : x = y := by
 obtain ⟨a, b⟩ := x; obtain ⟨c, d⟩ := y
 simpa [lst] using h
theorem slotN_inj (x y : Slot) (h : slotN x = slotN y) : x = y := by
 obtain ⟨k, ⟨a, b⟩, ⟨m1, m2, m3, m4, m5, m6⟩⟩ := x
 obtain ⟨k', ⟨a', b'⟩, ⟨m1', m2', m3', m4', m5', m6'⟩⟩ := y
 simp [slotN] at h
 simp [h]
theorem nums_inj {h h' : Hd} {A A' : List Pl} {B B' : List Slot} (he : nums h A B = nums h' A' B') : h = h' ∧ A = A' ∧ B = B' := by
 unfold nums at he
 simp only [wg, xl, List.cons.injEq, zm] at he
 obtain ⟨e1, e2, e3, e4, e5, e6⟩ := he
 have hl : A.length = A'.length := by omega
 have e1' : ∀ A : List Pl, (A.flatMap lst).length = 2 * A.length := by
  intro A
  induction A with
  | nil => rfl
  | cons x r ih => rw [um, zw, ih]; simp [lst]; omega
 obtain ⟨g1, g2⟩ := List.append_inj e6 (by rw [e1', e1', hl])
 simp only [wg, xl, List.cons.injEq] at g2
 refine ⟨uf e1 (uf e2 (uf e3 e4)), flat_inj (f := lst) (k := 2) (fun _ => rfl) lst_inj hl g1, flat_inj (f := slotN) (k := 9) (fun _ => rfl) slotN_inj (by have := g2.1; omega) g2.2⟩
theorem okBs_at {A : List Pl} : ∀ {n : Nat}, okBs A n = true → ∀ i, i < n → cn (A.getD i (0, 0)).1 = true ∧ cn (A.getD i (0, 0)).2 = true ∧ (A.getD i (0, 0)).1 < 64
 | n + 1, h, i, hi => by
   rw [okBs] at h
   unfold okB at h
   simp only [zx, decide_eq_true_iff] at h
   rcases Nat.lt_succ_iff_lt_or_eq.1 hi with hi | rfl
   · exact okBs_at h.1.1.1 i hi
   · exact ⟨h.1.1.2.1, h.1.1.2.2, h.1.2⟩
theorem okSs_at {A : List Pl} {ok : Bool} {B : List Slot} : ∀ {n : Nat}, okSs A ok B n = true → ok = true ∧ ∀ i, i < n → anyF (fun x => decide (x.1 = (B.getD i slot0).pl.1)) A = true ∧ cn (B.getD i slot0).key = true ∧ cn (B.getD i slot0).pl.2 = true ∧ okMe (B.getD i slot0).me = true
 | 0, h => ⟨h, fun i hi => absurd hi (ue _)⟩
 | n + 1, h => by
   rw [okSs] at h
   unfold okS at h
   simp only [zx, decide_eq_true_iff] at h
   obtain ⟨h1, h2⟩ := okSs_at h.1.1.1.1.1
   refine ⟨h1, fun i hi => ?_⟩
   rcases Nat.lt_succ_iff_lt_or_eq.1 hi with hi | rfl
   · exact h2 i hi
   · exact ⟨h.1.1.1.1.2, h.1.1.1.2.1, h.1.1.1.2.2, h.1.2⟩
theorem cn_u32 {x : Int} (h : cn x = true) : U32 x := by have := cn_iff.1 h; unfold U32; omega
theorem okMe_u32 {m : Me} (h : okMe m = true) : U32 m.kind ∧ U32 m.key ∧ U32 m.seq ∧ U32 m.stamp ∧ U32 m.batch ∧ U32 m.floor := by
 unfold okMe at h
 simp only [zx, decide_eq_true_iff] at h
 exact ⟨by unfold U32; omega, cn_u32 h.1.1.1.1.2, cn_u32 h.1.1.1.2, cn_u32 h.1.1.2, cn_u32 h.1.2, cn_u32 h.2⟩
theorem okP_u32 {h : Hd} {A : List Pl} {B : List Slot} (hok : okP h A B = true) (hA : A.length < 4294967296) (hB : B.length < 4294967296) : ∀ x ∈ nums h A B, U32 x := by
 unfold okP at hok
 obtain ⟨h1, h2⟩ := okSs_at hok
 simp only [zx] at h1
 have h3 := okBs_at h1.2
 have h4 := h1.1
 unfold okH at h4
 simp only [zx] at h4
 have hAm : ∀ b ∈ A, cn b.1 = true ∧ cn b.2 = true := by
  intro b hb
  obtain ⟨i, hi, rfl⟩ := List.mem_iff_getElem.1 hb
  have := h3 i hi
  rw [zz, zv hi, zb] at this
  exact ⟨this.1, this.2.1⟩
 intro x hx
 unfold nums at hx
 simp only [List.mem_append, we, ww, or_false, List.mem_flatMap] at hx
 rcases hx with ((hx | ⟨b, hb, hx⟩) | hx) | ⟨s, hs, hx⟩
 · rcases hx with rfl | rfl | rfl | rfl | rfl
   · exact cn_u32 h4.1.1.1
   · exact cn_u32 h4.1.1.2
   · exact cn_u32 h4.1.2
   · exact cn_u32 h4.2
   · unfold U32; omega
 · simp only [lst, we, ww, or_false] at hx
   rcases hx with rfl | rfl
   · exact cn_u32 (hAm b hb).1
   · exact cn_u32 (hAm b hb).2
 · subst hx; unfold U32; omega
 · obtain ⟨i, hi, rfl⟩ := List.mem_iff_getElem.1 hs
   have g := h2 i hi
   rw [zz, zv hi, zb] at g
   obtain ⟨g1, g2, g3, g4⟩ := g
   have g5 := okMe_u32 g4
   unfold anyF at g1
   obtain ⟨b, hb, hbe⟩ := List.any_eq_true.1 g1
   have hbe := ow hbe
   simp only [slotN, we, ww, or_false] at hx
   rcases hx with rfl | rfl | rfl | rfl | rfl | rfl | rfl | rfl | rfl
   · exact cn_u32 g2
   · rw [← hbe]; exact cn_u32 (hAm b hb).1
   · exact cn_u32 g3
   · exact g5.1
   · exact g5.2.1
   · exact g5.2.2.1
   · exact g5.2.2.2.1
   · exact g5.2.2.2.2.1
   · exact g5.2.2.2.2.2
theorem bytesP_byt (h : Hd) (A : List Pl) (B : List Slot) : Bys (bytesP h A B) := by
 unfold bytesP
 exact (fours_byt _).app (four_byt _)
theorem bytesP_len (h : Hd) (A : List Pl) (B : List Slot) : (bytesP h A B).length = 28 + 8 * A.length + 36 * B.length := by
 unfold bytesP
 rw [zw, fours_len, four_len, nums_len]; omega
end Go.Vx
namespace Go.Vx
open Go Go.Proofs
variable [Gl]
def jbad (L : List (List Int)) : Prop := L.length = 0 ∨ (L.getD 0 []).length < 16 ∨ 1024 < (L.getD 0 []).length ∨ ∃ j, j < L.length ∧ (L.getD j []).length ≠ (L.getD 0 []).length
def JOk (L : List (List Int)) (n s : Int) : Prop := ¬ jbad L ∧ (∀ j, j < L.length → nm (L.getD j []) 0 = n ∧ nm (L.getD j []) 4 = (j : Nat) ∧ nm (L.getD j []) 8 = s) ∧ cn n = true ∧ L.length ≤ 64 ∧
 s ≤ (L.length * ((L.getD 0 []).length - 12) : Nat) ∧ (L.length : Int) = max 1 ((s + ((L.getD 0 []).length - 12 : Nat) - 1) / ((L.getD 0 []).length - 12 : Nat))
def jout (L : List (List Int)) : List Int := L.flatMap (·.drop 12)
def rowL (l : List (Rw Int)) (i n : Nat) : List (List Int) := ((l.drop i).take n).map (·.l)
theorem rowL_len {l : List (Rw Int)} {i n : Nat} (h : i + n ≤ l.length) : (rowL l i n).length = n := by unfold rowL; rw [zt, rows_len h]
theorem rowL_at {l : List (Rw Int)} {i n v : Nat} (h : i + n ≤ l.length) (hv : v < n) : (rowL l i n).getD v [] = (l.getD (v + i) Rw.nil).l := by
 unfold rowL
 rw [zz, zh, zv (by rw [rows_len h]; exact hv), ← rows_at hv, zz, zv (by rw [rows_len h]; exact hv)]
 rfl
def Jo4 (L : List (List Int)) : Inv' C0 := ⟨4, Nat, fun k => [(36, .int .i64 (k : Int))], fun x m => m, fun k => k ≤ L.length ∧ ∀ j, j < k → (L.getD j []).length = (L.getD 0 []).length, fun k => L.length - k⟩
def Jo14 (L : List (List Int)) : Inv' C0 := ⟨14, Gx Int, fun x => [(67, .int .i64 (x.1 : Int)), (12, .sl 6 0 (x.1 * ((L.getD 0 []).length - 12)) x.2.2.2.2.2)], fun x m => match m with
 | [a, g1, g2, g3, g4, r] => [a, g1, g2, g3, g4, r, ⟨x.2.2.1, x.2.2.2.1, 1, true, some x.2.1, .rows 5 x.2.2.2.2.1⟩]
 | m => m, fun x => x.1 ≤ L.length ∧ Grw (jout (L.take x.1)) x.2.2.2.2.1 x.2.1 (x.1 * ((L.getD 0 []).length - 12)) x.2.2.2.2.2 ∧
   (∀ j, j < x.1 → nm (L.getD j []) 0 = nm (L.getD 0 []) 0 ∧ nm (L.getD j []) 4 = (j : Nat) ∧ nm (L.getD j []) 8 = nm (L.getD 0 []) 8), fun x => L.length - x.1⟩
theorem getR_ok (b0 q0 : Nat) (bad : Bool) (o : Bool) (b q : Nat) (l : List Int) (i n c : Nat) (h1 : n ≤ c) (h2 : i + n ≤ l.length) (h3 : n < 140737488355000) (ho : o = false → n = 0 ∧ c = 0) (hb : Bys ((l.drop i).take n)) :
 Does (C := C0) Tryd.prog (.fn 43) [⟨b0, q0, 2, true, none, .one [.sl 1 i n c, .bool (.tm bad)]⟩, ⟨b, q, 1, false, some o, .rows 5 l⟩] [.ptr 0 0 0]
 [⟨Rs × Int, fun y => y = (gs (i, n, c, bad), gv l (i, n, c, bad)), fun y => .int .i64 y.2, fun y => [⟨b0, q0, 2, true, none, .one [.sl 1 y.1.1 y.1.2.1 y.1.2.2.1, .bool (.tm y.1.2.2.2)]⟩, ⟨b, q, 1, false, some o, .rows 5 l⟩]⟩] := by
 refine loc_fn (P := Tryd.prog) (E := ⟨[], [], 56, [], [], []⟩) (L := []) mix Tryd.func43 rfl (by kernel_rfl) (by kernel_rfl) rfl rfl ?_
 ((conv => arg 1; reduce); with_reducible repeat' first | exact ty | refine ta ?_ ?_ | refine ti fun _ => ?_ | refine tf fun _ => ?_ | refine tl ?_)
 all_goals try exact vlf
 all_goals rename_i hn
 all_goals try (have hn := ov hn)
 all_goals try exact on_of ho (by omega)
 all_goals try omega
 all_goals try (show _ + i < l.length; simp only [Int.toNat]; omega)
 · have hn := ow hn
   refine Ends.one (gs (i, n, c, bad), gv l (i, n, c, bad)) rfl ?_
   have h : n < 4 := by omega
   simp only [gs, gv, h, if_true]
   exact vgo
 · exact byt_get (j := 0) hb (by omega)
 · exact byt_get (j := 1) hb (by omega)
 · exact byt_get (j := 2) hb (by omega)
 · exact byt_get (j := 3) hb (by omega)
 · refine Ends.one (gs (i, n, c, bad), gv l (i, n, c, bad)) rfl ?_
   have h : ¬ n < 4 := by omega
   simp only [gs, gv, h, if_false]
   ((conv => arg 1; reduce); with_reducible repeat' first | exact ty | refine ta ?_ ?_ | refine ti fun _ => ?_ | refine tf fun _ => ?_ | refine tl ?_)
   all_goals try exact vlf
   exact nm_of (by simp) (by simp; omega) (by simp; omega) (by simp; omega)
def fcGetR : Fc Tryd.prog C0 where
 tg := .fn 43
 X := Nat × Nat × Bool × Bool × Nat × Nat × List Int × Nat × Nat × Nat
 args := fun (b0, q0, bad, o, b, q, l, i, n, c) => [.ptr 0 0 0]
 mem := fun (b0, q0, bad, o, b, q, l, i, n, c) => [⟨b0, q0, 2, true, none, .one [.sl 1 i n c, .bool (.tm bad)]⟩, ⟨b, q, 1, false, some o, .rows 5 l⟩]
 pre := fun (b0, q0, bad, o, b, q, l, i, n, c) => n ≤ c ∧ i + n ≤ l.length ∧ n < 140737488355000 ∧ (o = false → n = 0 ∧ c = 0) ∧ Bys ((l.drop i).take n)
 alts := fun (b0, q0, bad, o, b, q, l, i, n, c) => [⟨Rs × Int, fun y => y = (gs (i, n, c, bad), gv l (i, n, c, bad)), fun y => .int .i64 y.2, fun y => [⟨b0, q0, 2, true, none, .one [.sl 1 y.1.1 y.1.2.1 y.1.2.2.1, .bool (.tm y.1.2.2.2)]⟩, ⟨b, q, 1, false, some o, .rows 5 l⟩]⟩]
 mat vs m := match vs with
  | [.ptr a _ _] => match nth m a with
    | ⟨b0, q0, _, _, _, .one [.sl a2 i n c, .bool bad]⟩ => match nth m a2 with
      | ⟨b, q, _, _, g, .rows 5 l⟩ => some ((b0, q0, bad.val, onOf g, b, q, l, i, n, c), [a, a2])
      | _ => none
    | _ => none
  | _ => none
 ok := fun (b0, q0, bad, o, b, q, l, i, n, c) h => getR_ok b0 q0 bad o b q l i n c h.1 h.2.1 h.2.2.1 h.2.2.2.1 h.2.2.2.2
theorem jr {l : List (Rw Int)} {i n v : Nat} (h1 : i + n ≤ l.length) (hr : ∀ r ∈ (l.drop i).take n, Rok r ∧ Bys r.l) (hv : v < n) {r : Rw Int} (g : l.getD (v + i) Rw.nil = r) : r.l = (rowL l i n).getD v [] ∧ Rok r ∧ Bys r.l := by
 subst g
 refine ⟨(rowL_at h1 hv).symm, hr _ ?_⟩
 rw [← rows_at hv, zz, zv (by rw [rows_len h1]; exact hv)]
 exact xk _
def Jg (L : List (List Int)) : Prop := 0 < L.length ∧ 16 ≤ (L.getD 0 []).length ∧ (L.getD 0 []).length ≤ 1024 ∧ ∀ j, j < L.length → (L.getD j []).length = (L.getD 0 []).length
theorem jg_iff {L : List (List Int)} : Jg L ↔ ¬ jbad L := by
 unfold Jg jbad
 constructor
 · rintro ⟨h1, h2, h3, h4⟩ (h | h | h | ⟨j, hj, h⟩)
   · omega
   · omega
   · omega
   · exact h (h4 j hj)
 · intro h
   refine ⟨Nat.pos_of_ne_zero fun e => h (.inl e), Nat.le_of_not_lt fun e => h (.inr (.inl e)), Nat.le_of_not_lt fun e => h (.inr (.inr (.inl e))), fun j hj => ?_⟩
   rcases Nat.decEq (L.getD j []).length (L.getD 0 []).length with e | e
   · exact absurd (.inr (.inr (.inr ⟨j, hj, e⟩))) h
   · exact e
theorem jg_of {l : List (Rw Int)} {i n v : Nat} (h1 : i + n ≤ l.length) (hr : ∀ r ∈ (l.drop i).take n, Rok r ∧ Bys r.l) (n0 : 0 < n) {r0 r1 : Rw Int} (g0 : l.getD (0 + i) Rw.nil = r0) (d1 : decide ((r0.l.length : Int) < 16) = false)
 (g1 : l.getD (0 + i) Rw.nil = r1) (d2 : decide ((1024 : Int) < (r1.l.length : Int)) = false) (hv : (Jo4 (rowL l i n)).inv v) (d3 : decide ((v : Int) < (n : Int)) = false) : Jg (rowL l i n) := by
 have d1 := ov d1
 have d2 := ov d2
 have d3 := ov d3
 obtain ⟨e1, e2⟩ : v ≤ (rowL l i n).length ∧ ∀ j, j < v → ((rowL l i n).getD j []).length = ((rowL l i n).getD 0 []).length := hv
 rw [rowL_len h1] at e1
 refine ⟨by rw [rowL_len h1]; exact n0, ?_, ?_, fun j hj => e2 j (by rw [rowL_len h1] at hj; omega)⟩
 · rw [← (jr (v := 0) h1 hr n0 g0).1]; omega
 · rw [← (jr (v := 0) h1 hr n0 g1).1]; omega
theorem getpre {r : Rw Int} (hr : Rok r) (hb : Bys r.l) (h : 16 ≤ r.l.length) {k : Nat} (hk : k ≤ r.l.length) :
 r.l.length - k ≤ r.m - k ∧ k + (r.l.length - k) ≤ r.l.length ∧ r.l.length - k < 140737488355000 ∧ (r.on = false → r.l.length - k = 0 ∧ r.m - k = 0) ∧ Bys ((r.l.drop k).take (r.l.length - k)) :=
 ⟨Nat.sub_le_sub_right hr.2.1 k, by omega, by have := hr.2.2; omega, fun h => by have := (hr.1 h).1; omega, (hb.drop k).take _⟩
theorem gs_at {l : List Int} {i n c : Nat} (h : 4 ≤ n) (h2 : n < c ∨ 4 < n ∧ n ≤ c) : (gs (i, n, c, false), gv l (i, n, c, false)) = ((4 + i, n - 4, c - 4, false), nm l i) := by
 have e : ¬ n < 4 := by omega
 simp only [gs, gv, e, if_false]
 unfold srow
 rw [if_neg (by omega)]
theorem gs1 {r : Rw Int} (hr : Rok r) (h : 16 ≤ r.l.length) : (gs (0, r.l.length, r.m, false), gv r.l (0, r.l.length, r.m, false)) = ((4, r.l.length - 4, r.m - 4, false), nm r.l 0) := gs_at (by omega) (.inr ⟨by omega, hr.2.1⟩)
theorem gs2 {r : Rw Int} (hr : Rok r) (h : 16 ≤ r.l.length) : (gs (4, r.l.length - 4, r.m - 4, false), gv r.l (4, r.l.length - 4, r.m - 4, false)) = ((8, r.l.length - 8, r.m - 8, false), nm r.l 4) := by
 have := hr.2.1
 rw [gs_at (by omega) (.inr ⟨by omega, by omega⟩)]
 simp only [Nat.sub_sub]
theorem gs3 {r : Rw Int} (hr : Rok r) (h : 16 ≤ r.l.length) : (gs (8, r.l.length - 8, r.m - 8, false), gv r.l (8, r.l.length - 8, r.m - 8, false)) = ((12, r.l.length - 12, r.m - 12, false), nm r.l 8) := by
 have := hr.2.1
 rw [gs_at (by omega) (.inr ⟨by omega, by omega⟩)]
 simp only [Nat.sub_sub]
theorem grw_app {L l sp M : List Int} {o : Bool} {i c c' : Nat} (hM : 0 < M.length) (h : Grw L l o i c) (h1 : i + M.length ≤ c') (h2 : c' ≤ i + M.length + sp.length) : Grw (L ++ M) (l.take i ++ M ++ sp) (xh 0 M.length || o) (i + M.length) c' := by
 obtain ⟨e1, e2, e3, e4, e5⟩ := h
 have hl : (l.take i).length = i := by rw [zp]; omega
 refine ⟨by rw [zw, ← e1], ?_, h1, by rw [zw, zw, hl]; exact h2, fun h => ?_⟩
 · rw [yh (by rw [zw, hl]; exact zy _), zu (by rw [zw, hl]; exact zy _), e2]
 · rw [show xh 0 M.length = true by rw [Nat.blt_eq]; exact hM] at h; cases h
theorem jok_d {L : List (List Int)} {n : Nat} (U : 0 ≤ nm (L.getD 0 []) 8) (hn : L.length = n) (hg : Jg L) (he : ∀ j, j < n → nm (L.getD j []) 0 = nm (L.getD 0 []) 0 ∧ nm (L.getD j []) 4 = (j : Nat) ∧ nm (L.getD j []) 8 = nm (L.getD 0 []) 8) :
 ((!cn (nm (L.getD 0 []) 0) || decide ((64 : Int) < (n : Int)) || decide (((n * ((L.getD 0 []).length - 12) : Nat) : Int) < nm (L.getD 0 []) 8) || decide ((n : Int) ≠ max 1 ((nm (L.getD 0 []) 8 + (((L.getD 0 []).length : Int) - 12) - 1).tdiv (((L.getD 0 []).length : Int) - 12)))) = false → JOk L (nm (L.getD 0 []) 0) (nm (L.getD 0 []) 8)) ∧
 ((!cn (nm (L.getD 0 []) 0) || decide ((64 : Int) < (n : Int)) || decide (((n * ((L.getD 0 []).length - 12) : Nat) : Int) < nm (L.getD 0 []) 8) || decide ((n : Int) ≠ max 1 ((nm (L.getD 0 []) 8 + (((L.getD 0 []).length : Int) - 12) - 1).tdiv (((L.getD 0 []).length : Int) - 12)))) = true → ∀ x s, ¬ JOk L x s) := by
 subst hn
 have h16 := hg.2.1
 have ep : (((L.getD 0 []).length : Int) - 12) = (((L.getD 0 []).length - 12 : Nat) : Int) := by omega
 rw [ep, rb (by omega)]
 constructor
 · intro h
   simp only [yi, decide_eq_false_iff_not, wy, Int.not_lt, Decidable.not_not] at h
   exact ⟨jg_iff.1 hg, he, h.1.1.1, by omega, h.1.2, h.2⟩
 · intro h x s hJ
   obtain ⟨_, k1, k2, k3, k4, k5⟩ := hJ
   obtain ⟨rfl, _, rfl⟩ := k1 0 hg.1
   simp only [yr, decide_eq_true_eq, zl] at h
   rcases h with ((h | h) | h) | h
   · rw [k2] at h; cases h
   · omega
   · omega
   · exact h k5
set_option maxHeartbeats 8000000 in
theorem join_ok (o : Bool) (b q : Nat) (l : List (Rw Int)) (i n c : Nat) (h1 : i + n ≤ l.length) (ho : o = false → n = 0 ∧ c = 0) (hr : ∀ r ∈ (l.drop i).take n, Rok r ∧ Bys r.l) (hn : n ≤ 1000000) :
 Does (C := C0) Tryd.prog (.fn 24) [⟨b, q, 1, false, some o, .rows 26 l⟩] [.sl 0 i n c]
 [⟨Unit, fun _ => jbad (rowL l i n), fun _ => .tup [.int .i64 0, .nils, eV 2], fun _ => [⟨b, q, 1, false, some o, .rows 26 l⟩]⟩,
  ⟨Unit, fun _ => ¬ jbad (rowL l i n) ∧ ∀ x s, ¬ JOk (rowL l i n) x s, fun _ => .tup [.int .i64 0, .nils, eV 0], fun _ => [⟨b, q, 1, false, some o, .rows 26 l⟩]⟩,
  ⟨(Int × Nat) × Nat × Nat × List Int, fun y => JOk (rowL l i n) y.1.1 y.1.2 ∧ y.1.2 ≤ y.2.2.2.length ∧ y.2.2.2.take y.1.2 = (jout (rowL l i n)).take y.1.2, fun y => .tup [.int .i64 y.1.1, .sl 1 0 y.1.2 y.1.2, .nili],
   fun y => [⟨b, q, 1, false, some o, .rows 26 l⟩, ⟨y.2.1, y.2.2.1, 1, true, none, .rows 5 y.2.2.2⟩]⟩] := by
 refine loc_fn (P := Tryd.prog) (E := ⟨[fcGetR], [pcNumb], 132, [(2, [], [.p 0, .p 1, .p 2, .p 3]), (7, [], [.p 0, .p 1, .p 2, .p 3]), (18, [], [.p 0, .p 1, .p 2, .p 3]), (22, [], [.p 0, .p 1, .p 2, .p 3]), (23, [], [.p 0, .p 1, .p 2, .p 3, .p 4, .p 5, .p 6, .p 7])], [fB], []⟩) (L := [Jo4 (rowL l i n), Jo14 (rowL l i n)]) mix Tryd.func24 rfl (by kernel_rfl) (by kernel_rfl) rfl rfl ?_
 ((conv => arg 1; reduce); with_reducible repeat' first | exact ty | refine ta ?_ ?_ | refine ti fun _ => ?_ | refine tf fun _ => ?_ | refine tl ?_)
 all_goals try exact vlf
 all_goals try (first | exact vlf | ((try dsimp only [Jo4, Jo14] at *); exact vau) | (refine on_of ho ?_; ((try dsimp only [Jo4, Jo14] at *); exact vau)))
 iterate 2 (
  focus
  rename_i d0
  try dsimp only [fB, C0, cG, cInt, cPl, cSlot, cPg, rwCodec, Jo4, Jo14] at d0
  first
   | (refine Ends.one () (.inl (by rw [rowL_len h1]; have := ow d0; omega)) ?_
      exact vgo
      done)
   | (have n0 : 0 < n := by have := ov d0; omega
      show (0 : Int).toNat + i < l.length
      omega
      done))
 iterate 2 (
  focus
  rename_i d0 r0 g0 d1
  try dsimp only [fB, C0, cG, cInt, cPl, cSlot, cPg, rwCodec, Jo4, Jo14] at d0 r0 g0 d1
  have n0 : 0 < n := by have := ov d0; omega
  first
   | (obtain ⟨a1, a2, a3⟩ := jr (v := 0) h1 hr n0 g0
      refine Ends.one () (.inr (.inl (by rw [← a1]; have := ow d1; omega))) ?_
      exact vgo
      done)
   | (show (0 : Int).toNat + i < l.length
      omega
      done))
 iterate 2 (
  focus
  rename_i d0 r0 g0 d1 r1 g1 d2
  try dsimp only [fB, C0, cG, cInt, cPl, cSlot, cPg, rwCodec, Jo4, Jo14] at d0 r0 g0 d1 r1 g1 d2
  first
   | (have n0 : 0 < n := by have := ov d0; omega
      obtain ⟨a1, a2, a3⟩ := jr (v := 0) h1 hr n0 g0
      obtain ⟨b1, b2, b3⟩ := jr (v := 0) h1 hr n0 g1
      refine Ends.one () (.inr (.inr (.inl (by rw [← b1]; have := ow d2; omega)))) ?_
      exact vgo
      done)
   | (refine Stands.one (0 : Nat) ⟨⟨zn _, fun j hj => absurd hj (ue j)⟩, ?_⟩
      exact vgo
      done))
 · rename_i d0 r0 g0 d1 r1 g1 d2 v hv d3
   try dsimp only [fB, C0, cG, cInt, cPl, cSlot, cPg, rwCodec, Jo4, Jo14] at d0 r0 g0 d1 r1 g1 d2 v hv d3
   have d3 : v < n := Int.ofNat_lt.1 (ow d3)
   show (v : Int).toNat + i < l.length
   omega
 · rename_i d0 r0 g0 d1 r1 g1 d2 v hv d3 r2 g2
   try dsimp only [fB, C0, cG, cInt, cPl, cSlot, cPg, rwCodec, Jo4, Jo14] at d0 r0 g0 d1 r1 g1 d2 v hv d3 r2 g2
   have n0 : 0 < n := by have := ov d0; omega
   show (0 : Int).toNat + i < l.length
   omega
 iterate 2 (
  focus
  rename_i d0 r0 g0 d1 r1 g1 d2 v hv d3 r2 g2 r3 g3 d4
  try dsimp only [fB, C0, cG, cInt, cPl, cSlot, cPg, rwCodec, Jo4, Jo14] at d0 r0 g0 d1 r1 g1 d2 v hv d3 r2 g2 r3 g3 d4
  have n0 : 0 < n := by have := ov d0; omega
  have d3 : v < n := Int.ofNat_lt.1 (ow d3)
  obtain ⟨a1, a2, a3⟩ := jr h1 hr d3 g2
  obtain ⟨b1, b2, b3⟩ := jr (v := 0) h1 hr n0 g3
  first
   | (have d4 := ow d4
      refine Ends.one () (.inr (.inr (.inr ⟨v, by rw [rowL_len h1]; exact d3, by rw [← a1, ← b1]; omega⟩))) ?_
      exact vgo
      done)
   | (have d4 := ov d4
      have hv2 : ∀ j, j < v → ((rowL l i n).getD j []).length = ((rowL l i n).getD 0 []).length := hv.2
      refine Stands.one (v + 1) ⟨⟨by rw [rowL_len h1]; exact d3, fun j hj => ?_⟩, ?_, ?_⟩
      · rcases xr j v with hj2 | hj2
        · exact hv2 j hj2
        · obtain rfl : j = v := by omega
          rw [← a1, ← b1]; omega
      · show (rowL l i n).length - (v + 1) < (rowL l i n).length - v
        rw [rowL_len h1]; omega
      exact vgo
      done))
 · rename_i d0 r0 g0 d1 r1 g1 d2 v hv d3
   try dsimp only [fB, C0, cG, cInt, cPl, cSlot, cPg, rwCodec, Jo4, Jo14] at d0 r0 g0 d1 r1 g1 d2 v hv d3
   have n0 : 0 < n := by have := ov d0; omega
   show (0 : Int).toNat + i < l.length
   omega
 iterate 2 (
  focus
  rename_i d0 r0 g0 d1 r1 g1 d2 v hv d3 r2 g2
  try dsimp only [fB, C0, cG, cInt, cPl, cSlot, cPg, rwCodec, Jo4, Jo14] at d0 r0 g0 d1 r1 g1 d2 v hv d3 r2 g2
  have n0 : 0 < n := by have := ov d0; omega
  first
   | (have JG := jg_of h1 hr n0 g0 d1 g1 d2 hv d3
      obtain ⟨a1, a2, a3⟩ := jr (v := 0) h1 hr n0 g2
      have := a2.2.2
      show inR .i64 ((r2.l.length : Int) - 12)
      exact inR64 (by omega) (by omega)
      done)
   | (show (0 : Int).toNat + i < l.length
      omega
      done))
 · rename_i d0 r0 g0 d1 r1 g1 d2 v hv d3 r2 g2 r3 g3 bx
   try dsimp only [fB, C0, cG, cInt, cPl, cSlot, cPg, rwCodec, Jo4, Jo14] at d0 r0 g0 d1 r1 g1 d2 v hv d3 r2 g2 r3 g3 bx
   have n0 : 0 < n := by have := ov d0; omega
   have JG := jg_of h1 hr n0 g0 d1 g1 d2 hv d3
   obtain ⟨a1, a2, a3⟩ := jr (v := 0) h1 hr n0 g3
   have e16 : 16 ≤ r3.l.length := by rw [a1]; exact JG.2.1
   exact getpre a2 a3 e16 (zn _)
 · rename_i d0 r0 g0 d1 r1 g1 d2 v hv d3 r2 g2 r3 g3 bx y1 y1h
   try dsimp only [fB, C0, cG, cInt, cPl, cSlot, cPg, rwCodec, Jo4, Jo14] at d0 r0 g0 d1 r1 g1 d2 v hv d3 r2 g2 r3 g3 bx y1 y1h
   have n0 : 0 < n := by have := ov d0; omega
   have JG := jg_of h1 hr n0 g0 d1 g1 d2 hv d3
   obtain ⟨a1, a2, a3⟩ := jr (v := 0) h1 hr n0 g3
   have e16 : 16 ≤ r3.l.length := by rw [a1]; exact JG.2.1
   obtain rfl := y1h.trans (gs1 a2 e16)
   exact getpre (k := 4) a2 a3 e16 (by omega)
 · rename_i d0 r0 g0 d1 r1 g1 d2 v hv d3 r2 g2 r3 g3 bx y1 y1h y2 y2h
   try dsimp only [fB, C0, cG, cInt, cPl, cSlot, cPg, rwCodec, Jo4, Jo14] at d0 r0 g0 d1 r1 g1 d2 v hv d3 r2 g2 r3 g3 bx y1 y1h y2 y2h
   have n0 : 0 < n := by have := ov d0; omega
   have JG := jg_of h1 hr n0 g0 d1 g1 d2 hv d3
   obtain ⟨a1, a2, a3⟩ := jr (v := 0) h1 hr n0 g3
   have e16 : 16 ≤ r3.l.length := by rw [a1]; exact JG.2.1
   obtain rfl := y1h.trans (gs1 a2 e16)
   obtain rfl := y2h.trans (gs2 a2 e16)
   exact getpre (k := 8) a2 a3 e16 (by omega)
 · rename_i d0 r0 g0 d1 r1 g1 d2 v hv d3 r2 g2 r3 g3 bx y1 y1h y2 y2h y3 y3h
   try dsimp only [fB, C0, cG, cInt, cPl, cSlot, cPg, rwCodec, Jo4, Jo14] at d0 r0 g0 d1 r1 g1 d2 v hv d3 r2 g2 r3 g3 bx y1 y1h y2 y2h y3 y3h
   refine Stands.one (0, false, 0, 0, [], 0) ⟨⟨zn _, ⟨vp _, by rw [vp]; rfl, Nat.le_of_eq (vp _), zy _, fun _ => ⟨vp _, rfl⟩⟩, fun j hj => absurd hj (ue j)⟩, ?_⟩
   ((conv => arg 1; reduce); with_reducible repeat' first | exact ty | refine ta ?_ ?_ | refine ti fun _ => ?_ | refine tf fun _ => ?_ | refine tl ?_)
   all_goals try exact vlf
   all_goals exact (vp _).symm
 · rename_i d0 r0 g0 d1 r1 g1 d2 v hv d3 r2 g2 r3 g3 bx y1 y1h y2 y2h y3 y3h w hw d5
   try dsimp only [fB, C0, cG, cInt, cPl, cSlot, cPg, rwCodec, Jo4, Jo14] at d0 r0 g0 d1 r1 g1 d2 v hv d3 r2 g2 r3 g3 bx y1 y1h y2 y2h y3 y3h w hw d5
   obtain ⟨k, on, vb, vq, vl, vc⟩ := w
   have d5 : k < n := Int.ofNat_lt.1 (ow d5)
   show (k : Int).toNat + i < l.length
   omega
 · rename_i d0 r0 g0 d1 r1 g1 d2 v hv d3 r2 g2 r3 g3 bx y1 y1h y2 y2h y3 y3h w hw d5 x gx bz
   try dsimp only [fB, C0, cG, cInt, cPl, cSlot, cPg, rwCodec, Jo4, Jo14] at d0 r0 g0 d1 r1 g1 d2 v hv d3 r2 g2 r3 g3 bx y1 y1h y2 y2h y3 y3h w hw d5 x gx bz
   have n0 : 0 < n := by have := ov d0; omega
   have JG := jg_of h1 hr n0 g0 d1 g1 d2 hv d3
   obtain ⟨a1, a2, a3⟩ := jr (v := 0) h1 hr n0 g3
   have e16 : 16 ≤ r3.l.length := by rw [a1]; exact JG.2.1
   obtain rfl := y1h.trans (gs1 a2 e16)
   obtain rfl := y2h.trans (gs2 a2 e16)
   obtain rfl := y3h.trans (gs3 a2 e16)
   obtain ⟨k, on, vb, vq, vl, vc⟩ := w
   have d5 : k < n := Int.ofNat_lt.1 (ow d5)
   obtain ⟨x1, x2, x3⟩ := jr h1 hr d5 gx
   have x4 : x.l.length = r3.l.length := by rw [x1, a1]; exact JG.2.2.2 k (by rw [rowL_len h1]; exact d5)
   have x5 : 16 ≤ x.l.length := by omega
   exact getpre x2 x3 x5 (zn _)
 iterate 2 (
  focus
  rename_i d0 r0 g0 d1 r1 g1 d2 v hv d3 r2 g2 r3 g3 bx y1 y1h y2 y2h y3 y3h w hw d5 x gx bz z1 z1h d6
  try dsimp only [fB, C0, cG, cInt, cPl, cSlot, cPg, rwCodec, Jo4, Jo14] at d0 r0 g0 d1 r1 g1 d2 v hv d3 r2 g2 r3 g3 bx y1 y1h y2 y2h y3 y3h w hw d5 x gx bz z1 z1h d6
  have n0 : 0 < n := by have := ov d0; omega
  have JG := jg_of h1 hr n0 g0 d1 g1 d2 hv d3
  obtain ⟨a1, a2, a3⟩ := jr (v := 0) h1 hr n0 g3
  have e16 : 16 ≤ r3.l.length := by rw [a1]; exact JG.2.1
  obtain rfl := y1h.trans (gs1 a2 e16)
  obtain rfl := y2h.trans (gs2 a2 e16)
  obtain rfl := y3h.trans (gs3 a2 e16)
  obtain ⟨k, on, vb, vq, vl, vc⟩ := w
  have d5 : k < n := Int.ofNat_lt.1 (ow d5)
  obtain ⟨x1, x2, x3⟩ := jr h1 hr d5 gx
  have x4 : x.l.length = r3.l.length := by rw [x1, a1]; exact JG.2.2.2 k (by rw [rowL_len h1]; exact d5)
  have x5 : 16 ≤ x.l.length := by omega
  obtain rfl := z1h.trans (gs1 x2 x5)
  first
   | (refine Ends.next (Ends.one () ⟨jg_iff.1 JG, fun a s h => ?_⟩ ?_)
      · obtain ⟨u1, u2, u3⟩ := h.2.1 k (by rw [rowL_len h1]; exact d5)
        obtain ⟨v1, v2, v3⟩ := h.2.1 0 (by rw [rowL_len h1]; exact n0)
        rw [← x1] at u1 u2 u3
        rw [← a1] at v1 v2 v3
        have d9 := ow d6
        dsimp only at d9
        omega
      exact vgo
      done)
   | (exact getpre (k := 4) x2 x3 x5 (by omega)
      done))
 iterate 2 (
  focus
  rename_i d0 r0 g0 d1 r1 g1 d2 v hv d3 r2 g2 r3 g3 bx y1 y1h y2 y2h y3 y3h w hw d5 x gx bz z1 z1h d6 z2 z2h d7
  try dsimp only [fB, C0, cG, cInt, cPl, cSlot, cPg, rwCodec, Jo4, Jo14] at d0 r0 g0 d1 r1 g1 d2 v hv d3 r2 g2 r3 g3 bx y1 y1h y2 y2h y3 y3h w hw d5 x gx bz z1 z1h d6 z2 z2h d7
  have n0 : 0 < n := by have := ov d0; omega
  have JG := jg_of h1 hr n0 g0 d1 g1 d2 hv d3
  obtain ⟨a1, a2, a3⟩ := jr (v := 0) h1 hr n0 g3
  have e16 : 16 ≤ r3.l.length := by rw [a1]; exact JG.2.1
  obtain rfl := y1h.trans (gs1 a2 e16)
  obtain rfl := y2h.trans (gs2 a2 e16)
  obtain rfl := y3h.trans (gs3 a2 e16)
  obtain ⟨k, on, vb, vq, vl, vc⟩ := w
  have d5 : k < n := Int.ofNat_lt.1 (ow d5)
  obtain ⟨x1, x2, x3⟩ := jr h1 hr d5 gx
  have x4 : x.l.length = r3.l.length := by rw [x1, a1]; exact JG.2.2.2 k (by rw [rowL_len h1]; exact d5)
  have x5 : 16 ≤ x.l.length := by omega
  obtain rfl := z1h.trans (gs1 x2 x5)
  obtain rfl := z2h.trans (gs2 x2 x5)
  first
   | (refine Ends.next (Ends.one () ⟨jg_iff.1 JG, fun a s h => ?_⟩ ?_)
      · obtain ⟨u1, u2, u3⟩ := h.2.1 k (by rw [rowL_len h1]; exact d5)
        obtain ⟨v1, v2, v3⟩ := h.2.1 0 (by rw [rowL_len h1]; exact n0)
        rw [← x1] at u1 u2 u3
        rw [← a1] at v1 v2 v3
        have d9 := ow d7
        dsimp only at d9
        omega
      exact vgo
      done)
   | (exact getpre (k := 8) x2 x3 x5 (by omega)
      done))
 iterate 4 (
  focus
  rename_i d0 r0 g0 d1 r1 g1 d2 v hv d3 r2 g2 r3 g3 bx y1 y1h y2 y2h y3 y3h w hw d5 x gx bz z1 z1h d6 z2 z2h d7 z3 z3h d8
  try dsimp only [fB, C0, cG, cInt, cPl, cSlot, cPg, rwCodec, Jo4, Jo14] at d0 r0 g0 d1 r1 g1 d2 v hv d3 r2 g2 r3 g3 bx y1 y1h y2 y2h y3 y3h w hw d5 x gx bz z1 z1h d6 z2 z2h d7 z3 z3h d8
  have n0 : 0 < n := by have := ov d0; omega
  have JG := jg_of h1 hr n0 g0 d1 g1 d2 hv d3
  obtain ⟨a1, a2, a3⟩ := jr (v := 0) h1 hr n0 g3
  have e16 : 16 ≤ r3.l.length := by rw [a1]; exact JG.2.1
  obtain rfl := y1h.trans (gs1 a2 e16)
  obtain rfl := y2h.trans (gs2 a2 e16)
  obtain rfl := y3h.trans (gs3 a2 e16)
  obtain ⟨k, on, vb, vq, vl, vc⟩ := w
  have d5 : k < n := Int.ofNat_lt.1 (ow d5)
  obtain ⟨x1, x2, x3⟩ := jr h1 hr d5 gx
  have x4 : x.l.length = r3.l.length := by rw [x1, a1]; exact JG.2.2.2 k (by rw [rowL_len h1]; exact d5)
  have x5 : 16 ≤ x.l.length := by omega
  first
   | (obtain rfl := z1h.trans (gs1 x2 x5)
      obtain rfl := z2h.trans (gs2 x2 x5)
      obtain rfl := z3h.trans (gs3 x2 x5)
      refine Ends.next (Ends.one () ⟨jg_iff.1 JG, fun a s h => ?_⟩ ?_)
      · obtain ⟨u1, u2, u3⟩ := h.2.1 k (by rw [rowL_len h1]; exact d5)
        obtain ⟨v1, v2, v3⟩ := h.2.1 0 (by rw [rowL_len h1]; exact n0)
        rw [← x1] at u1 u2 u3
        rw [← a1] at v1 v2 v3
        have d9 := ow d8
        dsimp only at d9
        omega
      exact vgo
      done)
   | (obtain rfl := z1h.trans (gs1 x2 x5)
      obtain rfl := z2h.trans (gs2 x2 x5)
      obtain rfl := z3h.trans (gs3 x2 x5)
      have e1 : Grw (jout ((rowL l i n).take k)) vl on (k * (((rowL l i n).getD 0 []).length - 12)) vc := hw.2.1
      have e2 : ∀ j, j < k → nm ((rowL l i n).getD j []) 0 = nm ((rowL l i n).getD 0 []) 0 ∧ nm ((rowL l i n).getD j []) 4 = (j : Nat) ∧ nm ((rowL l i n).getD j []) 8 = nm ((rowL l i n).getD 0 []) 8 := hw.2.2
      have hkp : k * (((rowL l i n).getD 0 []).length - 12) ≤ 1000000 * 1012 := Nat.mul_le_mul (by omega) (by have := JG.2.2.1; omega)
      rw [by5]
      refine ⟨e1.2.2.1, by show 0 + vc ≤ vl.length; have := e1.2.2.2.1; omega, by show 12 + (x.l.length - 12) ≤ x.l.length; omega, ?_⟩
      show (k * (((rowL l i n).getD 0 []).length - 12) + (x.l.length - 12)) * 1 ≤ 140737488355328
      have x6 : x.l.length ≤ 1024 := by have := JG.2.2.1; rw [← a1] at this; omega
      omega
      done)
   | (have e1 : Grw (jout ((rowL l i n).take k)) vl on (k * (((rowL l i n).getD 0 []).length - 12)) vc := hw.2.1
      have e2 : ∀ j, j < k → nm ((rowL l i n).getD j []) 0 = nm ((rowL l i n).getD 0 []) 0 ∧ nm ((rowL l i n).getD j []) 4 = (j : Nat) ∧ nm ((rowL l i n).getD j []) 8 = nm ((rowL l i n).getD 0 []) 8 := hw.2.2
      exact e1.2.2.2.2
      done)
   | (intro ho
      have := (x2.1 ho).1
      omega
      done))
 · rename_i d0 r0 g0 d1 r1 g1 d2 v hv d3 r2 g2 r3 g3 bx y1 y1h y2 y2h y3 y3h w hw d5 x gx bz z1 z1h d6 z2 z2h d7 z3 z3h d8 b9 q9 sp c9 m1 m2
   try dsimp only [fB, C0, cG, cInt, cPl, cSlot, cPg, rwCodec, Jo4, Jo14] at d0 r0 g0 d1 r1 g1 d2 v hv d3 r2 g2 r3 g3 bx y1 y1h y2 y2h y3 y3h w hw d5 x gx bz z1 z1h d6 z2 z2h d7 z3 z3h d8 b9 q9 sp c9 m1 m2
   have n0 : 0 < n := by have := ov d0; omega
   have JG := jg_of h1 hr n0 g0 d1 g1 d2 hv d3
   obtain ⟨a1, a2, a3⟩ := jr (v := 0) h1 hr n0 g3
   have e16 : 16 ≤ r3.l.length := by rw [a1]; exact JG.2.1
   obtain rfl := y1h.trans (gs1 a2 e16)
   obtain rfl := y2h.trans (gs2 a2 e16)
   obtain rfl := y3h.trans (gs3 a2 e16)
   obtain ⟨k, on, vb, vq, vl, vc⟩ := w
   have d5 : k < n := Int.ofNat_lt.1 (ow d5)
   obtain ⟨x1, x2, x3⟩ := jr h1 hr d5 gx
   have x4 : x.l.length = r3.l.length := by rw [x1, a1]; exact JG.2.2.2 k (by rw [rowL_len h1]; exact d5)
   have x5 : 16 ≤ x.l.length := by omega
   obtain rfl := z1h.trans (gs1 x2 x5)
   obtain rfl := z2h.trans (gs2 x2 x5)
   obtain rfl := z3h.trans (gs3 x2 x5)
   have e1 : Grw (jout ((rowL l i n).take k)) vl on (k * (((rowL l i n).getD 0 []).length - 12)) vc := hw.2.1
   have e2 : ∀ j, j < k → nm ((rowL l i n).getD j []) 0 = nm ((rowL l i n).getD 0 []) 0 ∧ nm ((rowL l i n).getD j []) 4 = (j : Nat) ∧ nm ((rowL l i n).getD j []) 8 = nm ((rowL l i n).getD 0 []) 8 := hw.2.2
   have d6 := ov d6
   have d7 := ov d7
   have d8 := ov d8
   have hp : x.l.length - 12 = ((rowL l i n).getD 0 []).length - 12 := by rw [← a1]; omega
   have e5 := grw_app (M := x.l.drop 12) (sp := sp) (c' := c9) (by rw [zj]; omega) e1 (by rw [zj]; exact m1) (by rw [zj]; exact m2)
   rw [zj] at e5
   have e6 : jout ((rowL l i n).take (k + 1)) = jout ((rowL l i n).take k) ++ x.l.drop 12 := by
    unfold jout
    rw [take_snoc (d := []) (by rw [rowL_len h1]; exact d5), uy, ← x1]
    simp
   have e7 : (x.l.drop 12).take (x.l.length - 12) = x.l.drop 12 := zu (by rw [zj]; exact zy _)
   refine Stands.one (k + 1, (xh 0 (x.l.length - 12) || on), b9, q9, vl.take (k * (((rowL l i n).getD 0 []).length - 12)) ++ (x.l.drop 12).take (x.l.length - 12) ++ sp, c9) ⟨⟨by rw [rowL_len h1]; exact d5, ?_, fun j hj => ?_⟩, ?_, ?_⟩
   · show Grw (jout ((rowL l i n).take (k + 1))) _ _ ((k + 1) * (((rowL l i n).getD 0 []).length - 12)) c9
     rw [e6, e7, zf, uj, ← hp]
     rw [← hp] at e5
     exact e5
   · rcases xr j k with hj2 | hj2
     · exact e2 j hj2
     · obtain rfl : j = k := by have hj : j < k + 1 := hj; omega
       rw [← x1, ← a1]
       dsimp only at d6 d7 d8
       exact ⟨by omega, by omega, by omega⟩
   · show (rowL l i n).length - (k + 1) < (rowL l i n).length - k
     rw [rowL_len h1]; omega
   ((conv => arg 1; reduce); with_reducible repeat' first | exact ty | refine ta ?_ ?_ | refine ti fun _ => ?_ | refine tf fun _ => ?_ | refine tl ?_)
   all_goals try exact vlf
   show k * (((rowL l i n).getD 0 []).length - 12) + (x.l.length - 12) = (k + 1) * (((rowL l i n).getD 0 []).length - 12)
   rw [zf, uj, hp]
 · rename_i d0 r0 g0 d1 r1 g1 d2 v hv d3 r2 g2 r3 g3 bx y1 y1h y2 y2h y3 y3h w hw d5 bq
   try dsimp only [fB, C0, cG, cInt, cPl, cSlot, cPg, rwCodec, Jo4, Jo14] at d0 r0 g0 d1 r1 g1 d2 v hv d3 r2 g2 r3 g3 bx y1 y1h y2 y2h y3 y3h w hw d5 bq
   exact ⟨zy 1, by decide, fun h => xf h⟩
 iterate 10 (
  focus
  rename_i d0 r0 g0 d1 r1 g1 d2 v hv d3 r2 g2 r3 g3 bx y1 y1h y2 y2h y3 y3h w hw d5 bq d9
  try dsimp only [fB, C0, cG, cInt, cPl, cSlot, cPg, rwCodec, Jo4, Jo14] at d0 r0 g0 d1 r1 g1 d2 v hv d3 r2 g2 r3 g3 bx y1 y1h y2 y2h y3 y3h w hw d5 bq d9
  have n0 : 0 < n := by have := ov d0; omega
  have JG := jg_of h1 hr n0 g0 d1 g1 d2 hv d3
  first
   | (obtain ⟨a1, a2, a3⟩ := jr (v := 0) h1 hr n0 g3
      have e16 : 16 ≤ r3.l.length := by rw [a1]; exact JG.2.1
      obtain rfl := y1h.trans (gs1 a2 e16)
      obtain rfl := y2h.trans (gs2 a2 e16)
      obtain rfl := y3h.trans (gs3 a2 e16)
      have U := (four_nm a3 (j := 8) (by omega)).2
      unfold U32 at U
      have u1 := a2.2.2
      obtain ⟨c1, c2, c3⟩ := jr (v := 0) h1 hr n0 g2
      have c4 : r2.l.length = r3.l.length := by rw [c1, a1]
      show inR .i64 (nm r3.l 8 + ((r2.l.length : Int) - 12))
      exact inR64 (by omega) (by omega)
      done)
   | (obtain ⟨a1, a2, a3⟩ := jr (v := 0) h1 hr n0 g3
      have e16 : 16 ≤ r3.l.length := by rw [a1]; exact JG.2.1
      obtain rfl := y1h.trans (gs1 a2 e16)
      obtain rfl := y2h.trans (gs2 a2 e16)
      obtain rfl := y3h.trans (gs3 a2 e16)
      have U := (four_nm a3 (j := 8) (by omega)).2
      unfold U32 at U
      have u1 := a2.2.2
      obtain ⟨c1, c2, c3⟩ := jr (v := 0) h1 hr n0 g2
      have c4 : r2.l.length = r3.l.length := by rw [c1, a1]
      show inR .i64 (nm r3.l 8 + ((r2.l.length : Int) - 12) - 1)
      exact inR64 (by omega) (by omega)
      done)
   | (obtain ⟨a1, a2, a3⟩ := jr (v := 0) h1 hr n0 g2
      have e16 : 16 ≤ r2.l.length := by rw [a1]; exact JG.2.1
      show ((r2.l.length : Int) - 12) ≠ 0
      omega
      done)
   | (obtain ⟨a1, a2, a3⟩ := jr (v := 0) h1 hr n0 g3
      have e16 : 16 ≤ r3.l.length := by rw [a1]; exact JG.2.1
      obtain rfl := y1h.trans (gs1 a2 e16)
      obtain rfl := y2h.trans (gs2 a2 e16)
      obtain rfl := y3h.trans (gs3 a2 e16)
      have U := (four_nm a3 (j := 8) (by omega)).2
      unfold U32 at U
      have u1 := a2.2.2
      obtain ⟨c1, c2, c3⟩ := jr (v := 0) h1 hr n0 g2
      have c4 : r2.l.length = r3.l.length := by rw [c1, a1]
      show inR .i64 ((nm r3.l 8 + ((r2.l.length : Int) - 12) - 1).tdiv ((r2.l.length : Int) - 12))
      rw [rb (by omega)]
      have q1 : 0 ≤ (nm r3.l 8 + ((r2.l.length : Int) - 12) - 1) / ((r2.l.length : Int) - 12) := Int.ediv_nonneg (by omega) (by omega)
      have q2 : (nm r3.l 8 + ((r2.l.length : Int) - 12) - 1) / ((r2.l.length : Int) - 12) ≤ nm r3.l 8 + ((r2.l.length : Int) - 12) - 1 := Int.ediv_le_self _ (by omega)
      exact inR64 (by omega) (by omega)
      done)
   | (obtain ⟨a1, a2, a3⟩ := jr (v := 0) h1 hr n0 g3
      have e16 : 16 ≤ r3.l.length := by rw [a1]; exact JG.2.1
      obtain rfl := y1h.trans (gs1 a2 e16)
      obtain rfl := y2h.trans (gs2 a2 e16)
      obtain rfl := y3h.trans (gs3 a2 e16)
      obtain ⟨k, on, vb, vq, vl, vc⟩ := w
      have d5 : ¬ k < n := fun h => ov d5 (Int.ofNat_lt.2 h)
      obtain rfl : k = n := by have : k ≤ (rowL l i n).length := hw.1; rw [rowL_len h1] at this; omega
      have e1 : Grw (jout ((rowL l i k).take k)) vl on (k * (((rowL l i k).getD 0 []).length - 12)) vc := hw.2.1
      have e2 : ∀ j, j < k → nm ((rowL l i k).getD j []) 0 = nm ((rowL l i k).getD 0 []) 0 ∧ nm ((rowL l i k).getD j []) 4 = (j : Nat) ∧ nm ((rowL l i k).getD j []) 8 = nm ((rowL l i k).getD 0 []) 8 := hw.2.2
      have U := (four_nm a3 (j := 8) (by omega)).2
      unfold U32 at U
      have u1 := a2.2.2
      obtain ⟨c1, c2, c3⟩ := jr (v := 0) h1 hr n0 g2
      have c4 : r2.l.length = r3.l.length := by rw [c1, a1]
      have d9 : (!alln [nm r3.l 0] || decide ((64 : Int) < (k : Int)) || decide (((k * (((rowL l i k).getD 0 []).length - 12) : Nat) : Int) < nm r3.l 8) || decide ((k : Int) ≠ max 1 ((nm r3.l 8 + ((r2.l.length : Int) - 12) - 1).tdiv ((r2.l.length : Int) - 12)))) = true := d9
      rw [c4, alln1, a1] at d9
      have := (jok_d (U := by rw [← a1]; exact U.1) (rowL_len h1) JG e2).2 d9
      refine Ends.next (Ends.one () ⟨jg_iff.1 JG, this⟩ ?_)
      exact vgo
      done)
   | (obtain ⟨a1, a2, a3⟩ := jr (v := 0) h1 hr n0 g3
      have e16 : 16 ≤ r3.l.length := by rw [a1]; exact JG.2.1
      obtain rfl := y1h.trans (gs1 a2 e16)
      obtain rfl := y2h.trans (gs2 a2 e16)
      obtain rfl := y3h.trans (gs3 a2 e16)
      obtain ⟨k, on, vb, vq, vl, vc⟩ := w
      have d5 : ¬ k < n := fun h => ov d5 (Int.ofNat_lt.2 h)
      obtain rfl : k = n := by have : k ≤ (rowL l i n).length := hw.1; rw [rowL_len h1] at this; omega
      have e1 : Grw (jout ((rowL l i k).take k)) vl on (k * (((rowL l i k).getD 0 []).length - 12)) vc := hw.2.1
      have e2 : ∀ j, j < k → nm ((rowL l i k).getD j []) 0 = nm ((rowL l i k).getD 0 []) 0 ∧ nm ((rowL l i k).getD j []) 4 = (j : Nat) ∧ nm ((rowL l i k).getD j []) 8 = nm ((rowL l i k).getD 0 []) 8 := hw.2.2
      exact e1.2.2.2.2
      done)
   | (obtain ⟨a1, a2, a3⟩ := jr (v := 0) h1 hr n0 g3
      have e16 : 16 ≤ r3.l.length := by rw [a1]; exact JG.2.1
      obtain rfl := y1h.trans (gs1 a2 e16)
      obtain rfl := y2h.trans (gs2 a2 e16)
      obtain rfl := y3h.trans (gs3 a2 e16)
      have U := (four_nm a3 (j := 8) (by omega)).2
      unfold U32 at U
      have u1 := a2.2.2
      exact U.1
      done)
   | (obtain ⟨a1, a2, a3⟩ := jr (v := 0) h1 hr n0 g3
      have e16 : 16 ≤ r3.l.length := by rw [a1]; exact JG.2.1
      obtain rfl := y1h.trans (gs1 a2 e16)
      obtain rfl := y2h.trans (gs2 a2 e16)
      obtain rfl := y3h.trans (gs3 a2 e16)
      obtain ⟨k, on, vb, vq, vl, vc⟩ := w
      have d5 : ¬ k < n := fun h => ov d5 (Int.ofNat_lt.2 h)
      obtain rfl : k = n := by have : k ≤ (rowL l i n).length := hw.1; rw [rowL_len h1] at this; omega
      have e1 : Grw (jout ((rowL l i k).take k)) vl on (k * (((rowL l i k).getD 0 []).length - 12)) vc := hw.2.1
      have e2 : ∀ j, j < k → nm ((rowL l i k).getD j []) 0 = nm ((rowL l i k).getD 0 []) 0 ∧ nm ((rowL l i k).getD j []) 4 = (j : Nat) ∧ nm ((rowL l i k).getD j []) 8 = nm ((rowL l i k).getD 0 []) 8 := hw.2.2
      have U := (four_nm a3 (j := 8) (by omega)).2
      unfold U32 at U
      have u1 := a2.2.2
      obtain ⟨c1, c2, c3⟩ := jr (v := 0) h1 hr n0 g2
      have c4 : r2.l.length = r3.l.length := by rw [c1, a1]
      have d9 : (!alln [nm r3.l 0] || decide ((64 : Int) < (k : Int)) || decide (((k * (((rowL l i k).getD 0 []).length - 12) : Nat) : Int) < nm r3.l 8) || decide ((k : Int) ≠ max 1 ((nm r3.l 8 + ((r2.l.length : Int) - 12) - 1).tdiv ((r2.l.length : Int) - 12)))) = false := d9
      simp only [yi, decide_eq_false_iff_not] at d9
      have := d9.1.2
      have := e1.2.2.1
      show nm r3.l 8 ≤ (vc : Int)
      omega
      done)
   | (obtain ⟨a1, a2, a3⟩ := jr (v := 0) h1 hr n0 g3
      have e16 : 16 ≤ r3.l.length := by rw [a1]; exact JG.2.1
      obtain rfl := y1h.trans (gs1 a2 e16)
      obtain rfl := y2h.trans (gs2 a2 e16)
      obtain rfl := y3h.trans (gs3 a2 e16)
      obtain ⟨k, on, vb, vq, vl, vc⟩ := w
      have d5 : ¬ k < n := fun h => ov d5 (Int.ofNat_lt.2 h)
      obtain rfl : k = n := by have : k ≤ (rowL l i n).length := hw.1; rw [rowL_len h1] at this; omega
      have e1 : Grw (jout ((rowL l i k).take k)) vl on (k * (((rowL l i k).getD 0 []).length - 12)) vc := hw.2.1
      have e2 : ∀ j, j < k → nm ((rowL l i k).getD j []) 0 = nm ((rowL l i k).getD 0 []) 0 ∧ nm ((rowL l i k).getD j []) 4 = (j : Nat) ∧ nm ((rowL l i k).getD j []) 8 = nm ((rowL l i k).getD 0 []) 8 := hw.2.2
      have U := (four_nm a3 (j := 8) (by omega)).2
      unfold U32 at U
      have u1 := a2.2.2
      obtain ⟨c1, c2, c3⟩ := jr (v := 0) h1 hr n0 g2
      have c4 : r2.l.length = r3.l.length := by rw [c1, a1]
      have d9 : (!alln [nm r3.l 0] || decide ((64 : Int) < (k : Int)) || decide (((k * (((rowL l i k).getD 0 []).length - 12) : Nat) : Int) < nm r3.l 8) || decide ((k : Int) ≠ max 1 ((nm r3.l 8 + ((r2.l.length : Int) - 12) - 1).tdiv ((r2.l.length : Int) - 12)))) = false := d9
      rw [c4, alln1, a1] at d9
      have J := (jok_d (U := by rw [← a1]; exact U.1) (rowL_len h1) JG e2).1 d9
      rw [← a1] at J
      have hkp : 0 < k * (((rowL l i k).getD 0 []).length - 12) := Nat.mul_pos n0 (by have := JG.2.1; omega)
      obtain rfl : on = true := on_of e1.2.2.2.2 hkp
      have s1 : (nm r3.l 8).toNat ≤ k * (((rowL l i k).getD 0 []).length - 12) := by
       have := J.2.2.2.2.1
       rw [rowL_len h1] at this
       omega
      have s2 := e1.2.2.1
      have s3 := e1.2.2.2.1
      have s4 : jout (rowL l i k) = vl.take (k * (((rowL l i k).getD 0 []).length - 12)) := by
       rw [e1.2.1, zu (l := rowL l i k) (by rw [rowL_len h1]; exact zy _)]
      have s5 : ((nm r3.l 8).toNat : Int) = nm r3.l 8 := by omega
      refine Ends.next (Ends.next (Ends.one ((nm r3.l 0, (nm r3.l 8).toNat), vb, vq, vl) ⟨by rw [s5]; exact J, by show (nm r3.l 8).toNat ≤ vl.length; omega, ?_⟩ ?_))
      · show vl.take _ = (jout (rowL l i k)).take _
        rw [s4, vm, rk s1]
      exact vgo
      done))
def fcJoin : Fc Tryd.prog C0 where
 tg := .fn 24
 X := Bool × Nat × Nat × List (Rw Int) × Nat × Nat × Nat
 args := fun (o, b, q, l, i, n, c) => [.sl 0 i n c]
 mem := fun (o, b, q, l, i, n, c) => [⟨b, q, 1, false, some o, .rows 26 l⟩]
 pre := fun (o, b, q, l, i, n, c) => i + n ≤ l.length ∧ (o = false → n = 0 ∧ c = 0) ∧ (∀ r ∈ (l.drop i).take n, Rok r ∧ Bys r.l) ∧ n ≤ 1000000
 alts := fun (o, b, q, l, i, n, c) => [⟨Unit, fun _ => jbad (rowL l i n), fun _ => .tup [.int .i64 0, .nils, eV 2], fun _ => [⟨b, q, 1, false, some o, .rows 26 l⟩]⟩,
  ⟨Unit, fun _ => ¬ jbad (rowL l i n) ∧ ∀ x s, ¬ JOk (rowL l i n) x s, fun _ => .tup [.int .i64 0, .nils, eV 0], fun _ => [⟨b, q, 1, false, some o, .rows 26 l⟩]⟩,
  ⟨(Int × Nat) × Nat × Nat × List Int, fun y => JOk (rowL l i n) y.1.1 y.1.2 ∧ y.1.2 ≤ y.2.2.2.length ∧ y.2.2.2.take y.1.2 = (jout (rowL l i n)).take y.1.2, fun y => .tup [.int .i64 y.1.1, .sl 1 0 y.1.2 y.1.2, .nili],
   fun y => [⟨b, q, 1, false, some o, .rows 26 l⟩, ⟨y.2.1, y.2.2.1, 1, true, none, .rows 5 y.2.2.2⟩]⟩]
 mat vs m := match vs with
  | [.sl a i n c] => match nth m a with
    | ⟨b, q, _, _, g, .rows 26 l⟩ => some ((onOf g, b, q, l, i, n, c), [a])
    | _ => none
  | [.nils] => some ((false, 0, 0, [], 0, 0, 0), [m.length])
  | _ => none
 ok := fun (o, b, q, l, i, n, c) h => join_ok o b q l i n c h.1 h.2.1 h.2.2.1 h.2.2.2
end Go.Vx
namespace Go.Vx
open Go Go.Proofs
variable [Gl]
def pcs (B : List Int) (s : Nat) (n : Int) (k : Nat) : List (List Int) := (vh k).map (piece B s n)
theorem pcs_len (B : List Int) (s : Nat) (n : Int) (k : Nat) : (pcs B s n k).length = k := by unfold pcs; simp
theorem pcs_at {B : List Int} {s : Nat} {n : Int} {k j : Nat} (h : j < k) : (pcs B s n k).getD j [] = piece B s n j := by
 unfold pcs
 rw [zz, zh, tj h]; rfl
theorem piece_nm {B : List Int} {s : Nat} {n : Int} {k : Nat} (hn : U32 n) (hk : k < 4294967296) (hB : B.length < 4294967296) :
 nm (piece B s n k) 0 = n ∧ nm (piece B s n k) 4 = (k : Nat) ∧ nm (piece B s n k) 8 = (B.length : Nat) := by
 have hu : ∀ x ∈ [n, (k : Int), (B.length : Int)], U32 x := by
  intro x hx
  simp only [we, ww, or_false] at hx
  rcases hx with rfl | rfl | rfl
  · exact hn
  · unfold U32; omega
  · unfold U32; omega
 unfold piece
 exact ⟨nm_fours hu _ (k := 0) (by simp), nm_fours hu _ (k := 1) (by simp), nm_fours hu _ (k := 2) (by simp)⟩
theorem piece_drop (B : List Int) (s : Nat) (n : Int) (k : Nat) : (piece B s n k).drop 12 = (B.drop (k * (s - 12))).take (s - 12) ++ zq (s - 12 - ((B.drop (k * (s - 12))).take (s - 12)).length) 0 := by
 unfold piece
 rw [xe (by rw [fours_len]; simp), vi (by rw [fours_len]; simp)]
 rfl
theorem piece_byt {B : List Int} (h : Bys B) (s : Nat) (n : Int) (k : Nat) : Bys (piece B s n k) := by
 unfold piece
 refine (fours_byt _).app (((h.drop _).take _).app ?_)
 intro x hx
 rw [(List.mem_replicate.1 hx).2]; decide
theorem jout_snoc (B : List Int) (s : Nat) (n : Int) (k : Nat) : jout (pcs B s n (k + 1)) = jout (pcs B s n k) ++ (piece B s n k).drop 12 := by
 unfold jout pcs
 rw [vw, yy, uy]; simp
theorem jout_full {B : List Int} {s : Nat} {n : Int} : ∀ {k : Nat}, k * (s - 12) ≤ B.length → jout (pcs B s n k) = B.take (k * (s - 12))
 | 0, _ => by simp [jout, pcs]
 | k + 1, h => by
   rw [zf, uj] at h
   rw [jout_snoc, jout_full (by omega), piece_drop, zf, uj, zp, zj, show s - 12 - min (s - 12) (B.length - k * (s - 12)) = 0 by omega, List.replicate_zero, zk, vo]
theorem jout_last {B : List Int} {s : Nat} {n : Int} {k : Nat} (h : k * (s - 12) ≤ B.length) (h2 : B.length ≤ k * (s - 12) + (s - 12)) : (jout (pcs B s n (k + 1))).take B.length = B := by
 rw [jout_snoc, jout_full h, piece_drop, ← zm, ← vo, zu (l := B) h2, yh (zy _), zu (zy _)]
theorem pcs_jok {B : List Int} {s : Nat} {n : Int} (h16 : 16 ≤ s) (h1024 : s ≤ 1024) (hn : cn n = true) (hB : B.length ≤ 64 * (s - 12)) :
 JOk (pcs B s n (pcN B.length s)) n (B.length : Nat) ∧ (jout (pcs B s n (pcN B.length s))).take B.length = B := by
 have hp := pcN_pos B.length s
 have h64 := pcN_le (by omega) hB
 have hlen : ∀ j, j < pcN B.length s → ((pcs B s n (pcN B.length s)).getD j []).length = s := by
  intro j hj
  rw [pcs_at hj, piece_len (by omega)]
 have h0 := hlen 0 hp
 have hU := cn_u32 hn
 obtain ⟨M, hM⟩ : ∃ M, pcN B.length s = M + 1 := ⟨pcN B.length s - 1, by omega⟩
 have hM1 : M * (s - 12) ≤ B.length := by
  rcases (pcN_lt (len := B.length) (s := s) (k := M) (by omega)).1 (by omega) with h | h
  · subst h; simp
  · omega
 have hM2 : B.length ≤ (M + 1) * (s - 12) := by
  have : ¬ (M + 1 = 0 ∨ (M + 1) * (s - 12) < B.length) := fun h => absurd ((pcN_lt (len := B.length) (s := s) (k := M + 1) (by omega)).2 h) (by omega)
  omega
 refine ⟨⟨jg_iff.1 ⟨by rw [pcs_len]; exact hp, by rw [h0]; exact h16, by rw [h0]; exact h1024, fun j hj => by rw [pcs_len] at hj; rw [hlen j hj, h0]⟩, fun j hj => ?_, hn, by rw [pcs_len]; exact h64, ?_, ?_⟩, ?_⟩
 · rw [pcs_len] at hj
   rw [pcs_at hj]
   exact piece_nm hU (by omega) (by omega)
 · rw [pcs_len, h0, hM]; omega
 · rw [pcs_len, h0]
   have : ((B.length : Nat) : Int) + (s - 12 : Nat) - 1 = ((B.length + (s - 12) - 1 : Nat) : Int) := by omega
   rw [this]
   unfold pcN
   omega
 · rw [hM]
   exact jout_last hM1 (by rw [zf, uj] at hM2; exact hM2)
theorem jok_uniq {L : List (List Int)} {n s n' s' : Int} (h : JOk L n s) (h' : JOk L n' s') : n = n' ∧ s = s' := by
 have h0 := (jg_iff.2 h.1).1
 have a := h.2.1 0 h0
 have b := h'.2.1 0 h0
 exact ⟨a.1.symm.trans b.1, a.2.2.symm.trans b.2.2⟩
theorem prs_rowL {B : List Int} {s : Nat} {n : Int} {vl : List (Rw Int)} {k : Nat} (h : Prs B s n vl k) : rowL vl 0 k = pcs B s n k := by
 unfold rowL pcs
 rw [xi]; exact h.1
theorem prs_rows {B : List Int} (hB : Bys B) {s : Nat} {n : Int} {vl : List (Rw Int)} {k : Nat} (h : Prs B s n vl k) : ∀ r ∈ vl.take k, Rok r ∧ Bys r.l := by
 intro r hr
 refine ⟨h.2 r hr, ?_⟩
 have : r.l ∈ (vl.take k).map (·.l) := List.mem_map.2 ⟨r, hr, rfl⟩
 rw [h.1] at this
 obtain ⟨j, _, hj⟩ := List.mem_map.1 this
 rw [← hj]
 exact piece_byt hB _ _ _
theorem jb1 {B : List Int} {s : Nat} {n : Int} {vl : List (Rw Int)} (h16 : 16 ≤ s) (h1024 : s ≤ 1024) (hn : cn n = true) (hB : B.length ≤ 64 * (s - 12)) (h : Prs B s n vl (pcN B.length s)) :
 JOk (rowL vl 0 (pcN B.length s)) n (B.length : Nat) ∧ (jout (rowL vl 0 (pcN B.length s))).take B.length = B := by
 rw [prs_rowL h]
 exact pcs_jok h16 h1024 hn hB
end Go.Vx
namespace Go.Vx
open Go Go.Proofs
variable [Gl]
@[irreducible] def rdr (i n c k : Nat) : Rs := (i + 4 * min k (n / 4), n - 4 * min k (n / 4), c - 4 * min k (n / 4), decide (n / 4 < k))
theorem rdr_zero (i n c : Nat) : rdr i n c 0 = (i, n, c, false) := by unfold rdr; simp
theorem rdr_next {l : List Int} {i n c k : Nat} (hc : n < c) (h : i + n ≤ l.length) : (gs (rdr i n c k), gv l (rdr i n c k)) = (rdr i n c (k + 1), (rdN ((l.drop i).take n) (n / 4)).getD k 0) := by
 unfold rdr gs gv
 by_cases hk : k < n / 4
 · have e1 : min k (n / 4) = k := by omega
   have e2 : min (k + 1) (n / 4) = k + 1 := by omega
   simp only [e1, e2, show ¬ n - 4 * k < 4 by omega, if_false]
   refine uf (uf ?_ (uf ?_ (uf ?_ ?_))) ?_
   · show srow (c - 4 * k) 4 (i + 4 * k) = _
     unfold srow
     rw [if_neg (by omega)]
     show 4 + (i + 4 * k) = i + 4 * (k + 1); omega
   · show n - 4 * k - 4 = n - 4 * (k + 1); omega
   · show c - 4 * k - 4 = c - 4 * (k + 1); omega
   · show decide (n / 4 < k) = decide (n / 4 < k + 1)
     rw [decide_eq_decide]; omega
   · show nm l (i + 4 * k) = _
     rw [rdN_get _ hk, nm_take _ (by omega), nm_drop]
 · have e1 : min k (n / 4) = n / 4 := by omega
   have e2 : min (k + 1) (n / 4) = n / 4 := by omega
   simp only [e1, e2, show n - 4 * (n / 4) < 4 by omega, if_true]
   refine uf (uf rfl (uf rfl (uf rfl ?_))) ?_
   · show true = decide (n / 4 < k + 1)
     rw [decide_eq_true (by omega)]
   · show (0 : Int) = _
     rw [zz, ya (by rw [rdN_len]; omega)]; rfl
theorem rdr_pre {l : List Int} {i n c k : Nat} {o : Bool} (hc : n < c) (h : i + c ≤ l.length) (hl : n < 140737488355000) (ho : o = false → c = 0) (hb : Bys ((l.drop i).take n)) :
 (rdr i n c k).2.1 ≤ (rdr i n c k).2.2.1 ∧ (rdr i n c k).1 + (rdr i n c k).2.2.1 ≤ l.length ∧ (rdr i n c k).2.1 < 140737488355000 ∧ (o = false → (rdr i n c k).2.1 = 0 ∧ (rdr i n c k).2.2.1 = 0) ∧ Bys ((l.drop (rdr i n c k).1).take (rdr i n c k).2.1) := by
 unfold rdr
 have hm : 4 * min k (n / 4) ≤ n := by omega
 refine ⟨by show n - _ ≤ c - _; omega, by show i + _ + (c - _) ≤ _; omega, by show n - _ < _; omega, fun h => by have := ho h; omega, ?_⟩
 intro x hx
 refine hb x ?_
 have hx : x ∈ (l.drop (i + 4 * min k (n / 4))).take (n - 4 * min k (n / 4)) := hx
 rw [← wz, ← uh] at hx
 exact xn hx
theorem rdr_bad (i n c k : Nat) : (rdr i n c k).2.2.2 = decide (n / 4 < k) := by unfold rdr; rfl
theorem rdr_rest (i n c k : Nat) : (rdr i n c k).2.1 = n - 4 * min k (n / 4) := by unfold rdr; rfl
def blkAt (R : List Int) (j : Nat) : Pl := (R.getD (5 + 2 * j) 0, R.getD (5 + 2 * j + 1) 0)
def slotAt (R : List Int) (K j : Nat) : Slot := ⟨R.getD (K + 9 * j) 0, (R.getD (K + 9 * j + 1) 0, R.getD (K + 9 * j + 2) 0), ⟨R.getD (K + 9 * j + 3) 0, R.getD (K + 9 * j + 4) 0, R.getD (K + 9 * j + 5) 0, R.getD (K + 9 * j + 6) 0, R.getD (K + 9 * j + 7) 0, R.getD (K + 9 * j + 8) 0⟩⟩
@[irreducible] def nB (R : List Int) : Nat := min (R.getD 4 0).toNat ((R.length - 3) / 2)
@[irreducible] def nS (R : List Int) : Nat := min (R.getD (5 + 2 * nB R) 0).toNat ((R.length + 9 - (6 + 2 * nB R)) / 9)
def hdR (R : List Int) : Hd := (R.getD 0 0, R.getD 1 0, R.getD 2 0, R.getD 3 0)
@[irreducible] def blks (R : List Int) (j : Nat) : List Pl := (vh j).map (blkAt R)
@[irreducible] def slts (R : List Int) (j : Nat) : List Slot := (vh j).map (slotAt R (6 + 2 * nB R))
theorem blks_len (R : List Int) (j : Nat) : (blks R j).length = j := by unfold blks; simp
theorem slts_len (R : List Int) (j : Nat) : (slts R j).length = j := by unfold slts; simp
theorem blks_zero (R : List Int) : blks R 0 = [] := by unfold blks; rfl
theorem slts_zero (R : List Int) : slts R 0 = [] := by unfold slts; rfl
theorem blks_next (R : List Int) (j : Nat) : blks R (j + 1) = blks R j ++ [blkAt R j] := by unfold blks; rw [vw, yy]; rfl
theorem slts_next (R : List Int) (j : Nat) : slts R (j + 1) = slts R j ++ [slotAt R (6 + 2 * nB R) j] := by unfold slts; rw [vw, yy]; rfl
def IsPt (b : List Int) (h : Hd) (A : List Pl) (B : List Slot) : Prop := okP h A B = true ∧ b = bytesP h A B
theorem segR {R : List Int} {k m : Nat} (h : k + m ≤ R.length) : (R.drop k).take m = (vh m).map fun t => R.getD (k + t) 0 := by
 refine qw (by simp; omega) fun t h1 h2 => ?_
 simp only [zp, zj] at h1
 rw [List.getElem_take, List.getElem_drop, List.getElem_map, List.getElem_range, zz, zv (by omega), zb]
theorem blks_flat {R : List Int} : ∀ {a : Nat}, 5 + 2 * a ≤ R.length → (blks R a).flatMap lst = (R.drop 5).take (2 * a)
 | 0, _ => by rw [blks_zero]; rfl
 | a + 1, h => by
   rw [blks_next, uy, blks_flat (by omega), show 2 * (a + 1) = 2 * a + 2 by omega, vo, wz, segR (k := 5 + 2 * a) (m := 2) (by omega)]
   simp only [ua, lst, blkAt, vw, List.range_zero, xl, yy, ym, sm, wg, xb]
theorem slts_flat {R : List Int} : ∀ {b : Nat}, 6 + 2 * nB R + 9 * b ≤ R.length → (slts R b).flatMap slotN = (R.drop (6 + 2 * nB R)).take (9 * b)
 | 0, _ => by rw [slts_zero]; rfl
 | b + 1, h => by
   rw [slts_next, uy, slts_flat (by omega), show 9 * (b + 1) = 9 * b + 9 by omega, vo, wz, segR (k := 6 + 2 * nB R + 9 * b) (m := 9) (by omega)]
   simp only [ua, slotN, slotAt, vw, List.range_zero, xl, yy, ym, sm, wg, xb]
theorem nums_of {R : List Int} (hu : ∀ x ∈ R, 0 ≤ x) (h : 6 + 2 * nB R + 9 * nS R = R.length) : nums (hdR R) (blks R (nB R)) (slts R (nS R)) = R := by
 have h0 : ∀ k, 0 ≤ R.getD k 0 := by
  intro k
  by_cases hk : k < R.length
  · rw [zz, zv hk]; exact hu _ (xk hk)
  · rw [zz, ya (by omega)]; exact ui 0
 have hB : R.getD 4 0 = (nB R : Nat) := by
  have e : nB R = min (R.getD 4 0).toNat ((R.length - 3) / 2) := by unfold nB; rfl
  have := h0 4
  omega
 have hS : R.getD (5 + 2 * nB R) 0 = (nS R : Nat) := by
  have e : nS R = min (R.getD (5 + 2 * nB R) 0).toNat ((R.length + 9 - (6 + 2 * nB R)) / 9) := by unfold nS; rfl
  have := h0 (5 + 2 * nB R)
  omega
 unfold nums
 rw [blks_flat (by omega), slts_flat (by omega), blks_len, slts_len, ← hB, ← hS]
 have e5 : [(hdR R).1, (hdR R).2.1, (hdR R).2.2.1, (hdR R).2.2.2, R.getD 4 0] = (R.drop 0).take 5 := by
  rw [segR (by omega)]; rfl
 have e1 : [R.getD (5 + 2 * nB R) 0] = (R.drop (5 + 2 * nB R)).take 1 := by
  rw [segR (by omega)]; rfl
 rw [e5, e1, xi, ← vo, show (R.drop (5 + 2 * nB R)).take 1 = ((R.drop (5 + 2 * nB R))).take 1 from rfl, ← vo]
 have e9 : 6 + 2 * nB R = 5 + 2 * nB R + 1 := by omega
 rw [e9, ← vo, zu (by omega)]
theorem nB_nums (h : Hd) (A : List Pl) (B : List Slot) : nB (nums h A B) = A.length := by
 have e := nums_len h A B
 have e4 : (nums h A B).getD 4 0 = (A.length : Nat) := by unfold nums; rfl
 unfold nB
 rw [e, e4]
 omega
theorem nS_nums (h : Hd) (A : List Pl) (B : List Slot) : nS (nums h A B) = B.length := by
 have e := nums_len h A B
 have e1 : ∀ A : List Pl, (A.flatMap lst).length = 2 * A.length := by
  intro A
  induction A with
  | nil => rfl
  | cons x r ih => rw [um, zw, ih]; simp [lst]; omega
 have e4 : (nums h A B).getD (5 + 2 * A.length) 0 = (B.length : Nat) := by
  unfold nums
  rw [zz, zm, List.getElem?_append_right (by simp [e1]; omega)]
  have : 5 + 2 * A.length - ([h.1, h.2.1, h.2.2.1, h.2.2.2, (A.length : Int)] ++ A.flatMap lst).length = 0 := by simp [e1]; omega
  rw [this]; rfl
 unfold nS
 rw [nB_nums, e, e4]
 omega
theorem nums_parts {h : Hd} {A : List Pl} {B : List Slot} (hu : ∀ x ∈ nums h A B, U32 x) : hdR (nums h A B) = h ∧ blks (nums h A B) (nB (nums h A B)) = A ∧ slts (nums h A B) (nS (nums h A B)) = B := by
 refine nums_inj (nums_of (fun x hx => (hu x hx).1) ?_)
 rw [nB_nums, nS_nums, nums_len]
@[irreducible] def nsOf (bv : List Int) : List Int := rdN (bv.take (bv.length - 4)) ((bv.length - 4) / 4)
theorem nsOf_len (bv : List Int) : (nsOf bv).length = (bv.length - 4) / 4 := by unfold nsOf; exact rdN_len _ _
theorem isPt_facts {bv : List Int} {h : Hd} {A : List Pl} {B : List Slot} (hp : IsPt bv h A B) (hl : bv.length < 4294967296) :
 28 ≤ bv.length ∧ nsOf bv = nums h A B ∧ nm bv (bv.length - 4) = crc (bv.take (bv.length - 4)) ∧ 6 + 2 * nB (nsOf bv) + 9 * nS (nsOf bv) = (nsOf bv).length ∧ 4 * (nsOf bv).length = bv.length - 4 ∧ okP (hdR (nsOf bv)) (blks (nsOf bv) (nB (nsOf bv))) (slts (nsOf bv) (nS (nsOf bv))) = true := by
 obtain ⟨h1, h2⟩ := hp
 have hlen := bytesP_len h A B
 rw [← h2] at hlen
 have hu := okP_u32 h1 (by omega) (by omega)
 have hf : bv.take (bv.length - 4) = fours (nums h A B) := by
  rw [h2]
  unfold bytesP
  rw [zw, four_len, Nat.add_sub_cancel, List.take_left]
 have hM : (bv.length - 4) / 4 = (nums h A B).length := by rw [nums_len]; omega
 have e := rdN_fours hu []
 rw [zk] at e
 have en : nsOf bv = nums h A B := by unfold nsOf; rw [hf, hM, e]
 have ep := nums_parts hu
 refine ⟨by omega, en, ?_, ?_, ?_, ?_⟩
 · have hd : bv.drop (bv.length - 4) = four (crc (bv.take (bv.length - 4))) := by
    rw [hf]
    have : bv.length - 4 = (fours (nums h A B)).length := by rw [fours_len, nums_len]; omega
    rw [this, h2]
    unfold bytesP
    exact List.drop_left
   have e1 := nm_drop bv (bv.length - 4) 0
   rw [hd, xb] at e1
   rw [← e1]
   have e2 := nm_four (crc_u32 (bv.take (bv.length - 4))) []
   rw [zk] at e2
   exact e2
 · rw [en, nB_nums, nS_nums, nums_len]
 · rw [en, nums_len]; omega
 · rw [en, ep.1, ep.2.1, ep.2.2]; exact h1
theorem isPt_of {bv : List Int} (hb : Bys bv) (h4 : 4 ≤ bv.length) (hc : nm bv (bv.length - 4) = crc (bv.take (bv.length - 4))) (h1 : 6 + 2 * nB (nsOf bv) + 9 * nS (nsOf bv) = (nsOf bv).length) (h2 : 4 * (nsOf bv).length = bv.length - 4)
 (hok : okP (hdR (nsOf bv)) (blks (nsOf bv) (nB (nsOf bv))) (slts (nsOf bv) (nS (nsOf bv))) = true) : IsPt bv (hdR (nsOf bv)) (blks (nsOf bv) (nB (nsOf bv))) (slts (nsOf bv) (nS (nsOf bv))) := by
 refine ⟨hok, ?_⟩
 have hl := nsOf_len bv
 have hR : fours (nsOf bv) = bv.take (bv.length - 4) := by
  unfold nsOf
  rw [fours_rdN (hb.take _) _ (by rw [zp]; omega), vm]
  congr 1
  omega
 have hu : ∀ x ∈ nsOf bv, 0 ≤ x := by
  intro x hx
  unfold nsOf at hx
  exact (rdN_u32 (hb.take _) (by rw [zp]; omega) x hx).1
 have e := nums_of hu h1
 unfold bytesP
 rw [e, hR, ← hc, (four_nm hb (by omega)).1, zu (l := bv.drop _) (by rw [zj]; omega), List.take_append_drop]
theorem got {l : List Int} {i n c : Nat} (h4 : 4 ≤ n) (h1 : n ≤ c) (h2 : i + c ≤ l.length) {s : Rs} {k : Nat} {y : Rs × Int} (hs : s = rdr i (n - 4) c k) (hy : y = (gs s, gv l s)) :
 y = (rdr i (n - 4) c (k + 1), (nsOf ((l.drop i).take n)).getD k 0) := by
 rw [hy, hs, rdr_next (by omega) (by omega)]
 unfold nsOf
 rw [rows_len (show i + n ≤ l.length by omega), vm, rk (by omega)]
theorem got_pre {l : List Int} {i n c : Nat} {o : Bool} (h4 : 4 ≤ n) (h1 : n ≤ c) (h2 : i + c ≤ l.length) (h3 : n < 140737488355000) (ho : o = false → c = 0) (hb : Bys ((l.drop i).take n)) {s : Rs} {k : Nat} (hs : s = rdr i (n - 4) c k) :
 s.2.1 ≤ s.2.2.1 ∧ s.1 + s.2.2.1 ≤ l.length ∧ s.2.1 < 140737488355000 ∧ (o = false → s.2.1 = 0 ∧ s.2.2.1 = 0) ∧ Bys ((l.drop s.1).take s.2.1) := by
 rw [hs]
 refine rdr_pre (by omega) h2 (by omega) ho ?_
 have := hb.take (n - 4)
 rw [vm, rk (by omega)] at this
 exact this
theorem end_i {i n c : Nat} (h4 : 4 ≤ n) (h1 : n ≤ c) : srow c (n - 4) i = i + (n - 4) := by unfold srow; rw [if_neg (by omega)]; omega
theorem end_pre {l : List Int} {i n c : Nat} {o : Bool} (h4 : 4 ≤ n) (h1 : n ≤ c) (h2 : i + c ≤ l.length) (h3 : n < 140737488355000) (ho : o = false → c = 0) (hb : Bys ((l.drop i).take n)) :
 n - (n - 4) ≤ c - (n - 4) ∧ srow c (n - 4) i + (c - (n - 4)) ≤ l.length ∧ n - (n - 4) < 140737488355000 ∧ (o = false → n - (n - 4) = 0 ∧ c - (n - 4) = 0) ∧ Bys ((l.drop (srow c (n - 4) i)).take (n - (n - 4))) := by
 rw [end_i h4 h1]
 refine ⟨by omega, by omega, by omega, fun h => by have := ho h; omega, ?_⟩
 intro x hx
 refine hb x ?_
 rw [← wz, ← uh] at hx
 exact xn hx
theorem end_get {l : List Int} {i n c : Nat} (h4 : 4 ≤ n) (h1 : n ≤ c) (h2 : i + c ≤ l.length) : gv l (srow c (n - 4) i, n - (n - 4), c - (n - 4), false) = nm ((l.drop i).take n) (n - 4) := by
 unfold gv
 rw [end_i h4 h1]
 simp only [show ¬ n - (n - 4) < 4 by omega, if_false]
 rw [nm_take _ (by omega), nm_drop]
theorem nB_le (R : List Int) : 2 * nB R + 3 ≤ R.length ∨ nB R = 0 := by unfold nB; omega
theorem nB_lt {R : List Int} {j : Nat} (h : 0 < R.getD 4 0 - (j : Int)) (h2 : ¬ R.length < 5 + 2 * j) : j + 1 ≤ nB R := by unfold nB; omega
theorem nB_eq {R : List Int} {j : Nat} (hj : j ≤ nB R) (h : (decide (0 < R.getD 4 0 - (j : Int)) && !decide (R.length < 5 + 2 * j)) = false) : j = nB R := by
 have e : nB R = min (R.getD 4 0).toNat ((R.length - 3) / 2) := by unfold nB; rfl
 simp only [vu, decide_eq_false_iff_not, wy, decide_eq_true_iff] at h
 omega
theorem nS_le (R : List Int) : 9 * nS R ≤ R.length + 3 := by unfold nS; omega
theorem nS_lt {R : List Int} {j : Nat} (h : 0 < R.getD (5 + 2 * nB R) 0 - (j : Int)) (h2 : ¬ R.length < 6 + 2 * nB R + 9 * j) : j + 1 ≤ nS R := by unfold nS; omega
theorem nS_eq {R : List Int} {j : Nat} (hj : j ≤ nS R) (h : (decide (0 < R.getD (5 + 2 * nB R) 0 - (j : Int)) && !decide (R.length < 6 + 2 * nB R + 9 * j)) = false) : j = nS R := by
 have e : nS R = min (R.getD (5 + 2 * nB R) 0).toNat ((R.length + 9 - (6 + 2 * nB R)) / 9) := by unfold nS; rfl
 simp only [vu, decide_eq_false_iff_not, wy, decide_eq_true_iff] at h
 omega
theorem ns_u32 {bv : List Int} (hb : Bys bv) (k : Nat) : U32 ((nsOf bv).getD k 0) := by
 by_cases hk : k < (nsOf bv).length
 · rw [zz, zv hk, zb]
   have hm := xk hk
   have hu : ∀ x ∈ nsOf bv, U32 x := by
    unfold nsOf
    exact rdN_u32 (hb.take _) (by rw [zp]; omega)
   exact hu _ hm
 · rw [zz, ya (by omega)]
   exact ⟨ui 0, by decide⟩
end Go.Vx
