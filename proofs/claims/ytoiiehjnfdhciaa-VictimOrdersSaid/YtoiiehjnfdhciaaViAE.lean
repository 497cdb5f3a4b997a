/-
  Round 21: VictimOrders, what it computes where there are blocks.
  Conditions: none.
-/
import Derived.Test.YtoiiehjnfdhciaaViAD
set_option maxRecDepth 100000
set_option linter.unusedVariables false
set_option linter.unusedSimpArgs false
namespace Go.Vi
open Go Go.Vx Go.Proofs

/-- The coldest one, if there is one. -/
noncomputable def coldv (l : List Blk) : Blk × Bool := open Classical in if h : ∃ e, Coldest l e then (Classical.choose h, true) else (z0, false)
theorem coldv_yes {l : List Blk} {e : Blk} (h : Coldest l e) : coldv l = (e, true) := by
  unfold coldv
  have hx : ∃ e, Coldest l e := ⟨e, h⟩
  rw [dif_pos hx, cold_one (Classical.choose_spec hx) h]
theorem coldv_no {l : List Blk} (h : ∀ x ∈ l, nf x = false) : coldv l = (z0, false) := by
  unfold coldv
  rw [dif_neg]
  rintro ⟨e, he⟩
  exact cold_no he h
theorem Does.cold {P : Program} {tg : Tg} {mem : List (Ck C1)} {args : List SV} {l : List Blk}
    (h : Does P tg mem args [⟨Unit, fun _ => ∀ x ∈ l, nf x = false, fun _ => .tup [zSV, .bool .f], fun _ => mem⟩, ⟨Blk, fun e => Coldest l e, fun e => .tup [bSV e, .bool .t], fun _ => mem⟩]) :
    Tells P tg mem args (.tup [bSV (coldv l).1, .bool (.tm (coldv l).2)]) := by
  intro w hm
  obtain ⟨f, vals, h1, h2⟩ := h w hm
  refine ⟨f, vals, h1, h2.mono ?_⟩
  rintro e w' ⟨r, m', he, hm', hx, A, hA, y, hy, hr, ho⟩
  rcases List.mem_cons.1 hA with rfl | hA
  · refine ⟨_, m', ?_, hm', hx, rfl, ho⟩
    rw [he, hr, coldv_no hy]
    rfl
  · rcases List.mem_singleton.1 hA with rfl
    refine ⟨_, m', ?_, hm', hx, rfl, ho⟩
    rw [he, hr, coldv_yes hy]
    rfl
noncomputable def pcCold : Pc Try.prog C1 where
  tg := .fn 15
  X := Nat × Nat × List Blk × Nat × Nat
  args := fun (_, _, _, N, m) => [.sl 0 0 N m]
  mem := fun (b, q, bl, _, _) => [⟨b, q, 4, false, none, .rows 27 bl⟩]
  pre := fun (_, _, bl, N, _) => N ≤ bl.length ∧ N < 1048576
  res := fun (_, _, bl, N, _) => .tup [bSV (coldv (bl.take N)).1, .bool (.tm (coldv (bl.take N)).2)]
  mat vs m := match vs with
    | [.sl k _ n c] => match nth m k with
      | ⟨b, q, _, _, _, .rows 27 l⟩ => some ((b, q, l, n, c), [k])
      | _ => none
    | _ => none
  ok := fun (_, _, _, _, _) h => Does.cold (cold_ok _ _ _ _ _ h.1 h.2)
noncomputable def pcRCold : Pc Try.prog C1 where
  tg := .fn 16
  X := Nat × Nat × List Blk × Nat × Nat
  args := fun (_, _, _, N, m) => [.sl 0 0 N m]
  mem := fun (b, q, bl, _, _) => [⟨b, q, 4, false, none, .rows 39 bl⟩]
  pre := fun (_, _, bl, N, _) => N ≤ bl.length ∧ N < 1048576
  res := fun (_, _, bl, N, _) => .tup [bSV (coldv (bl.take N)).1, .bool (.tm (coldv (bl.take N)).2)]
  mat vs m := match vs with
    | [.sl k _ n c] => match nth m k with
      | ⟨b, q, _, _, _, .rows 39 l⟩ => some ((b, q, l, n, c), [k])
      | _ => none
    | _ => none
  ok := fun (_, _, _, _, _) h => Does.cold (rcold_ok _ _ _ _ _ h.1 h.2)
theorem limN {N : Nat} {F : Int} (h : (decide ((100 : Int) < (N : Int)) || (SB.tm (decide ((100 : Int) < F))).val) = false) : N ≤ 100 := by
  simp only [SB.val, Bool.or_eq_false_iff, decide_eq_false_iff_not] at h
  omega
theorem V1.bds {p : Nat} {bl : List Blk} {N : Nat} {x : Vs} (hx : (V1 p bl N).inv x) (hc : decide ((x.i : Int) < (N : Int)) = true) (hL : N ≤ 100) :
    0 ≤ (x.i : Int) ∧ (x.i : Int) < (N : Int) ∧ inR .i64 ((N : Int) - 1) ∧ inR .i64 ((N : Int) - 1 - (x.i : Int)) ∧ inR .i64 ((x.i : Int) + 1) := by
  have hc := of_decide_eq_true hc
  exact ⟨by omega, hc, inR64 (by omega) (by omega), inR64 (by omega) (by omega), inR64 (by omega) (by omega)⟩
theorem V2.bds {N i : Nat} (hc : decide ((i : Int) < (N : Int)) = true) (hL : N ≤ 100) : 0 ≤ (i : Int) ∧ (i : Int) < (N : Int) ∧ inR .i64 ((i : Int) + 1) := by
  have hc := of_decide_eq_true hc
  exact ⟨by omega, hc, inR64 (by omega) (by omega)⟩
theorem V1.stop {p : Nat} {bl : List Blk} {N : Nat} {x : Vs} {q : Prop} (hx : (V1 p bl N).inv x) (hc : decide ((x.i : Int) < (N : Int)) = false) (h : 0 < N - x.i ∧ q) : False := by
  have hc := of_decide_eq_false hc
  omega
theorem V1.go {p : Nat} {bl : List Blk} {N : Nat} {x : Vs} (hc : decide ((x.i : Int) < (N : Int)) = true) (h : N - x.i = 0) : False := by
  have hc := of_decide_eq_true hc
  omega
theorem lenN {l : List Blk} {i N : Nat} (hc : decide ((i : Int) < (N : Int)) = true) (h : N ≤ l.length) : (i : Int).toNat + 0 < l.length := by
  have hc := of_decide_eq_true hc
  omega
theorem and_t {a b : Bool} (ha : a = true) (hb : b = true) : (a && b) = true := by rw [ha, hb]; rfl
theorem no14 {a b c : Bool} (h1 : a = true) (h2 : b = true) (h3 : c = false) : ((!a || !b) || c) = false := by rw [h1, h2, h3]; rfl
theorem no23 {a : Bool} (h1 : a = true) : (!a) = false := by rw [h1]; rfl
theorem cnt {N i : Nat} (h : 0 < N - i) : decide (((N - i - 1 : Nat) : Int) ≠ (N : Int) - 1 - (i : Int)) = false := by
  rw [decide_eq_false_iff_not]
  omega
theorem yes_no {b : Bool} (h : b = true) (h' : b = false) : False := by rw [h] at h'; exact absurd h' (by decide)
set_option maxHeartbeats 8000000 in
theorem orders_Sn (b q : Nat) (bl : List Blk) (N m : Nat) (h0 : 0 < N) (hN : N ≤ bl.length) : Tells (C := C1) Try.prog (.fn 4) [⟨b, q, 4, false, none, .rows 39 bl⟩] [.sl 0 0 N m, .nils] (.bool .t) := by
  refine loc_pc (P := Try.prog) (E := ⟨[fcFirst, fcROrderS, fcMadeS, fcOfS, fcOrderS, fcNext, fcGreedyS], [pcSame, pcQLen, pcCold, pcRCold, pcGap, pcGapN, pcRGap, pcRGapN], 180, []⟩) (L := [V1 1 bl N, V2 N]) mix Try.func4 rfl (by kernel_rfl) (by kernel_rfl) rfl rfl ?_
  ((conv => (arg 1; reduce)); with_reducible repeat' (first | exact Tr.yes_h | refine Tr.and_h ?_ ?_ | refine Tr.imp_h fun _ => ?_ | refine Tr.all_h fun _ => ?_ | refine Tr.lf_h ?_))
  all_goals try first | (show Region.lexB _ _ = true; kernel_rfl) | (show planned _ _ = true; kernel_rfl) | exact rfl | exact True.intro
  all_goals have hL : N ≤ 100 := limN (by with_reducible assumption)
  · exact ⟨h0, hN, by omega⟩
  · exact ⟨h0, hN, by omega⟩
  · rename_i y1 hy1
    exact ⟨h0, Nat.le_trans hy1.2.1 hy1.2.2.1, by omega⟩
  · rename_i y1 hy1 y2 hy2
    exact ⟨h0, Nat.le_trans hy1.2.1 hy1.2.2.1, by omega⟩
  · rename_i hne
    exact absurd rfl (of_decide_eq_true hne)
  · rename_i y0 hy0 y1 hy1 y2 hy2 y3 hy3 hne
    refine Stands.one ⟨y2.2.2.2.2.2.2.1, y2.2.2.2.2.2.2.2, 0, []⟩ ⟨V1.start (l := []) (Nat.le_trans hy1.2.1 hy1.2.2.1) hy1.2.2.2 hy2.2, ?_⟩
    ((conv => (arg 1; reduce)); with_reducible repeat' (first | exact Tr.yes_h | refine Tr.and_h ?_ ?_ | refine Tr.imp_h fun _ => ?_ | refine Tr.all_h fun _ => ?_ | refine Tr.lf_h ?_))
    all_goals (first | first | (show Region.lexB _ _ = true; kernel_rfl) | (show planned _ _ = true; kernel_rfl) | exact rfl | exact True.intro | ((try dsimp only [imp, C1, cBlk, cItm] at *); (try refine inR64 ?_ ?_) <;> (try simp only [List.length_set, List.length_append, List.length_take, List.length_drop]) <;> omega))
  · rename_i x hx hc
    exact V1.pre hx hL
  · rename_i x hx hc z hz b1
    exact (V1.go (p := 1) (bl := bl) hc hz).elim
  · rename_i x hx hc l hl b1
    exact (V1.bds hx hc hL).1
  · rename_i x hx hc l hl b1
    exact (V1.bds hx hc hL).2.1
  · rename_i y0 hy0 y1 hy1 y2 hy2 y3 hy3 hne x hx hc l hl b1
    exact lenN hc (Nat.le_trans hy0.2.1 hy0.2.2.1)
  · rename_i x hx hc l hl b1 g1
    exact (V1.bds hx hc hL).1
  · rename_i x hx hc l hl b1 g1
    exact (V1.bds hx hc hL).2.1
  · rename_i y0 hy0 y1 hy1 y2 hy2 y3 hy3 hne x hx hc l hl b1 g1
    exact lenN hc (Nat.le_trans hy3.2.2.2.1 hy3.2.2.2.2.1)
  · rename_i x hx hc l hl b1 g1
    exact (V1.bds hx hc hL).1
  · rename_i x hx hc l hl b1 g1
    exact (V1.bds hx hc hL).2.1
  · rename_i y0 hy0 y1 hy1 y2 hy2 y3 hy3 hne x hx hc l hl b1 g1
    exact lenN hc (Nat.le_trans hy0.2.1 hy0.2.2.1)
  · rename_i x hx hc l hl b1 g1
    exact (V1.bds hx hc hL).2.2.1
  · rename_i x hx hc l hl b1 g1
    exact (V1.bds hx hc hL).2.2.2.1
  · rename_i y0 hy0 y1 hy1 y2 hy2 y3 hy3 hne x hx hc l hl b1 g1
    have hmb := Nat.le_trans hy1.2.1 hy1.2.2.1
    have e1 := V1.same hN hx hl hy0.2.2.2.1 hy0.2.2.2.2
    have e2 := out_same hmb hy1.2.2.2 hy3.2.1 hy3.2.2 hy0.2.2.2.1 hy0.2.2.2.2 (lt_of hc)
    exact (yes_no g1 (no14 (sm_self e1) (sm_self e2) (cnt hl.1))).elim
  · rename_i x hx hc l hl b1 g1
    exact (V1.bds hx hc hL).2.2.2.2
  · rename_i x hx hc l hl b1 g1
    refine Stands.one ⟨l, x.c, x.i + 1, x.D ++ [at_ l (N - x.i - 1)]⟩ ⟨(V1.step hx hl).1, (V1.step hx hl).2, ?_⟩
    ((conv => (arg 1; reduce)); with_reducible repeat' (first | exact Tr.yes_h | refine Tr.and_h ?_ ?_ | refine Tr.imp_h fun _ => ?_ | refine Tr.all_h fun _ => ?_ | refine Tr.lf_h ?_))
    all_goals (first | first | (show Region.lexB _ _ = true; kernel_rfl) | (show planned _ _ = true; kernel_rfl) | exact rfl | exact True.intro | ((try dsimp only [imp, C1, cBlk, cItm] at *); (try refine inR64 ?_ ?_) <;> (try simp only [List.length_set, List.length_append, List.length_take, List.length_drop]) <;> omega))
  · rename_i x hx hc
    exact V1.pre hx hL
  · rename_i y0 hy0 y1 hy1 y2 hy2 y3 hy3 hne x hx hc z hz b1
    exact ⟨h0, Nat.le_trans hy1.2.1 hy1.2.2.1, by omega⟩
  · rename_i y0 hy0 y1 hy1 y2 hy2 y3 hy3 hne x hx hc z hz b1 e he b2
    exact ⟨Nat.le_trans hy1.2.1 hy1.2.2.1, by omega⟩
  · exact ⟨hN, by omega⟩
  · refine Stands.one (0 : Nat) ⟨Nat.zero_le _, ?_⟩
    ((conv => (arg 1; reduce)); with_reducible repeat' (first | exact Tr.yes_h | refine Tr.and_h ?_ ?_ | refine Tr.imp_h fun _ => ?_ | refine Tr.all_h fun _ => ?_ | refine Tr.lf_h ?_))
    all_goals (first | first | (show Region.lexB _ _ = true; kernel_rfl) | (show planned _ _ = true; kernel_rfl) | exact rfl | exact True.intro | ((try dsimp only [imp, C1, cBlk, cItm] at *); (try refine inR64 ?_ ?_) <;> (try simp only [List.length_set, List.length_append, List.length_take, List.length_drop]) <;> omega))
  · rename_i i hi hd
    exact (V2.bds hd hL).1
  · rename_i i hi hd
    exact (V2.bds hd hL).2.1
  · rename_i y0 hy0 y1 hy1 y2 hy2 y3 hy3 hne x hx hc z hz b1 e he b2 b3 b4 i hi hd
    exact lenN hd (Nat.le_trans hy1.2.1 hy1.2.2.1)
  · rename_i i hi hd
    exact (V2.bds hd hL).1
  · rename_i i hi hd
    exact (V2.bds hd hL).2.1
  · rename_i i hi hd
    exact lenN hd hN
  · rename_i y0 hy0 y1 hy1 y2 hy2 y3 hy3 hne x hx hc z hz b1 e he b2 b3 b4 i hi hd g1
    exact (yes_no g1 (no23 (sm_self (getB hy1.2.2.2 (lt_of hd))))).elim
  · rename_i i hi hd g1
    exact (V2.bds hd hL).2.2
  · rename_i i hi hd g1
    refine Stands.one (Nat.succ i) ⟨lt_of hd, dec (lt_of hd), ?_⟩
    ((conv => (arg 1; reduce)); with_reducible repeat' (first | exact Tr.yes_h | refine Tr.and_h ?_ ?_ | refine Tr.imp_h fun _ => ?_ | refine Tr.all_h fun _ => ?_ | refine Tr.lf_h ?_))
    all_goals (first | first | (show Region.lexB _ _ = true; kernel_rfl) | (show planned _ _ = true; kernel_rfl) | exact rfl | exact True.intro | ((try dsimp only [imp, C1, cBlk, cItm] at *); (try refine inR64 ?_ ?_) <;> (try simp only [List.length_set, List.length_append, List.length_take, List.length_drop]) <;> omega))
  · exact Int.le_refl 0
  · omega
  · rename_i y0 hy0 y1 hy1 y2 hy2 y3 hy3 hne x hx hc z hz b1 e he b2 b3 b4 i hi hd g1
    have := hy0.2.1
    have := hy0.2.2.1
    show 0 + 0 < y0.2.2.1.length
    omega
  · rename_i y0 hy0 y1 hy1 y2 hy2 y3 hy3 hne x hx hc z hz b1 e he b2 b3 b4 i hi hd g1
    exact ⟨Nat.le_trans hy1.2.1 hy1.2.2.1, by omega⟩
  · exact ⟨hN, by omega⟩
  · rename_i y0 hy0 y1 hy1 y2 hy2 y3 hy3 hne x hx hc z hz b1 e he b2 b3 b4 i hi hd
    have hmb := Nat.le_trans hy1.2.1 hy1.2.2.1
    have eM : y1.2.2.1.take N = bl.take N := hy1.2.2.2
    have eC : coldv (y1.2.2.1.take N) = coldv (bl.take N) := congrArg coldv eM
    have eH : e.1 = y0.2.2.1.getD 0 z0 := head_same h0 hN hmb eM he.2 hy0.2.2.2.1 hy0.2.2.2.2
    refine and_t (and_t (and_t (and_t ?_ ?_) ?_) ?_) ?_
    · show (true == decide ((0 : Int) < (N : Int))) = true
      rw [decide_eq_true (by omega)]
      rfl
    · exact sm_self eH
    · show ((coldv (y1.2.2.1.take N)).2 == (coldv (bl.take N)).2) = true
      rw [eC]
      exact beq_self_eq_true _
    · exact sm_self (congrArg Prod.fst eC)
    · exact decide_eq_true (by rw [eM])
  all_goals exact (V1.stop ‹(V1 1 bl N).inv _› (by assumption) (by assumption)).elim
set_option maxHeartbeats 8000000 in
theorem orders_S (b q : Nat) (bl : List Blk) (N m : Nat) (h0 : 0 < N) (hN : N ≤ bl.length) (fb fq : Nat) (fr : List Int) (F fm : Nat) (hF : F ≤ fr.length) : Tells (C := C1) Try.prog (.fn 4) [⟨b, q, 4, false, none, .rows 39 bl⟩, ⟨fb, fq, 1, false, none, .rows 3 fr⟩] [.sl 0 0 N m, .sl 1 0 F fm] (.bool .t) := by
  refine loc_pc (P := Try.prog) (E := ⟨[fcFirst, fcROrderS, fcMadeS, fcOfS, fcOrderS, fcNext, fcGreedyS], [pcSame, pcQLen, pcCold, pcRCold, pcGap, pcGapN, pcRGap, pcRGapN], 180, []⟩) (L := [V1 2 bl N, V2 N]) mix Try.func4 rfl (by kernel_rfl) (by kernel_rfl) rfl rfl ?_
  ((conv => (arg 1; reduce)); with_reducible repeat' (first | exact Tr.yes_h | refine Tr.and_h ?_ ?_ | refine Tr.imp_h fun _ => ?_ | refine Tr.all_h fun _ => ?_ | refine Tr.lf_h ?_))
  all_goals try first | (show Region.lexB _ _ = true; kernel_rfl) | (show planned _ _ = true; kernel_rfl) | exact rfl | exact True.intro
  all_goals have hL : N ≤ 100 := limN (by with_reducible assumption)
  · exact ⟨h0, hN, by omega⟩
  · exact ⟨h0, hN, by omega⟩
  · rename_i y1 hy1
    exact ⟨h0, Nat.le_trans hy1.2.1 hy1.2.2.1, by omega⟩
  · rename_i y1 hy1 y2 hy2
    exact ⟨h0, Nat.le_trans hy1.2.1 hy1.2.2.1, by omega⟩
  · rename_i hne
    exact absurd rfl (of_decide_eq_true hne)
  · rename_i y0 hy0 y1 hy1 y2 hy2 y3 hy3 hne
    refine Stands.one ⟨y2.2.2.2.2.2.2.1, y2.2.2.2.2.2.2.2, 0, []⟩ ⟨V1.start (l := []) (Nat.le_trans hy1.2.1 hy1.2.2.1) hy1.2.2.2 hy2.2, ?_⟩
    ((conv => (arg 1; reduce)); with_reducible repeat' (first | exact Tr.yes_h | refine Tr.and_h ?_ ?_ | refine Tr.imp_h fun _ => ?_ | refine Tr.all_h fun _ => ?_ | refine Tr.lf_h ?_))
    all_goals (first | first | (show Region.lexB _ _ = true; kernel_rfl) | (show planned _ _ = true; kernel_rfl) | exact rfl | exact True.intro | ((try dsimp only [imp, C1, cBlk, cItm] at *); (try refine inR64 ?_ ?_) <;> (try simp only [List.length_set, List.length_append, List.length_take, List.length_drop]) <;> omega))
  · rename_i x hx hc
    exact V1.pre hx hL
  · rename_i x hx hc z hz b1
    exact (V1.go (p := 2) (bl := bl) hc hz).elim
  · rename_i x hx hc l hl b1
    exact (V1.bds hx hc hL).1
  · rename_i x hx hc l hl b1
    exact (V1.bds hx hc hL).2.1
  · rename_i y0 hy0 y1 hy1 y2 hy2 y3 hy3 hne x hx hc l hl b1
    exact lenN hc (Nat.le_trans hy0.2.1 hy0.2.2.1)
  · rename_i x hx hc l hl b1 g1
    exact (V1.bds hx hc hL).1
  · rename_i x hx hc l hl b1 g1
    exact (V1.bds hx hc hL).2.1
  · rename_i y0 hy0 y1 hy1 y2 hy2 y3 hy3 hne x hx hc l hl b1 g1
    exact lenN hc (Nat.le_trans hy3.2.2.2.1 hy3.2.2.2.2.1)
  · rename_i x hx hc l hl b1 g1
    exact (V1.bds hx hc hL).1
  · rename_i x hx hc l hl b1 g1
    exact (V1.bds hx hc hL).2.1
  · rename_i y0 hy0 y1 hy1 y2 hy2 y3 hy3 hne x hx hc l hl b1 g1
    exact lenN hc (Nat.le_trans hy0.2.1 hy0.2.2.1)
  · rename_i x hx hc l hl b1 g1
    exact (V1.bds hx hc hL).2.2.1
  · rename_i x hx hc l hl b1 g1
    exact (V1.bds hx hc hL).2.2.2.1
  · rename_i y0 hy0 y1 hy1 y2 hy2 y3 hy3 hne x hx hc l hl b1 g1
    have hmb := Nat.le_trans hy1.2.1 hy1.2.2.1
    have e1 := V1.same hN hx hl hy0.2.2.2.1 hy0.2.2.2.2
    have e2 := out_same hmb hy1.2.2.2 hy3.2.1 hy3.2.2 hy0.2.2.2.1 hy0.2.2.2.2 (lt_of hc)
    exact (yes_no g1 (no14 (sm_self e1) (sm_self e2) (cnt hl.1))).elim
  · rename_i x hx hc l hl b1 g1
    exact (V1.bds hx hc hL).2.2.2.2
  · rename_i x hx hc l hl b1 g1
    refine Stands.one ⟨l, x.c, x.i + 1, x.D ++ [at_ l (N - x.i - 1)]⟩ ⟨(V1.step hx hl).1, (V1.step hx hl).2, ?_⟩
    ((conv => (arg 1; reduce)); with_reducible repeat' (first | exact Tr.yes_h | refine Tr.and_h ?_ ?_ | refine Tr.imp_h fun _ => ?_ | refine Tr.all_h fun _ => ?_ | refine Tr.lf_h ?_))
    all_goals (first | first | (show Region.lexB _ _ = true; kernel_rfl) | (show planned _ _ = true; kernel_rfl) | exact rfl | exact True.intro | ((try dsimp only [imp, C1, cBlk, cItm] at *); (try refine inR64 ?_ ?_) <;> (try simp only [List.length_set, List.length_append, List.length_take, List.length_drop]) <;> omega))
  · rename_i x hx hc
    exact V1.pre hx hL
  · rename_i y0 hy0 y1 hy1 y2 hy2 y3 hy3 hne x hx hc z hz b1
    exact ⟨h0, Nat.le_trans hy1.2.1 hy1.2.2.1, by omega⟩
  · rename_i y0 hy0 y1 hy1 y2 hy2 y3 hy3 hne x hx hc z hz b1 e he b2
    exact ⟨Nat.le_trans hy1.2.1 hy1.2.2.1, by omega⟩
  · exact ⟨hN, by omega⟩
  · refine Stands.one (0 : Nat) ⟨Nat.zero_le _, ?_⟩
    ((conv => (arg 1; reduce)); with_reducible repeat' (first | exact Tr.yes_h | refine Tr.and_h ?_ ?_ | refine Tr.imp_h fun _ => ?_ | refine Tr.all_h fun _ => ?_ | refine Tr.lf_h ?_))
    all_goals (first | first | (show Region.lexB _ _ = true; kernel_rfl) | (show planned _ _ = true; kernel_rfl) | exact rfl | exact True.intro | ((try dsimp only [imp, C1, cBlk, cItm] at *); (try refine inR64 ?_ ?_) <;> (try simp only [List.length_set, List.length_append, List.length_take, List.length_drop]) <;> omega))
  · rename_i i hi hd
    exact (V2.bds hd hL).1
  · rename_i i hi hd
    exact (V2.bds hd hL).2.1
  · rename_i y0 hy0 y1 hy1 y2 hy2 y3 hy3 hne x hx hc z hz b1 e he b2 b3 b4 i hi hd
    exact lenN hd (Nat.le_trans hy1.2.1 hy1.2.2.1)
  · rename_i i hi hd
    exact (V2.bds hd hL).1
  · rename_i i hi hd
    exact (V2.bds hd hL).2.1
  · rename_i i hi hd
    exact lenN hd hN
  · rename_i y0 hy0 y1 hy1 y2 hy2 y3 hy3 hne x hx hc z hz b1 e he b2 b3 b4 i hi hd g1
    exact (yes_no g1 (no23 (sm_self (getB hy1.2.2.2 (lt_of hd))))).elim
  · rename_i i hi hd g1
    exact (V2.bds hd hL).2.2
  · rename_i i hi hd g1
    refine Stands.one (Nat.succ i) ⟨lt_of hd, dec (lt_of hd), ?_⟩
    ((conv => (arg 1; reduce)); with_reducible repeat' (first | exact Tr.yes_h | refine Tr.and_h ?_ ?_ | refine Tr.imp_h fun _ => ?_ | refine Tr.all_h fun _ => ?_ | refine Tr.lf_h ?_))
    all_goals (first | first | (show Region.lexB _ _ = true; kernel_rfl) | (show planned _ _ = true; kernel_rfl) | exact rfl | exact True.intro | ((try dsimp only [imp, C1, cBlk, cItm] at *); (try refine inR64 ?_ ?_) <;> (try simp only [List.length_set, List.length_append, List.length_take, List.length_drop]) <;> omega))
  · exact Int.le_refl 0
  · omega
  · rename_i y0 hy0 y1 hy1 y2 hy2 y3 hy3 hne x hx hc z hz b1 e he b2 b3 b4 i hi hd g1
    have := hy0.2.1
    have := hy0.2.2.1
    show 0 + 0 < y0.2.2.1.length
    omega
  · rename_i y0 hy0 y1 hy1 y2 hy2 y3 hy3 hne x hx hc z hz b1 e he b2 b3 b4 i hi hd g1
    exact ⟨⟨Nat.le_trans hy1.2.1 hy1.2.2.1, by omega⟩, hF, limF (by with_reducible assumption)⟩
  · exact ⟨⟨hN, by omega⟩, hF, limF (by with_reducible assumption)⟩
  · rename_i y0 hy0 y1 hy1 y2 hy2 y3 hy3 hne x hx hc z hz b1 e he b2 b3 b4 i hi hd
    have hmb := Nat.le_trans hy1.2.1 hy1.2.2.1
    have eM : y1.2.2.1.take N = bl.take N := hy1.2.2.2
    have eC : coldv (y1.2.2.1.take N) = coldv (bl.take N) := congrArg coldv eM
    have eH : e.1 = y0.2.2.1.getD 0 z0 := head_same h0 hN hmb eM he.2 hy0.2.2.2.1 hy0.2.2.2.2
    refine and_t (and_t (and_t (and_t ?_ ?_) ?_) ?_) ?_
    · show (true == decide ((0 : Int) < (N : Int))) = true
      rw [decide_eq_true (by omega)]
      rfl
    · exact sm_self eH
    · show ((coldv (y1.2.2.1.take N)).2 == (coldv (bl.take N)).2) = true
      rw [eC]
      exact beq_self_eq_true _
    · exact sm_self (congrArg Prod.fst eC)
    · exact decide_eq_true (by rw [eM])
  all_goals exact (V1.stop ‹(V1 2 bl N).inv _› (by assumption) (by assumption)).elim
end Go.Vi
