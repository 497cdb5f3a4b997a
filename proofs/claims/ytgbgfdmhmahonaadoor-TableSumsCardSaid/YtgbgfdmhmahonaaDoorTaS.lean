/-
  Round 20: TableSums: its loops.
  Conditions: none.
-/
import Derived.Test.YtgbgfdmhmahonaaDoorTaR
set_option linter.unusedSectionVars false
set_option maxRecDepth 100000
set_option linter.unusedVariables false
set_option linter.unusedSimpArgs false
namespace Go.Vx
open Go Go.Proofs
variable [Gl]

abbrev Yt := Ks × Nat × Ps × Nat
theorem getL_ok (x : Tb) (k : Int) (h : Rep x) : Tells (C := C0) Tryd.prog (.fn 17) (tbr x) [.ptr 0 0 0, .int .i64 k] (.tup [.agg (slotE (lget (tl x) k)), .bool (.tm (lhas (tl x) k))]) := by
  rw [← h.khas, ← h.kget]; exact get_ok x k
def pcGetL : Pc Tryd.prog C0 where
  tg := .fn 17
  X := Tb × Int
  args := fun (x, k) => [.ptr 0 0 0, .int .i64 k]
  mem := fun (x, k) => tbr x
  pre := fun (x, k) => Rep x
  res := fun (x, k) => .tup [.agg (slotE (lget (tl x) k)), .bool (.tm (lhas (tl x) k))]
  mat vs m := match vs with
    | [.ptr p 0 0, .int _ k] => match tbOf m p with
      | some (x, l) => some ((x, k), l)
      | none => none
    | _ => none
  ok := fun (x, k) h => getL_ok x k h
abbrev kw (k : Ck C0) (y : Yt) : Ck C0 := ⟨k.block, k.base, k.sz, k.wr, k.gl, .mp 3 53 y.1 y.2.1⟩
abbrev pw (k : Ck C0) (y : Yt) : Ck C0 := ⟨k.block, k.base, k.sz, k.wr, k.gl, .mp 30 3 y.2.2.1 y.2.2.2⟩
abbrev rw' (k : Ck C0) (l : List Slot) : Ck C0 := ⟨k.block, k.base, k.sz, k.wr, k.gl, .rows 53 l⟩
/-- The first table's maps. -/
abbrev t1w (m : List (Ck C0)) (y : Yt) : List (Ck C0) := match m with
  | [a, b, t, k, p, u, k', p'] => [a, b, t, kw k y, pw p y, u, k', p']
  | [a, t, k, p, u, k', p'] => [a, t, kw k y, pw p y, u, k', p']
  | [t, k, p, u, k', p'] => [t, kw k y, pw p y, u, k', p']
  | m => m
abbrev t2w (m : List (Ck C0)) (y : Yt) : List (Ck C0) := match m with
  | [a, b, t, k, p, u, k', p'] => [a, b, t, k, p, u, kw k' y, pw p' y]
  | [a, t, k, p, u, k', p'] => [a, t, k, p, u, kw k' y, pw p' y]
  | [t, k, p, u, k', p'] => [t, k, p, u, kw k' y, pw p' y]
  | m => m
abbrev t3w (m : List (Ck C0)) (y y' : Yt) (l : List Slot) : List (Ck C0) := match m with
  | [a, b, t, k, p, u, k', p', r] => [a, b, t, kw k y, pw p y, u, kw k' y', pw p' y', rw' r l]
  | [a, t, k, p, u, k', p', r] => [a, t, kw k y, pw p y, u, kw k' y', pw p' y', rw' r l]
  | [t, k, p, u, k', p', r] => [t, kw k y, pw p y, u, kw k' y', pw p' y', rw' r l]
  | m => m
abbrev t4w (m : List (Ck C0)) (y y' : Yt) : List (Ck C0) := match m with
  | [a, b, t, k, p, u, k', p'] => [a, b, t, kw k y, pw p y, u, kw k' y', pw p' y']
  | [a, t, k, p, u, k', p'] => [a, t, kw k y, pw p y, u, kw k' y', pw p' y']
  | [t, k, p, u, k', p'] => [t, kw k y, pw p y, u, kw k' y', pw p' y']
  | m => m
structure Sm8 (s : Slot) : Prop where
  sm : Sm s
  b : s.pl.1 < 8
  p : s.pl.2 < 8
/-- A table of at most so many keys. -/
structure Tq (N : Nat) (y : Yt) : Prop where
  rep : Rep (tz y)
  sm : ∀ s ∈ tl (tz y), Sm8 s
  len : (tl (tz y)).length ≤ N
def T9 (N : Nat) : Inv' C0 := ⟨9, Nat × Yt, fun (i, y) => [(10, .int .i64 (i : Int))], fun (i, y) m => t1w m y, fun (i, y) => i ≤ N ∧ Tq i y, fun (i, _) => N - i⟩
def T13 (N : Nat) : Inv' C0 := ⟨13, Nat × Yt, fun (i, y) => [(11, .int .i64 (i : Int))], fun (i, y) m => t2w m y, fun (i, y) => i ≤ N ∧ Tq i y, fun (i, _) => N - i⟩
abbrev upto (b : Nat) (s : Slot) : Bool := decide (s.pl.1 < (b : Int))
def T18 : Inv' C0 := ⟨18, Nat × Yt, fun (b, y) => [(13, .int .i64 (b : Int)), (12, .int .i64 (((tl (tz y)).filter (upto b)).length : Int))], fun (b, y) m => t1w m y, fun (b, y) => b ≤ 8 ∧ Tq 100 y, fun (b, _) => 8 - b⟩
def T23 : Inv' C0 := ⟨23, Nat, fun i => [(15, .int .i64 (i : Int))], fun _ m => m, fun _ => True, fun i => 1000 - i⟩
structure Sy (i : Nat) (b : Bool) (y y' : Yt) (l : List Slot) : Prop where
  le : i ≤ l.length
  t : Tq 100 y
  u : Tq 100 y'
  el : l = srtK (tl (tz y))
  eb : b = (decide ((l.length : Int) = ((tl (tz y')).length : Int)) && (l.take i).all (good (tl (tz y'))))
def T30 (r : Nat) : Inv' C0 := ⟨30, Nat × Bool × Yt × Yt × List Slot × List Slot × Nat, fun (i, b, y, y', l, sp, cap) => [(19, .int .i64 (i : Int)), (18, .bool (.tm b)), (12, .int .i64 ((tl (tz y)).length : Int)), (14, .sl r 0 l.length cap)],
  fun (i, b, y, y', l, sp, cap) m => t3w m y y' (l ++ sp), fun (i, b, y, y', l, sp, cap) => Sy i b y y' l, fun (i, b, y, y', l, sp, cap) => l.length - i⟩
def T30n : Inv' C0 := ⟨30, Bool × Yt × Yt, fun (b, y, y') => [(19, .int .i64 0), (18, .bool (.tm b)), (12, .int .i64 ((tl (tz y)).length : Int)), (14, .nils)],
  fun (b, y, y') m => t4w m y y', fun (b, y, y') => Sy 0 b y y' [], fun _ => 0⟩
theorem two_len {n n' : Nat} (h : (decide (100 < (n : Int)) || (SB.tm (decide (100 < (n' : Int)))).val) = false) : n ≤ 100 ∧ n' ≤ 100 := by
  simp only [SB.val, Bool.or_eq_false_iff, decide_eq_false_iff_not] at h
  omega
theorem lset_len (l : List Slot) (s : Slot) : (lset l s).length ≤ l.length + 1 := by
  unfold lset ldel
  rw [List.length_append]
  have := List.length_filter_le (fun t : Slot => !decide (t.key = s.key)) l
  simp only [List.length_cons, List.length_nil]
  omega
theorem Tq.mono {i N : Nat} {y : Yt} (h : Tq i y) (hi : i ≤ N) : Tq N y := ⟨h.rep, h.sm, Nat.le_trans h.len hi⟩
theorem Tq.nil (N : Nat) : Tq N ([], 0, [], 0) := ⟨Rep.new .., (fun s h => by cases h), Nat.zero_le _⟩
theorem Tq.set {i : Nat} {y Y : Yt} (h : Tq i y) {x : Tb} (hb : x.bs = 8) (hp : x.ps = 8) (hk : x.kl = y.1) {k : Int} {p : Pl} {m : Me} (hf : Fits x k p) {x' : Tb} (hr : Rep x') (ht : tl x' = lset (tl x) ⟨k, p, m⟩) (e1 : x'.kl = Y.1) (e2 : x'.kc = Y.2.1) (e3 : x'.pl = Y.2.2.1) (e4 : x'.pc = Y.2.2.2) : Tq (i + 1) Y := by
  have et : tl (tz Y) = lset (tl (tz y)) ⟨k, p, m⟩ := by
    have a : tl (tz Y) = tl x' := congrArg (List.map (·.2.1)) e1.symm
    have b : tl x = tl (tz y) := congrArg (List.map (·.2.1)) hk
    rw [a, ht, b]
  refine ⟨hr.of e1.symm e2.symm e3.symm e4.symm, ?_, ?_⟩
  · rw [et]
    intro s hs
    rcases List.mem_append.1 hs with hs | hs
    · exact h.sm s (mem_ldel.1 hs).1
    · rw [List.mem_singleton.1 hs]
      obtain ⟨f1, f2, f3, f4, f5, f6⟩ := hf
      rw [hb] at f4; rw [hp] at f6
      exact ⟨⟨f1, f2, f3, Int.lt_trans f4 (by decide), f5, Int.lt_trans f6 (by decide)⟩, f4, f6⟩
  · rw [et]
    exact Nat.le_trans (lset_len _ _) (Nat.succ_le_succ h.len)
theorem Tq.tok {N : Nat} {y : Yt} (h : Tq N y) (hN : N < 1048576) {x : Tb} (e1 : x.kl = y.1) (e2 : x.kc = y.2.1) (e3 : x.pl = y.2.2.1) (e4 : x.pc = y.2.2.2) : Tok x := by
  refine ⟨h.rep.of e1 e2 e3 e4, ?_, ?_⟩
  · intro s hs
    have : tl x = tl (tz y) := congrArg (List.map (·.2.1)) e1
    rw [this] at hs
    exact (h.sm s hs).sm
  · have := h.len
    have e : (tl (tz y)).length = y.1.length := List.length_map _
    rw [e] at this
    rw [e1]; omega
theorem Tq.upto0 {N : Nat} {y : Yt} (h : Tq N y) : (tl (tz y)).filter (upto 0) = [] := by
  rw [List.filter_eq_nil_iff]
  intro s hs
  have := (h.sm s hs).sm.b0
  simp [upto]; omega
theorem Tq.upto8 {N : Nat} {y : Yt} (h : Tq N y) : (tl (tz y)).filter (upto 8) = tl (tz y) := by
  rw [List.filter_eq_self]
  intro s hs
  have := (h.sm s hs).b
  simp [upto]; omega
theorem upto_succ (b : Nat) : ∀ (L : List Slot), (L.filter (upto (b + 1))).length = (L.filter (upto b)).length + (L.filter (inBlk (b : Int))).length
  | [] => rfl
  | s :: L => by
    have ih := upto_succ b L
    simp only [List.filter_cons, upto, inBlk] at ih ⊢
    by_cases h1 : s.pl.1 < (b : Int)
    · have h2 : s.pl.1 < ((b + 1 : Nat) : Int) := by omega
      have h3 : ¬ s.pl.1 = (b : Int) := by omega
      simp only [decide_eq_true h1, decide_eq_true h2, decide_eq_false h3, if_true, Bool.false_eq_true, if_false, List.length_cons]
      omega
    · by_cases h3 : s.pl.1 = (b : Int)
      · have h2 : s.pl.1 < ((b + 1 : Nat) : Int) := by omega
        simp only [decide_eq_false h1, decide_eq_true h2, decide_eq_true h3, if_true, Bool.false_eq_true, if_false, List.length_cons]
        omega
      · have h2 : ¬ s.pl.1 < ((b + 1 : Nat) : Int) := by omega
        simp only [decide_eq_false h1, decide_eq_false h2, decide_eq_false h3, Bool.false_eq_true, if_false]
        omega
theorem upto_int (b : Nat) (L : List Slot) : ((L.filter (upto b)).length : Int) + ((L.filter (inBlk (b : Int))).length : Int) = ((L.filter (upto (b + 1))).length : Int) := by
  rw [upto_succ]; simp
theorem cnt_le (p : Slot → Bool) (L : List Slot) {N : Nat} (h : L.length ≤ N) : ((L.filter p).length : Int) ≤ N := by
  have := List.length_filter_le p L
  omega
theorem cnt_sum {y : Yt} (h : Tq 100 y) (p q : Slot → Bool) : inR .i64 ((((tl (tz y)).filter p).length : Int) + (((tl (tz y)).filter q).length : Int)) := by
  have h1 := cnt_le p _ h.len
  have h2 := cnt_le q _ h.len
  exact inR64 (by omega) (by omega)
theorem app_getD {l sp : List Slot} {i : Nat} (h : i < l.length) : (l ++ sp).getD ((i : Int).toNat + 0) slot0 = l.getD i slot0 := by
  simp [List.getD, List.getElem?_append, h]
/-- A round of the look at all that a table has. -/
theorem all_at {L l sp : List Slot} (hL : Lok L) (hs : Srt leKey L l) {i : Nat} (hi : i < l.length) :
    ((!lat L (((l ++ sp).getD ((i : Int).toNat + 0) slot0).pl.1, ((l ++ sp).getD ((i : Int).toNat + 0) slot0).pl.2) || (SB.tm (decide (lwho L (((l ++ sp).getD ((i : Int).toNat + 0) slot0).pl.1, ((l ++ sp).getD ((i : Int).toNat + 0) slot0).pl.2) ≠ ((l ++ sp).getD ((i : Int).toNat + 0) slot0).key))).val ||
      (SB.tm (decide (0 < (i : Int)) && (SB.tm (decide (lwho L (((l ++ sp).getD ((i : Int).toNat + 0) slot0).pl.1, ((l ++ sp).getD ((i : Int).toNat + 0) slot0).pl.2) ≤ ((l ++ sp).getD (((i : Int) - 1).toNat + 0) slot0).key))).val)).val) = true) → False := by
  rw [app_getD hi]
  have hm : l.getD i slot0 ∈ L := hs.perm.mem_iff.1 (getD_mem hi)
  have h1 : lat L (l.getD i slot0).pl = true := lat_iff.2 ⟨_, hm, rfl⟩
  have h2 : lwho L (l.getD i slot0).pl = (l.getD i slot0).key := hL.who hm
  show ((!lat L (l.getD i slot0).pl || _ || _) = true) → False
  intro h
  have h : (!lat L (l.getD i slot0).pl || decide (lwho L (l.getD i slot0).pl ≠ (l.getD i slot0).key) || (decide (0 < (i : Int)) && decide (lwho L (l.getD i slot0).pl ≤ ((l ++ sp).getD (((i : Int) - 1).toNat + 0) slot0).key))) = true := h
  rw [h1, h2] at h
  simp only [Bool.not_true, ne_eq, not_true_eq_false, decide_false, Bool.or_self, Bool.false_or, Bool.and_eq_true, decide_eq_true_eq] at h
  obtain ⟨h3, h4⟩ := h
  have e : ((i : Int) - 1).toNat + 0 = ((i - 1 : Nat) : Int).toNat + 0 := by omega
  rw [e, app_getD (by omega)] at h4
  have ho := List.pairwise_iff_getElem.1 hs.ord (i - 1) i (by omega) hi (by omega)
  have nd : (l.map (·.key)).Nodup := (hs.perm.map _).symm.nodup hL.nk
  have e1 : l.getD i slot0 = l[i] := by simp [List.getD, hi]
  have e2 : l.getD (i - 1) slot0 = l[i - 1] := by simp [List.getD, show i - 1 < l.length by omega]
  rw [e1, e2] at h4
  have ek : l[i].key = l[i - 1].key := Int.le_antisymm h4 ho
  have := (List.pairwise_iff_getElem.1 nd) (i - 1) i (by simpa using (by omega : i - 1 < l.length)) (by simpa using hi) (by omega)
  simp only [List.getElem_map] at this
  exact this ek.symm
theorem Sy.fin {i : Nat} {b : Bool} {y y' : Yt} {l : List Slot} (h : Sy i b y y' l) (hc : (decide ((i : Int) < (l.length : Int)) && (SB.tm b).val) = false) : b = sameL (tl (tz y)) (tl (tz y')) := by
  have hg := same_good h.t.rep.ok h.u.rep.ok
  have e : sameL (tl (tz y)) (tl (tz y')) = (decide ((l.length : Int) = ((tl (tz y')).length : Int)) && l.all (good (tl (tz y')))) := by
    rw [h.el]; exact hg
  rw [e]
  have hb := h.eb
  cases b with
  | true =>
    have hi : l.length ≤ i := by
      simp only [SB.val, Bool.and_true, decide_eq_false_iff_not] at hc
      omega
    rw [List.take_of_length_le hi] at hb
    exact hb
  | false =>
    cases hd : decide ((l.length : Int) = ((tl (tz y')).length : Int)) with
    | false => rfl
    | true =>
      rw [hd, Bool.true_and] at hb
      rw [Bool.true_and]
      cases ha : l.all (good (tl (tz y'))) with
      | false => rfl
      | true =>
        have : (l.take i).all (good (tl (tz y'))) = true := by
          rw [List.all_eq_true] at ha ⊢
          exact fun s hs => ha s (List.mem_of_mem_take hs)
        rw [this] at hb; cases hb
theorem Sy.last {i : Nat} {b : Bool} {y y' : Yt} {l : List Slot} (h : Sy i b y y' l) (hc : (decide ((i : Int) < (l.length : Int)) && (SB.tm b).val) = false) {L M : List Slot} (hL : L = tl (tz y)) (hM : M = tl (tz y')) :
    (SB.tm (decide (((tl (tz y)).length : Int) = (L.length : Int)) && (SB.tm ((SB.tm (sameL L M)).val == (SB.tm b).val)).val && (SB.tm ((SB.tm (sameL M L)).val == (SB.tm b).val)).val)).val = true := by
  have e := h.fin hc
  subst hL hM
  simp only [SB.val]
  rw [show sameL (tl (tz y')) (tl (tz y)) = sameL (tl (tz y)) (tl (tz y')) from sameB_comm _ _, ← e]
  simp
theorem Sy.next {i : Nat} {b : Bool} {y y' : Yt} {l sp : List Slot} (h : Sy i b y y' l) (hc : (decide ((i : Int) < (l.length : Int)) && (SB.tm b).val) = true) : Sy (i + 1) (good (tl (tz y')) ((l ++ sp).getD ((i : Int).toNat + 0) slot0)) y y' l := by
  simp only [SB.val, Bool.and_eq_true, decide_eq_true_eq] at hc
  obtain ⟨hi, hb⟩ := hc
  have hi : i < l.length := by omega
  have hb' := h.eb
  rw [hb] at hb'
  have hb' := hb'.symm
  simp only [Bool.and_eq_true] at hb'
  refine ⟨hi, h.t, h.u, h.el, ?_⟩
  rw [app_getD hi, hb'.1, Bool.true_and, take_add hi, List.all_append, hb'.2]
  simp
theorem Sy.lt {i : Nat} {b : Bool} {l : List Slot} (hc : (decide ((i : Int) < (l.length : Int)) && (SB.tm b).val) = true) : i < l.length := by
  simp only [SB.val, Bool.and_eq_true, decide_eq_true_eq] at hc
  omega
theorem inR_nat {i : Nat} {N : Nat} (h : i ≤ N) (hN : N < 1048576) (d : Int) (h1 : -5 ≤ d) (h2 : d ≤ 5) : inR .i64 ((i : Int) + d) := inR64 (by omega) (by omega)
set_option maxHeartbeats 32000000 in
theorem sums_ok (b q : Nat) (l : List Do) (n c b' q' : Nat) (l' : List Do) (n' c' : Nat) (hl : n ≤ l.length) (hl' : n' ≤ l'.length) :
    Tells (C := C0) Tryd.prog (.fn 5) [⟨b, q, 10, false, none, .rows 48 l⟩, ⟨b', q', 10, false, none, .rows 48 l'⟩] [.sl 0 0 n c, .sl 1 0 n' c'] (.bool .t) := by
  refine loc_pc (P := Tryd.prog) (E := ⟨[fcNewOk, fcSet3, fcAll], [pcFirst, pcSamePlace, pcAtL, pcLenL, pcLive, pcGetL, pcSame1, pcSame2], 238, [(11, [0], [.p 0, .p 1, .p 2, .p 3, .p 4, .p 5, .p 6, .p 7, .p 8, .p 9, .p 10, .p 11, .p 12, .p 13, .p 14, .p 15, .e 16]),
    (15, [1], [.p 0, .p 1, .p 2, .p 3, .p 4, .p 5, .p 6, .p 7, .p 8, .p 9, .p 10, .p 11, .p 12, .p 13, .p 14, .p 15, .e 16])]⟩) (L := [T9 n, T13 n', T18, T23, T30 8, T30n]) mix Tryd.func5 rfl (by kernel_rfl) (by kernel_rfl) rfl rfl ?_
  ((conv => (arg 1; reduce)); with_reducible repeat' (first | exact Tr.yes_h | refine Tr.and_h ?_ ?_ | refine Tr.imp_h fun _ => ?_ | refine Tr.all_h fun _ => ?_ | refine Tr.lf_h ?_))
  all_goals try (first | first | (show Region.lexB _ _ = true; kernel_rfl) | (show planned _ _ = true; kernel_rfl) | exact rfl | exact True.intro | (first | exact key3 | exact key30 | exact zero3 | exact zero53 | exact eq30 | exact ⟨key3, zero53⟩ | exact ⟨key30, zero3⟩) | ((try dsimp only [imp, C0, cG, cInt, cPl, cSlot, cDo] at *); (try refine inR64 ?_ ?_) <;> (try simp only [List.length_set, List.length_append, List.length_take, List.length_drop]) <;> omega))
  · rename_i h0
    exact (by decide : 1 ≤ (8 : Int) ∧ (8 : Int) ≤ 64 ∧ 1 ≤ (8 : Int) ∧ (8 : Int) ≤ 64)
  · rename_i h0 Y0 p0
    exact (by decide : 1 ≤ (8 : Int) ∧ (8 : Int) ≤ 64 ∧ 1 ≤ (8 : Int) ∧ (8 : Int) ≤ 64)
  · rename_i h0 Y0 p0 Y1 p1
    refine Stands.one (0, ([], 0, [], 0)) ⟨⟨Nat.zero_le _, Tq.nil 0⟩, ?_⟩
    ((conv => (arg 1; reduce)); with_reducible repeat' (first | exact Tr.yes_h | refine Tr.and_h ?_ ?_ | refine Tr.imp_h fun _ => ?_ | refine Tr.all_h fun _ => ?_ | refine Tr.lf_h ?_))
    all_goals (first | first | (show Region.lexB _ _ = true; kernel_rfl) | (show planned _ _ = true; kernel_rfl) | exact rfl | exact True.intro | (first | exact key3 | exact key30 | exact zero3 | exact zero53 | exact eq30 | exact ⟨key3, zero53⟩ | exact ⟨key30, zero3⟩) | ((try dsimp only [imp, C0, cG, cInt, cPl, cSlot, cDo] at *); (try refine inR64 ?_ ?_) <;> (try simp only [List.length_set, List.length_append, List.length_take, List.length_drop]) <;> omega))
  · rename_i h0 Y0 p0 Y1 p1 v0 hv0 h1
    exact of_decide_eq_true h1
  · rename_i h0 Y0 p0 Y1 p1 v0 hv0 h1
    obtain ⟨i, y⟩ := v0
    have h' : decide ((i : Int) < (n : Int)) = true := h1
    have h' := of_decide_eq_true h'
    have hN := two_len h0
    show (i : Int).toNat + 0 < l.length
    omega
  · rename_i h0 Y0 p0 Y1 p1 v0 hv0 h1
    exact of_decide_eq_true h1
  · rename_i h0 Y0 p0 Y1 p1 v0 hv0 h1
    obtain ⟨i, y⟩ := v0
    have h' : decide ((i : Int) < (n : Int)) = true := h1
    have h' := of_decide_eq_true h'
    have hN := two_len h0
    show (i : Int).toNat + 0 < l.length
    omega
  · rename_i h0 Y0 p0 Y1 p1 v0 hv0 h1
    exact of_decide_eq_true h1
  · rename_i h0 Y0 p0 Y1 p1 v0 hv0 h1
    obtain ⟨i, y⟩ := v0
    have h' : decide ((i : Int) < (n : Int)) = true := h1
    have h' := of_decide_eq_true h'
    have hN := two_len h0
    show (i : Int).toNat + 0 < l.length
    omega
  · rename_i h0 Y0 p0 Y1 p1 v0 hv0 h1
    exact hv0.2.rep.of rfl rfl rfl rfl
  · rename_i h0 Y0 p0 Y1 p1 v0 hv0 h1 Y2 p2
    obtain ⟨i, y⟩ := v0
    have h' : decide ((i : Int) < (n : Int)) = true := h1
    have h' := of_decide_eq_true h'
    have hN := two_len h0
    exact inR_nat (N := 100) (i := i) (by omega) (by decide) 1 (by decide) (by decide)
  · rename_i h0 Y0 p0 Y1 p1 v0 hv0 h1 Y2 p2
    obtain ⟨i, y⟩ := v0
    have h' : decide ((i : Int) < (n : Int)) = true := h1
    have h' := of_decide_eq_true h'
    have hN := two_len h0
    refine Stands.one (Nat.succ i, Y2) ⟨⟨by omega, hv0.2.set rfl rfl rfl p2.1.1 p2.2.1 p2.2.2 rfl rfl rfl rfl⟩, ?_, ?_⟩
    · show n - (i + 1) < n - i
      omega
    ((conv => (arg 1; reduce)); with_reducible repeat' (first | exact Tr.yes_h | refine Tr.and_h ?_ ?_ | refine Tr.imp_h fun _ => ?_ | refine Tr.all_h fun _ => ?_ | refine Tr.lf_h ?_))
    all_goals (first | first | (show Region.lexB _ _ = true; kernel_rfl) | (show planned _ _ = true; kernel_rfl) | exact rfl | exact True.intro | (first | exact key3 | exact key30 | exact zero3 | exact zero53 | exact eq30 | exact ⟨key3, zero53⟩ | exact ⟨key30, zero3⟩) | ((try dsimp only [imp, C0, cG, cInt, cPl, cSlot, cDo] at *); (try refine inR64 ?_ ?_) <;> (try simp only [List.length_set, List.length_append, List.length_take, List.length_drop]) <;> omega))
  · rename_i h0 Y0 p0 Y1 p1 v0 hv0 h1 Y2 p2
    obtain ⟨i, y⟩ := v0
    have h' : decide ((i : Int) < (n : Int)) = true := h1
    have h' := of_decide_eq_true h'
    have hN := two_len h0
    exact inR_nat (N := 100) (i := i) (by omega) (by decide) 1 (by decide) (by decide)
  · rename_i h0 Y0 p0 Y1 p1 v0 hv0 h1 Y2 p2
    obtain ⟨i, y⟩ := v0
    have h' : decide ((i : Int) < (n : Int)) = true := h1
    have h' := of_decide_eq_true h'
    have hN := two_len h0
    refine Stands.one (Nat.succ i, y) ⟨⟨by omega, hv0.2.mono (Nat.le_succ _)⟩, ?_, ?_⟩
    · show n - (i + 1) < n - i
      omega
    ((conv => (arg 1; reduce)); with_reducible repeat' (first | exact Tr.yes_h | refine Tr.and_h ?_ ?_ | refine Tr.imp_h fun _ => ?_ | refine Tr.all_h fun _ => ?_ | refine Tr.lf_h ?_))
    all_goals (first | first | (show Region.lexB _ _ = true; kernel_rfl) | (show planned _ _ = true; kernel_rfl) | exact rfl | exact True.intro | (first | exact key3 | exact key30 | exact zero3 | exact zero53 | exact eq30 | exact ⟨key3, zero53⟩ | exact ⟨key30, zero3⟩) | ((try dsimp only [imp, C0, cG, cInt, cPl, cSlot, cDo] at *); (try refine inR64 ?_ ?_) <;> (try simp only [List.length_set, List.length_append, List.length_take, List.length_drop]) <;> omega))
  · rename_i h0 Y0 p0 Y1 p1 v0 hv0 h1 Y2 p2
    obtain ⟨i, y⟩ := v0
    have h' : decide ((i : Int) < (n : Int)) = true := h1
    have h' := of_decide_eq_true h'
    have hN := two_len h0
    exact inR_nat (N := 100) (i := i) (by omega) (by decide) 1 (by decide) (by decide)
  · rename_i h0 Y0 p0 Y1 p1 v0 hv0 h1 Y2 p2
    obtain ⟨i, y⟩ := v0
    have h' : decide ((i : Int) < (n : Int)) = true := h1
    have h' := of_decide_eq_true h'
    have hN := two_len h0
    refine Stands.one (Nat.succ i, y) ⟨⟨by omega, hv0.2.mono (Nat.le_succ _)⟩, ?_, ?_⟩
    · show n - (i + 1) < n - i
      omega
    ((conv => (arg 1; reduce)); with_reducible repeat' (first | exact Tr.yes_h | refine Tr.and_h ?_ ?_ | refine Tr.imp_h fun _ => ?_ | refine Tr.all_h fun _ => ?_ | refine Tr.lf_h ?_))
    all_goals (first | first | (show Region.lexB _ _ = true; kernel_rfl) | (show planned _ _ = true; kernel_rfl) | exact rfl | exact True.intro | (first | exact key3 | exact key30 | exact zero3 | exact zero53 | exact eq30 | exact ⟨key3, zero53⟩ | exact ⟨key30, zero3⟩) | ((try dsimp only [imp, C0, cG, cInt, cPl, cSlot, cDo] at *); (try refine inR64 ?_ ?_) <;> (try simp only [List.length_set, List.length_append, List.length_take, List.length_drop]) <;> omega))
  · rename_i h0 Y0 p0 Y1 p1 v0 hv0 h1
    refine Stands.one (0, ([], 0, [], 0)) ⟨⟨Nat.zero_le _, Tq.nil 0⟩, ?_⟩
    ((conv => (arg 1; reduce)); with_reducible repeat' (first | exact Tr.yes_h | refine Tr.and_h ?_ ?_ | refine Tr.imp_h fun _ => ?_ | refine Tr.all_h fun _ => ?_ | refine Tr.lf_h ?_))
    all_goals (first | first | (show Region.lexB _ _ = true; kernel_rfl) | (show planned _ _ = true; kernel_rfl) | exact rfl | exact True.intro | (first | exact key3 | exact key30 | exact zero3 | exact zero53 | exact eq30 | exact ⟨key3, zero53⟩ | exact ⟨key30, zero3⟩) | ((try dsimp only [imp, C0, cG, cInt, cPl, cSlot, cDo] at *); (try refine inR64 ?_ ?_) <;> (try simp only [List.length_set, List.length_append, List.length_take, List.length_drop]) <;> omega))
  · rename_i h0 Y0 p0 Y1 p1 v0 hv0 h1 v1 hv1 h2
    exact of_decide_eq_true h2
  · rename_i h0 Y0 p0 Y1 p1 v0 hv0 h1 v1 hv1 h2
    obtain ⟨i, y⟩ := v1
    have h' : decide ((i : Int) < (n' : Int)) = true := h2
    have h' := of_decide_eq_true h'
    have hN := two_len h0
    show (i : Int).toNat + 0 < l'.length
    omega
  · rename_i h0 Y0 p0 Y1 p1 v0 hv0 h1 v1 hv1 h2
    exact of_decide_eq_true h2
  · rename_i h0 Y0 p0 Y1 p1 v0 hv0 h1 v1 hv1 h2
    obtain ⟨i, y⟩ := v1
    have h' : decide ((i : Int) < (n' : Int)) = true := h2
    have h' := of_decide_eq_true h'
    have hN := two_len h0
    show (i : Int).toNat + 0 < l'.length
    omega
  · rename_i h0 Y0 p0 Y1 p1 v0 hv0 h1 v1 hv1 h2
    exact of_decide_eq_true h2
  · rename_i h0 Y0 p0 Y1 p1 v0 hv0 h1 v1 hv1 h2
    obtain ⟨i, y⟩ := v1
    have h' : decide ((i : Int) < (n' : Int)) = true := h2
    have h' := of_decide_eq_true h'
    have hN := two_len h0
    show (i : Int).toNat + 0 < l'.length
    omega
  · rename_i h0 Y0 p0 Y1 p1 v0 hv0 h1 v1 hv1 h2
    exact hv1.2.rep.of rfl rfl rfl rfl
  · rename_i h0 Y0 p0 Y1 p1 v0 hv0 h1 v1 hv1 h2 Y2 p2
    obtain ⟨i, y⟩ := v1
    have h' : decide ((i : Int) < (n' : Int)) = true := h2
    have h' := of_decide_eq_true h'
    have hN := two_len h0
    exact inR_nat (N := 100) (i := i) (by omega) (by decide) 1 (by decide) (by decide)
  · rename_i h0 Y0 p0 Y1 p1 v0 hv0 h1 v1 hv1 h2 Y2 p2
    obtain ⟨i, y⟩ := v1
    have h' : decide ((i : Int) < (n' : Int)) = true := h2
    have h' := of_decide_eq_true h'
    have hN := two_len h0
    refine Stands.one (Nat.succ i, Y2) ⟨⟨by omega, hv1.2.set rfl rfl rfl p2.1.1 p2.2.1 p2.2.2 rfl rfl rfl rfl⟩, ?_, ?_⟩
    · show n' - (i + 1) < n' - i
      omega
    ((conv => (arg 1; reduce)); with_reducible repeat' (first | exact Tr.yes_h | refine Tr.and_h ?_ ?_ | refine Tr.imp_h fun _ => ?_ | refine Tr.all_h fun _ => ?_ | refine Tr.lf_h ?_))
    all_goals (first | first | (show Region.lexB _ _ = true; kernel_rfl) | (show planned _ _ = true; kernel_rfl) | exact rfl | exact True.intro | (first | exact key3 | exact key30 | exact zero3 | exact zero53 | exact eq30 | exact ⟨key3, zero53⟩ | exact ⟨key30, zero3⟩) | ((try dsimp only [imp, C0, cG, cInt, cPl, cSlot, cDo] at *); (try refine inR64 ?_ ?_) <;> (try simp only [List.length_set, List.length_append, List.length_take, List.length_drop]) <;> omega))
  · rename_i h0 Y0 p0 Y1 p1 v0 hv0 h1 v1 hv1 h2 Y2 p2
    obtain ⟨i, y⟩ := v1
    have h' : decide ((i : Int) < (n' : Int)) = true := h2
    have h' := of_decide_eq_true h'
    have hN := two_len h0
    exact inR_nat (N := 100) (i := i) (by omega) (by decide) 1 (by decide) (by decide)
  · rename_i h0 Y0 p0 Y1 p1 v0 hv0 h1 v1 hv1 h2 Y2 p2
    obtain ⟨i, y⟩ := v1
    have h' : decide ((i : Int) < (n' : Int)) = true := h2
    have h' := of_decide_eq_true h'
    have hN := two_len h0
    refine Stands.one (Nat.succ i, y) ⟨⟨by omega, hv1.2.mono (Nat.le_succ _)⟩, ?_, ?_⟩
    · show n' - (i + 1) < n' - i
      omega
    ((conv => (arg 1; reduce)); with_reducible repeat' (first | exact Tr.yes_h | refine Tr.and_h ?_ ?_ | refine Tr.imp_h fun _ => ?_ | refine Tr.all_h fun _ => ?_ | refine Tr.lf_h ?_))
    all_goals (first | first | (show Region.lexB _ _ = true; kernel_rfl) | (show planned _ _ = true; kernel_rfl) | exact rfl | exact True.intro | (first | exact key3 | exact key30 | exact zero3 | exact zero53 | exact eq30 | exact ⟨key3, zero53⟩ | exact ⟨key30, zero3⟩) | ((try dsimp only [imp, C0, cG, cInt, cPl, cSlot, cDo] at *); (try refine inR64 ?_ ?_) <;> (try simp only [List.length_set, List.length_append, List.length_take, List.length_drop]) <;> omega))
  · rename_i h0 Y0 p0 Y1 p1 v0 hv0 h1 v1 hv1 h2 Y2 p2
    obtain ⟨i, y⟩ := v1
    have h' : decide ((i : Int) < (n' : Int)) = true := h2
    have h' := of_decide_eq_true h'
    have hN := two_len h0
    exact inR_nat (N := 100) (i := i) (by omega) (by decide) 1 (by decide) (by decide)
  · rename_i h0 Y0 p0 Y1 p1 v0 hv0 h1 v1 hv1 h2 Y2 p2
    obtain ⟨i, y⟩ := v1
    have h' : decide ((i : Int) < (n' : Int)) = true := h2
    have h' := of_decide_eq_true h'
    have hN := two_len h0
    refine Stands.one (Nat.succ i, y) ⟨⟨by omega, hv1.2.mono (Nat.le_succ _)⟩, ?_, ?_⟩
    · show n' - (i + 1) < n' - i
      omega
    ((conv => (arg 1; reduce)); with_reducible repeat' (first | exact Tr.yes_h | refine Tr.and_h ?_ ?_ | refine Tr.imp_h fun _ => ?_ | refine Tr.all_h fun _ => ?_ | refine Tr.lf_h ?_))
    all_goals (first | first | (show Region.lexB _ _ = true; kernel_rfl) | (show planned _ _ = true; kernel_rfl) | exact rfl | exact True.intro | (first | exact key3 | exact key30 | exact zero3 | exact zero53 | exact eq30 | exact ⟨key3, zero53⟩ | exact ⟨key30, zero3⟩) | ((try dsimp only [imp, C0, cG, cInt, cPl, cSlot, cDo] at *); (try refine inR64 ?_ ?_) <;> (try simp only [List.length_set, List.length_append, List.length_take, List.length_drop]) <;> omega))
  · rename_i h0 Y0 p0 Y1 p1 v0 hv0 h1 v1 hv1 h2
    obtain ⟨i0, y0⟩ := v0
    have hN := two_len h0
    have hq : Tq 100 y0 := hv0.2.mono (Nat.le_trans hv0.1 hN.1)
    have e := hq.upto0
    refine Stands.one (0, y0) ⟨⟨Nat.zero_le _, hq⟩, ?_⟩
    ((conv => (arg 1; reduce)); with_reducible repeat' (first | exact Tr.yes_h | refine Tr.and_h ?_ ?_ | refine Tr.imp_h fun _ => ?_ | refine Tr.all_h fun _ => ?_ | refine Tr.lf_h ?_))
    all_goals first | (first | first | (show Region.lexB _ _ = true; kernel_rfl) | (show planned _ _ = true; kernel_rfl) | exact rfl | exact True.intro | (first | exact key3 | exact key30 | exact zero3 | exact zero53 | exact eq30 | exact ⟨key3, zero53⟩ | exact ⟨key30, zero3⟩) | ((try dsimp only [imp, C0, cG, cInt, cPl, cSlot, cDo] at *); (try refine inR64 ?_ ?_) <;> (try simp only [List.length_set, List.length_append, List.length_take, List.length_drop]) <;> omega)) | (rw [e]; rfl)
  · rename_i h0 Y0 p0 Y1 p1 v0 hv0 h1 v1 hv1 h2 v2 hv2 h3
    exact hv2.2.tok (by decide) rfl rfl rfl rfl
  · rename_i h0 Y0 p0 Y1 p1 v0 hv0 h1 v1 hv1 h2 v2 hv2 h3
    obtain ⟨b, y⟩ := v2
    exact cnt_sum hv2.2 (upto b) (inBlk (b : Int))
  · rename_i h0 Y0 p0 Y1 p1 v0 hv0 h1 v1 hv1 h2 v2 hv2 h3
    obtain ⟨b, y⟩ := v2
    have h3' : decide ((b : Int) < 8) = true := h3
    have h3' := of_decide_eq_true h3'
    exact inR_nat (N := 100) (i := b) (by omega) (by decide) 1 (by decide) (by decide)
  · rename_i h0 Y0 p0 Y1 p1 v0 hv0 h1 v1 hv1 h2 v2 hv2 h3
    obtain ⟨b, y⟩ := v2
    have h3' : decide ((b : Int) < 8) = true := h3
    have h3' := of_decide_eq_true h3'
    refine Stands.one (Nat.succ b, y) ⟨⟨by omega, hv2.2⟩, ?_, ?_⟩
    · show 8 - (b + 1) < 8 - b
      omega
    ((conv => (arg 1; reduce)); with_reducible repeat' (first | exact Tr.yes_h | refine Tr.and_h ?_ ?_ | refine Tr.imp_h fun _ => ?_ | refine Tr.all_h fun _ => ?_ | refine Tr.lf_h ?_))
    all_goals first | (first | first | (show Region.lexB _ _ = true; kernel_rfl) | (show planned _ _ = true; kernel_rfl) | exact rfl | exact True.intro | (first | exact key3 | exact key30 | exact zero3 | exact zero53 | exact eq30 | exact ⟨key3, zero53⟩ | exact ⟨key30, zero3⟩) | ((try dsimp only [imp, C0, cG, cInt, cPl, cSlot, cDo] at *); (try refine inR64 ?_ ?_) <;> (try simp only [List.length_set, List.length_append, List.length_take, List.length_drop]) <;> omega)) | exact upto_int b _ | exact (upto_int b _).symm
  · rename_i h0 Y0 p0 Y1 p1 v0 hv0 h1 v1 hv1 h2 v2 hv2 h3
    exact hv2.2.tok (by decide) rfl rfl rfl rfl
  · rename_i h0 Y0 p0 Y1 p1 v0 hv0 h1 v1 hv1 h2 v2 hv2 h3 Y2 p2
    refine Stands.one (0 : Nat) ⟨trivial, ?_⟩
    ((conv => (arg 1; reduce)); with_reducible repeat' (first | exact Tr.yes_h | refine Tr.and_h ?_ ?_ | refine Tr.imp_h fun _ => ?_ | refine Tr.all_h fun _ => ?_ | refine Tr.lf_h ?_))
    all_goals (first | first | (show Region.lexB _ _ = true; kernel_rfl) | (show planned _ _ = true; kernel_rfl) | exact rfl | exact True.intro | (first | exact key3 | exact key30 | exact zero3 | exact zero53 | exact eq30 | exact ⟨key3, zero53⟩ | exact ⟨key30, zero3⟩) | ((try dsimp only [imp, C0, cG, cInt, cPl, cSlot, cDo] at *); (try refine inR64 ?_ ?_) <;> (try simp only [List.length_set, List.length_append, List.length_take, List.length_drop]) <;> omega))
  · rename_i h0 Y0 p0 Y1 p1 v0 hv0 h1 v1 hv1 h2 v2 hv2 h3 Y2 p2 v3 hv3 h4
    change Nat at v3
    have h4' : decide ((v3 : Int) < 0) = true := h4
    have := of_decide_eq_true h4'
    omega
  · rename_i h0 Y0 p0 Y1 p1 v0 hv0 h1 v1 hv1 h2 v2 hv2 h3 Y2 p2 v3 hv3 h4
    obtain ⟨b, y⟩ := v2
    obtain ⟨i1, y1⟩ := v1
    have hN := two_len h0
    have h3' : decide ((b : Int) < 8) = false := h3
    have h3' := of_decide_eq_false h3'
    have hb : b = 8 := by have : b ≤ 8 := hv2.1; omega
    subst hb
    have e8 := hv2.2.upto8
    have e8' := congrArg (fun L : List Slot => (L.length : Int)) e8
    have hq : Tq 100 y1 := hv1.2.mono (Nat.le_trans hv1.1 hN.2)
    have p2 : tl (tz y) = [] := p2
    refine Stands.next (Stands.one (decide ((0 : Int) = ((tl (tz y1)).length : Int)), y, y1) ⟨⟨Nat.zero_le _, hv2.2, hq, ?_, ?_⟩, ?_⟩)
    · rw [p2, srtK_nil]
    · simp
    ((conv => (arg 1; reduce)); with_reducible repeat' (first | exact Tr.yes_h | refine Tr.and_h ?_ ?_ | refine Tr.imp_h fun _ => ?_ | refine Tr.all_h fun _ => ?_ | refine Tr.lf_h ?_))
    all_goals first | (first | first | (show Region.lexB _ _ = true; kernel_rfl) | (show planned _ _ = true; kernel_rfl) | exact rfl | exact True.intro | (first | exact key3 | exact key30 | exact zero3 | exact zero53 | exact eq30 | exact ⟨key3, zero53⟩ | exact ⟨key30, zero3⟩) | ((try dsimp only [imp, C0, cG, cInt, cPl, cSlot, cDo] at *); (try refine inR64 ?_ ?_) <;> (try simp only [List.length_set, List.length_append, List.length_take, List.length_drop]) <;> omega)) | exact e8' | exact e8'.symm
  · rename_i h0 Y0 p0 Y1 p1 v0 hv0 h1 v1 hv1 h2 v2 hv2 h3 Y2 p2 v3 hv3 h4 v4 hv4 h5 h6
    obtain ⟨b, y, y'⟩ := v4
    have h6' : (decide ((0 : Int) < 0) && (SB.tm b).val) = true := h6
    simp at h6'
  · rename_i h0 Y0 p0 Y1 p1 v0 hv0 h1 v1 hv1 h2 v2 hv2 h3 Y2 p2 v3 hv3 h4 v4 hv4 h5 h6 h7
    exact ⟨hv4.t.tok (by decide) rfl rfl rfl rfl, hv4.u.tok (by decide) rfl rfl rfl rfl⟩
  · rename_i h0 Y0 p0 Y1 p1 v0 hv0 h1 v1 hv1 h2 v2 hv2 h3 Y2 p2 v3 hv3 h4 v4 hv4 h5 h6 h7
    exact ⟨hv4.u.tok (by decide) rfl rfl rfl rfl, hv4.t.tok (by decide) rfl rfl rfl rfl⟩
  · rename_i h0 Y0 p0 Y1 p1 v0 hv0 h1 v1 hv1 h2 v2 hv2 h3 Y2 p2 v3 hv3 h4 v4 hv4 h5 h6 h7
    exact hv4.t.tok (by decide) rfl rfl rfl rfl
  · rename_i h0 Y0 p0 Y1 p1 v0 hv0 h1 v1 hv1 h2 v2 hv2 h3 Y2 p2 v3 hv3 h4 v4 hv4 h5 h6
    obtain ⟨b, y, y'⟩ := v4
    exact hv4.last h6 rfl rfl
  · rename_i h0 Y0 p0 Y1 p1 v0 hv0 h1 v1 hv1 h2 v2 hv2 h3 Y2 p2
    refine Stands.one (0 : Nat) ⟨trivial, ?_⟩
    ((conv => (arg 1; reduce)); with_reducible repeat' (first | exact Tr.yes_h | refine Tr.and_h ?_ ?_ | refine Tr.imp_h fun _ => ?_ | refine Tr.all_h fun _ => ?_ | refine Tr.lf_h ?_))
    all_goals (first | first | (show Region.lexB _ _ = true; kernel_rfl) | (show planned _ _ = true; kernel_rfl) | exact rfl | exact True.intro | (first | exact key3 | exact key30 | exact zero3 | exact zero53 | exact eq30 | exact ⟨key3, zero53⟩ | exact ⟨key30, zero3⟩) | ((try dsimp only [imp, C0, cG, cInt, cPl, cSlot, cDo] at *); (try refine inR64 ?_ ?_) <;> (try simp only [List.length_set, List.length_append, List.length_take, List.length_drop]) <;> omega))
  · rename_i h0 Y0 p0 Y1 p1 v0 hv0 h1 v1 hv1 h2 v2 hv2 h3 Y2 p2 v3 hv3 h4
    exact of_decide_eq_true h4
  · rename_i h0 Y0 p0 Y1 p1 v0 hv0 h1 v1 hv1 h2 v2 hv2 h3 Y2 p2 v3 hv3 h4
    change Nat at v3
    have h4' : decide ((v3 : Int) < (Y2.2.2.1.length : Int)) = true := h4
    have h4' := of_decide_eq_true h4'
    show (v3 : Int).toNat + 0 < (Y2.2.2.1 ++ Y2.2.2.2.2).length
    rw [List.length_append]
    omega
  · rename_i h0 Y0 p0 Y1 p1 v0 hv0 h1 v1 hv1 h2 v2 hv2 h3 Y2 p2 v3 hv3 h4
    exact hv2.2.rep.of rfl rfl rfl rfl
  · rename_i h0 Y0 p0 Y1 p1 v0 hv0 h1 v1 hv1 h2 v2 hv2 h3 Y2 p2 v3 hv3 h4 h5
    exact of_decide_eq_true h4
  · rename_i h0 Y0 p0 Y1 p1 v0 hv0 h1 v1 hv1 h2 v2 hv2 h3 Y2 p2 v3 hv3 h4 h5
    change Nat at v3
    have h4' : decide ((v3 : Int) < (Y2.2.2.1.length : Int)) = true := h4
    have h4' := of_decide_eq_true h4'
    show (v3 : Int).toNat + 0 < (Y2.2.2.1 ++ Y2.2.2.2.2).length
    rw [List.length_append]
    omega
  · rename_i h0 Y0 p0 Y1 p1 v0 hv0 h1 v1 hv1 h2 v2 hv2 h3 Y2 p2 v3 hv3 h4 h5 h6
    change Nat at v3
    have h4' : decide ((v3 : Int) < (Y2.2.2.1.length : Int)) = true := h4
    have h4' := of_decide_eq_true h4'
    have hlen : Y2.2.2.1.length ≤ 100 := by rw [p2.1.perm.length_eq]; exact hv2.2.len
    exact inR_nat (N := 100) (i := v3) (by omega) (by decide) (-1) (by decide) (by decide)
  · rename_i h0 Y0 p0 Y1 p1 v0 hv0 h1 v1 hv1 h2 v2 hv2 h3 Y2 p2 v3 hv3 h4 h5 h6
    change Nat at v3
    have h4' : decide ((v3 : Int) < (Y2.2.2.1.length : Int)) = true := h4
    have h4' := of_decide_eq_true h4'
    have h6' : decide (0 < (v3 : Int)) = true := h6
    have h6' := of_decide_eq_true h6'
    show 0 ≤ (v3 : Int) - 1
    omega
  · rename_i h0 Y0 p0 Y1 p1 v0 hv0 h1 v1 hv1 h2 v2 hv2 h3 Y2 p2 v3 hv3 h4 h5 h6
    change Nat at v3
    have h4' : decide ((v3 : Int) < (Y2.2.2.1.length : Int)) = true := h4
    have h4' := of_decide_eq_true h4'
    show (v3 : Int) - 1 < (Y2.2.2.1.length : Int)
    omega
  · rename_i h0 Y0 p0 Y1 p1 v0 hv0 h1 v1 hv1 h2 v2 hv2 h3 Y2 p2 v3 hv3 h4 h5 h6
    change Nat at v3
    have h4' : decide ((v3 : Int) < (Y2.2.2.1.length : Int)) = true := h4
    have h4' := of_decide_eq_true h4'
    show ((v3 : Int) - 1).toNat + 0 < (Y2.2.2.1 ++ Y2.2.2.2.2).length
    rw [List.length_append]
    omega
  · rename_i h0 Y0 p0 Y1 p1 v0 hv0 h1 v1 hv1 h2 v2 hv2 h3 Y2 p2 v3 hv3 h4 h5
    change Nat at v3
    have h4' : decide ((v3 : Int) < (Y2.2.2.1.length : Int)) = true := h4
    have h4' := of_decide_eq_true h4'
    exact (all_at hv2.2.rep.ok p2.1 (i := v3) (by omega) h5).elim
  · rename_i h0 Y0 p0 Y1 p1 v0 hv0 h1 v1 hv1 h2 v2 hv2 h3 Y2 p2 v3 hv3 h4 h5
    change Nat at v3
    have h4' : decide ((v3 : Int) < (Y2.2.2.1.length : Int)) = true := h4
    have h4' := of_decide_eq_true h4'
    have hlen : Y2.2.2.1.length ≤ 100 := by rw [p2.1.perm.length_eq]; exact hv2.2.len
    exact inR_nat (N := 100) (i := v3) (by omega) (by decide) 1 (by decide) (by decide)
  · rename_i h0 Y0 p0 Y1 p1 v0 hv0 h1 v1 hv1 h2 v2 hv2 h3 Y2 p2 v3 hv3 h4 h5
    change Nat at v3
    have h4' : decide ((v3 : Int) < (Y2.2.2.1.length : Int)) = true := h4
    have h4' := of_decide_eq_true h4'
    have hlen : Y2.2.2.1.length ≤ 100 := by rw [p2.1.perm.length_eq]; exact hv2.2.len
    refine Stands.one (Nat.succ v3) ⟨trivial, ?_, ?_⟩
    · show 1000 - (v3 + 1) < 1000 - v3
      omega
    ((conv => (arg 1; reduce)); with_reducible repeat' (first | exact Tr.yes_h | refine Tr.and_h ?_ ?_ | refine Tr.imp_h fun _ => ?_ | refine Tr.all_h fun _ => ?_ | refine Tr.lf_h ?_))
    all_goals (first | first | (show Region.lexB _ _ = true; kernel_rfl) | (show planned _ _ = true; kernel_rfl) | exact rfl | exact True.intro | (first | exact key3 | exact key30 | exact zero3 | exact zero53 | exact eq30 | exact ⟨key3, zero53⟩ | exact ⟨key30, zero3⟩) | ((try dsimp only [imp, C0, cG, cInt, cPl, cSlot, cDo] at *); (try refine inR64 ?_ ?_) <;> (try simp only [List.length_set, List.length_append, List.length_take, List.length_drop]) <;> omega))
  · rename_i h0 Y0 p0 Y1 p1 v0 hv0 h1 v1 hv1 h2 v2 hv2 h3 Y2 p2 v3 hv3 h4
    obtain ⟨b, y⟩ := v2
    obtain ⟨i1, y1⟩ := v1
    have hN := two_len h0
    have h3' : decide ((b : Int) < 8) = false := h3
    have h3' := of_decide_eq_false h3'
    have hb : b = 8 := by have : b ≤ 8 := hv2.1; omega
    subst hb
    have e8 := hv2.2.upto8
    have e8' := congrArg (fun L : List Slot => (L.length : Int)) e8
    have hq : Tq 100 y1 := hv1.2.mono (Nat.le_trans hv1.1 hN.2)
    have el : Y2.2.2.1 = srtK (tl (tz y)) := srtK_one hv2.2.rep.ok p2.1
    refine Stands.one (0, decide ((Y2.2.2.1.length : Int) = ((tl (tz y1)).length : Int)), y, y1, Y2.2.2.1, Y2.2.2.2.2, Y2.2.2.2.1) ⟨⟨Nat.zero_le _, hv2.2, hq, el, ?_⟩, ?_⟩
    · simp
    ((conv => (arg 1; reduce)); with_reducible repeat' (first | exact Tr.yes_h | refine Tr.and_h ?_ ?_ | refine Tr.imp_h fun _ => ?_ | refine Tr.all_h fun _ => ?_ | refine Tr.lf_h ?_))
    all_goals first | (first | first | (show Region.lexB _ _ = true; kernel_rfl) | (show planned _ _ = true; kernel_rfl) | exact rfl | exact True.intro | (first | exact key3 | exact key30 | exact zero3 | exact zero53 | exact eq30 | exact ⟨key3, zero53⟩ | exact ⟨key30, zero3⟩) | ((try dsimp only [imp, C0, cG, cInt, cPl, cSlot, cDo] at *); (try refine inR64 ?_ ?_) <;> (try simp only [List.length_set, List.length_append, List.length_take, List.length_drop]) <;> omega)) | exact e8' | exact e8'.symm
  · rename_i h0 Y0 p0 Y1 p1 v0 hv0 h1 v1 hv1 h2 v2 hv2 h3 Y2 p2 v3 hv3 h4 v4 hv4 h5 h6
    obtain ⟨i, b, y, y', l4, sp, cap⟩ := v4
    have hi : i < l4.length := Sy.lt (b := b) h6
    show (i : Int) < (l4.length : Int)
    omega
  · rename_i h0 Y0 p0 Y1 p1 v0 hv0 h1 v1 hv1 h2 v2 hv2 h3 Y2 p2 v3 hv3 h4 v4 hv4 h5 h6
    obtain ⟨i, b, y, y', l4, sp, cap⟩ := v4
    have hi : i < l4.length := Sy.lt (b := b) h6
    show (i : Int).toNat + 0 < (l4 ++ sp).length
    rw [List.length_append]
    omega
  · rename_i h0 Y0 p0 Y1 p1 v0 hv0 h1 v1 hv1 h2 v2 hv2 h3 Y2 p2 v3 hv3 h4 v4 hv4 h5 h6
    exact hv4.u.rep.of rfl rfl rfl rfl
  · rename_i h0 Y0 p0 Y1 p1 v0 hv0 h1 v1 hv1 h2 v2 hv2 h3 Y2 p2 v3 hv3 h4 v4 hv4 h5 h6 b0 h7
    obtain ⟨i, b, y, y', l4, sp, cap⟩ := v4
    have hi : i < l4.length := Sy.lt (b := b) h6
    show (i : Int) < (l4.length : Int)
    omega
  · rename_i h0 Y0 p0 Y1 p1 v0 hv0 h1 v1 hv1 h2 v2 hv2 h3 Y2 p2 v3 hv3 h4 v4 hv4 h5 h6 b0 h7
    obtain ⟨i, b, y, y', l4, sp, cap⟩ := v4
    have hi : i < l4.length := Sy.lt (b := b) h6
    show (i : Int).toNat + 0 < (l4 ++ sp).length
    rw [List.length_append]
    omega
  · rename_i h0 Y0 p0 Y1 p1 v0 hv0 h1 v1 hv1 h2 v2 hv2 h3 Y2 p2 v3 hv3 h4 v4 hv4 h5 h6 b0 h7
    obtain ⟨i, b, y, y', l4, sp, cap⟩ := v4
    have hi : i < l4.length := Sy.lt (b := b) h6
    show (i : Int) < (l4.length : Int)
    omega
  · rename_i h0 Y0 p0 Y1 p1 v0 hv0 h1 v1 hv1 h2 v2 hv2 h3 Y2 p2 v3 hv3 h4 v4 hv4 h5 h6 b0 h7
    obtain ⟨i, b, y, y', l4, sp, cap⟩ := v4
    have hi : i < l4.length := Sy.lt (b := b) h6
    show (i : Int).toNat + 0 < (l4 ++ sp).length
    rw [List.length_append]
    omega
  · rename_i h0 Y0 p0 Y1 p1 v0 hv0 h1 v1 hv1 h2 v2 hv2 h3 Y2 p2 v3 hv3 h4 v4 hv4 h5 h6 b0 h7
    obtain ⟨i, b, y, y', l4, sp, cap⟩ := v4
    have hi : i < l4.length := Sy.lt (b := b) h6
    show (i : Int) < (l4.length : Int)
    omega
  · rename_i h0 Y0 p0 Y1 p1 v0 hv0 h1 v1 hv1 h2 v2 hv2 h3 Y2 p2 v3 hv3 h4 v4 hv4 h5 h6 b0 h7
    obtain ⟨i, b, y, y', l4, sp, cap⟩ := v4
    have hi : i < l4.length := Sy.lt (b := b) h6
    show (i : Int).toNat + 0 < (l4 ++ sp).length
    rw [List.length_append]
    omega
  · rename_i h0 Y0 p0 Y1 p1 v0 hv0 h1 v1 hv1 h2 v2 hv2 h3 Y2 p2 v3 hv3 h4 v4 hv4 h5 h6 b0
    obtain ⟨i, b, y, y', l4, sp, cap⟩ := v4
    have hi : i < l4.length := Sy.lt (b := b) h6
    have hlen : l4.length ≤ 100 := by rw [hv4.el, (srtK_srt _).perm.length_eq]; exact hv4.t.len
    exact inR_nat (N := 100) (i := i) (by omega) (by decide) 1 (by decide) (by decide)
  · rename_i h0 Y0 p0 Y1 p1 v0 hv0 h1 v1 hv1 h2 v2 hv2 h3 Y2 p2 v3 hv3 h4 v4 hv4 h5 h6 b0
    obtain ⟨i, b, y, y', l4, sp, cap⟩ := v4
    have hi : i < l4.length := Sy.lt (b := b) h6
    refine Stands.one (Nat.succ i, good (tl (tz y')) ((l4 ++ sp).getD ((i : Int).toNat + 0) slot0), y, y', l4, sp, cap) ⟨hv4.next h6, ?_, ?_⟩
    · show l4.length - (i + 1) < l4.length - i
      omega
    ((conv => (arg 1; reduce)); with_reducible repeat' (first | exact Tr.yes_h | refine Tr.and_h ?_ ?_ | refine Tr.imp_h fun _ => ?_ | refine Tr.all_h fun _ => ?_ | refine Tr.lf_h ?_))
    all_goals (first | first | (show Region.lexB _ _ = true; kernel_rfl) | (show planned _ _ = true; kernel_rfl) | exact rfl | exact True.intro | (first | exact key3 | exact key30 | exact zero3 | exact zero53 | exact eq30 | exact ⟨key3, zero53⟩ | exact ⟨key30, zero3⟩) | ((try dsimp only [imp, C0, cG, cInt, cPl, cSlot, cDo] at *); (try refine inR64 ?_ ?_) <;> (try simp only [List.length_set, List.length_append, List.length_take, List.length_drop]) <;> omega))
  · rename_i h0 Y0 p0 Y1 p1 v0 hv0 h1 v1 hv1 h2 v2 hv2 h3 Y2 p2 v3 hv3 h4 v4 hv4 h5 h6 h7
    exact ⟨hv4.t.tok (by decide) rfl rfl rfl rfl, hv4.u.tok (by decide) rfl rfl rfl rfl⟩
  · rename_i h0 Y0 p0 Y1 p1 v0 hv0 h1 v1 hv1 h2 v2 hv2 h3 Y2 p2 v3 hv3 h4 v4 hv4 h5 h6 h7
    exact ⟨hv4.u.tok (by decide) rfl rfl rfl rfl, hv4.t.tok (by decide) rfl rfl rfl rfl⟩
  · rename_i h0 Y0 p0 Y1 p1 v0 hv0 h1 v1 hv1 h2 v2 hv2 h3 Y2 p2 v3 hv3 h4 v4 hv4 h5 h6 h7
    exact hv4.t.tok (by decide) rfl rfl rfl rfl
  · rename_i h0 Y0 p0 Y1 p1 v0 hv0 h1 v1 hv1 h2 v2 hv2 h3 Y2 p2 v3 hv3 h4 v4 hv4 h5 h6
    obtain ⟨i, b, y, y', l4, sp, cap⟩ := v4
    exact hv4.last h6 rfl rfl
end Go.Vx
