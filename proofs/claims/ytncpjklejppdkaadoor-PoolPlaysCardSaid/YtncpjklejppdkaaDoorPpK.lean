/-
  Round 17: PoolPlays, what it computes of a slice: its states, its walk.
  Conditions: none.
-/
import Derived.Test.YtncpjklejppdkaaDoorVxX
import Derived.Test.YtncpjklejppdkaaDoorPpJ
set_option linter.unusedSectionVars false
set_option maxRecDepth 100000
set_option linter.unusedVariables false
set_option linter.unusedSimpArgs false
namespace Go.Vx
open Go Go.Proofs
variable [Gl]

/-- The pool and the reference, by the round of the first loop. -/
structure Px where
  i : Nat
  b : Nat
  base : Nat
  l : List Ent
  n : Nat
  c : Nat
  b2 : Nat
  base2 : Nat
  r : List Ent
  k : Nat
  rn : Nat
  rc : Nat
/-- And behind it. -/
structure Qx where
  rd : Nat
  i : Nat
  l : List Ent
  n : Nat
  c : Nat
  r : List Ent
  k : Nat
  rn : Nat
  rc : Nat
  q : List Ent
  nq : Nat
  cq : Nat
  rb : Nat
def La (N : Nat) : Inv' C0 := ⟨9, Nat, fun i => [(10, .int .i64 i)], fun _ m => m, fun i => i ≤ N, fun i => N - i⟩
def Lb (N : Nat) : Inv' C0 := ⟨9, Px, fun x => [(10, .int .i64 x.i)],
  fun x m => setCk (setCk m 3 (.one [.sl 6 0 x.n x.c])) 4 (.one [.sl 7 x.k x.rn x.rc]) ++ [⟨x.b, x.base, 2, true, none, .rows 60 x.l⟩, ⟨x.b2, x.base2, 2, true, none, .rows 46 x.r⟩],
  fun x => x.i ≤ N ∧ Sy x.l x.n x.c x.r x.k x.rn x.rc, fun x => N - x.i⟩
/-- The round's cell comes ahead of the heap. -/
def turnR (x : Qx) (m : List (Ck C0)) : List (Ck C0) := match m with
  | [c0, c1, c2, ⟨pb, po, ps, pw, pg, _⟩, ⟨xb, xo, xs, xw, xg, _⟩, c5, ⟨hb, ho, hs, hw, hg, _⟩, ⟨rb, ro, rs, rw, rg, _⟩, ⟨db, dO, ds, dw, dg, _⟩] =>
    [c0, c1, c2, ⟨pb, po, ps, pw, pg, .one [.sl 7 0 x.n x.c]⟩, ⟨xb, xo, xs, xw, xg, .one [.sl 8 x.k x.rn x.rc]⟩, c5, ⟨x.rb, dO, ds, dw, dg, .one [.int .i64 x.rd]⟩, ⟨hb, ho, hs, hw, hg, .rows 60 x.l⟩, ⟨rb, ro, rs, rw, rg, .rows 46 x.r⟩]
  | [c0, c1, c2, c3, c4, c5, ⟨db, dO, ds, dw, dg, _⟩] => [c0, c1, c2, c3, c4, c5, ⟨x.rb, dO, ds, dw, dg, .one [.int .i64 x.rd]⟩]
  | m => m
def Lr : Inv' C0 := ⟨33, Qx, fun _ => [(21, .ptr 6 0 0)], turnR, fun x => x.rd ≤ 2 ∧ Sy x.l x.n x.c x.r x.k x.rn x.rc, fun x => 2 - x.rd⟩
/-- The iterator's rounds. -/
def turnQ (x : Qx) (m : List (Ck C0)) : List (Ck C0) := match m with
  | [c0, c1, c2, ⟨pb, po, ps, pw, pg, _⟩, ⟨xb, xo, xs, xw, xg, _⟩, c5, c6, ⟨hb, ho, hs, hw, hg, _⟩, ⟨rb, ro, rs, rw, rg, _⟩, ⟨ib, iO, is, iw, ig, _⟩, c10, ⟨qb, qo, qs, qw, qg, _⟩, ⟨cb, co, cs, cw, cg, _⟩] =>
    [c0, c1, c2, ⟨pb, po, ps, pw, pg, .one [.sl 7 0 x.n x.c]⟩, ⟨xb, xo, xs, xw, xg, .one [.sl 8 x.k x.rn x.rc]⟩, c5, c6, ⟨hb, ho, hs, hw, hg, .rows 60 x.l⟩, ⟨rb, ro, rs, rw, rg, .rows 46 x.r⟩, ⟨ib, iO, is, iw, ig, .one [.int .i64 x.i]⟩, c10, ⟨qb, qo, qs, qw, qg, .rows 60 x.q⟩, ⟨cb, co, cs, cw, cg, .one [.sl 11 0 x.nq x.cq]⟩]
  | m => m
def Lq : Inv' C0 := ⟨1, Qx, fun _ => [], turnQ, fun x => Sy x.l x.n x.c x.r x.k x.rn x.rc ∧ HOK x.q x.nq x.cq ∧ (x.q.take x.nq).Perm ((pl x.r x.k x.rn).drop x.i) ∧ x.i + x.nq = x.rn, fun x => x.nq⟩
noncomputable def itEach : It Tryd.prog C0 := ⟨31, Tryd.f31, _, ⟨[fcClone, fcPop], [pcClone0], 23, []⟩, [Lq], Tryd.func31, rfl, (by kernel_rfl), (by kernel_rfl)⟩

theorem La_d {N i : Nat} (h : (La N).inv i) : i ≤ N := h
theorem Lb_d {N : Nat} {x : Px} (h : (Lb N).inv x) : x.i ≤ N ∧ Sy x.l x.n x.c x.r x.k x.rn x.rc := h
theorem Lr_d {x : Qx} (h : Lr.inv x) : x.rd ≤ 2 ∧ Sy x.l x.n x.c x.r x.k x.rn x.rc := h
theorem Lq_d {x : Qx} (h : Lq.inv x) : Sy x.l x.n x.c x.r x.k x.rn x.rc ∧ HOK x.q x.nq x.cq ∧ (x.q.take x.nq).Perm ((pl x.r x.k x.rn).drop x.i) ∧ x.i + x.nq = x.rn := h
theorem tf {b : Bool} (h : b = true) (h' : b = false) : False := Bool.false_ne_true (h'.symm.trans h)
theorem idxN {l : List (Int × Int × Int)} {N i : Nat} (h : decide ((i : Int) < (N : Int)) = true) (hN : N ≤ l.length) : (i : Int).toNat + 0 < l.length := by
  have := of_decide_eq_true h; omega
theorem incN {N i : Nat} (h : decide ((i : Int) < (N : Int)) = true) (hc : decide ((100 : Int) < (N : Int)) = false) : inR .i64 ((i : Int) + 1) := by
  have h1 := of_decide_eq_true h
  have h2 := of_decide_eq_false hc
  exact inR64 (by omega) (by omega)
theorem ltN {N i : Nat} (h : decide ((i : Int) < (N : Int)) = true) : i + 1 ≤ N := by have := of_decide_eq_true h; omega
theorem decN {N i : Nat} (h : decide ((i : Int) < (N : Int)) = true) : N - (i + 1) < N - i := by have := of_decide_eq_true h; omega
theorem incR {rd : Nat} (h : decide ((rd : Int) < 2) = true) : inR .i64 ((rd : Int) + 1) := by
  have h1 := of_decide_eq_true h
  exact inR64 (by omega) (by omega)
theorem ltR {rd : Nat} (h : decide ((rd : Int) < 2) = true) : rd + 1 ≤ 2 := by have := of_decide_eq_true h; omega
theorem decR {rd : Nat} (h : decide ((rd : Int) < 2) = true) : 2 - (rd + 1) < 2 - rd := by have := of_decide_eq_true h; omega
theorem plain_addE (b : Bool) : Plain C0 (addE b) := by
  cases b
  · rw [addE_f]; exact plainA 1 (by decide)
  · rw [addE_t]; exact plainA 0 (by decide)
abbrev Apart : Prop := ∀ i j, i < 19 → j < 19 → Gl.A i = Gl.A j → i = j
theorem is_code (hA : Apart) (b : Bool) : codeOf (addE b) = codeB b := by
  unfold codeOf codeB
  cases b
  · rw [addE_f]
    refine (idxE_at sentL _ 101 9 (by rw [sentL_len]; decide) (by unfold sentL; rfl) ?_).trans rfl
    intro j hj h
    unfold sentL at h
    rcases j with _ | _ | _ | _ | _ | _ | _ | _ | _ | j
    all_goals first | exact absurd (hA _ _ (by decide) (by decide) (Option.some.inj h)) (by decide) | omega
  · rw [addE_t]
    refine (idxE_at sentL _ 101 1 (by rw [sentL_len]; decide) (by unfold sentL; rfl) ?_).trans rfl
    intro j hj h
    unfold sentL at h
    rcases j with _ | j
    · exact absurd (hA _ _ (by decide) (by decide) (Option.some.inj h)) (by decide)
    · omega
theorem no_is (hA : Apart) {b : Bool} (h : (!decide (codeOf (addE b) = codeB b)) = true) : False := by
  rw [decide_eq_true (is_code hA b)] at h; cases h
theorem at0 {l r : List Ent} {n c k rn rc : Nat} (h : Sy l n c r k rn rc) (h0 : decide (0 < rn) = true) : Int.toNat 0 + k < r.length := by
  have h0 := of_decide_eq_true h0
  have := h.rk.len
  omega
theorem pos0 {rn : Nat} (h0 : decide (0 < rn) = true) : (0 : Int) < (rn : Int) := by
  have h0 := of_decide_eq_true h0
  omega
theorem nil0 {r : List Ent} {k rn : Nat} (h0 : (!decide (0 < rn)) = true) : (pl r k rn).getD 0 (0, 0) = (0, 0) := by
  have : rn = 0 := by simpa using h0
  subst this; rfl
theorem sum0 {r : List Ent} {k rn : Nat} (h0 : (!decide (0 < rn)) = true) : inR .i64 (((pl r k rn).getD 0 (0, 0)).1 + ((pl r k rn).getD 0 (0, 0)).2) := by
  rw [nil0 h0]; exact inR64 (by decide) (by decide)
theorem rhas_pre {l r : List Ent} {n c k rn rc : Nat} (h : Sy l n c r k rn rc) : k + rn ≤ r.length ∧ rn < 1048576 := ⟨h.rk.len, by have := h.le; omega⟩
theorem chainF {l r : List Ent} {n c k rn rc : Nat} (h : Sy l n c r k rn rc) (ask : Int) :
    (!(SB.tm (hasB (pl r k rn) ask)).val == (SB.tm (hasB (pl r k rn) ask)).val || (SB.tm (decide ((rn : Int) ≠ (rn : Int)))).val || (SB.tm !(SB.tm (decide (0 < rn))).val == (SB.tm (decide ((0 : Int) < (rn : Int)))).val).val ||
      (SB.tm (decide (0 < rn) && (SB.tm (decide (((pl r k rn).getD 0 (0, 0)).1 ≠ (r.getD (Int.toNat 0 + k) (0, 0)).1) || (SB.tm (decide (((pl r k rn).getD 0 (0, 0)).2 ≠ (r.getD (Int.toNat 0 + k) (0, 0)).2))).val)).val)).val ||
      (SB.tm (!decide (0 < rn) && (SB.tm (decide (((pl r k rn).getD 0 (0, 0)).1 + ((pl r k rn).getD 0 (0, 0)).2 ≠ 0))).val)).val) = false := by
  simp only [SB.val]
  by_cases h0 : 0 < rn
  · have e : (pl r k rn).getD 0 (0, 0) = r.getD (0 + k) (0, 0) := pl_get h0
    have h1 : (0 : Int) < (rn : Int) := by omega
    rw [e]
    simp [h0]
  · have hn : rn = 0 := by omega
    subst hn
    have e : (pl r k 0).getD 0 (0, 0) = (0, 0) := nil0 (by simp)
    rw [e]
    simp
theorem no_chain {l r : List Ent} {n c k rn rc : Nat} (h : Sy l n c r k rn rc) {ask : Int} (hc : (!(SB.tm (hasB (pl r k rn) ask)).val == (SB.tm (hasB (pl r k rn) ask)).val || (SB.tm (decide ((rn : Int) ≠ (rn : Int)))).val || (SB.tm !(SB.tm (decide (0 < rn))).val == (SB.tm (decide ((0 : Int) < (rn : Int)))).val).val ||
      (SB.tm (decide (0 < rn) && (SB.tm (decide (((pl r k rn).getD 0 (0, 0)).1 ≠ (r.getD (Int.toNat 0 + k) (0, 0)).1) || (SB.tm (decide (((pl r k rn).getD 0 (0, 0)).2 ≠ (r.getD (Int.toNat 0 + k) (0, 0)).2))).val)).val)).val ||
      (SB.tm (!decide (0 < rn) && (SB.tm (decide (((pl r k rn).getD 0 (0, 0)).1 + ((pl r k rn).getD 0 (0, 0)).2 ≠ 0))).val)).val) = true) : False := tf hc (chainF h ask)
theorem no_remF {b c : Bool} (e : b = c) (f : c = false) (h : (!b == false) = true) : False := by subst e; subst f; cases h
theorem no_remT {b c : Bool} (e : b = c) (f : c = true) (h : (!b == true) = true) : False := by subst e; subst f; cases h
theorem no_take0 {r : List Ent} {k rn : Nat} {is : Bool} {a : Int} (h1 : is = decide (0 < rn)) (h2 : a = ((pl r k rn).getD 0 (0, 0)).1) (h0 : rn = 0) (h : (decide (a ≠ 0) || !is == false) = true) : False := by
  subst h0
  rw [nil0 (by simp)] at h2
  subst h1; subst h2
  exact absurd h (by decide)
theorem no_take1 {r : List Ent} {k rn : Nat} {is : Bool} {a : Int} (h1 : is = decide (0 < rn)) (h2 : a = ((pl r k rn).getD 0 (0, 0)).1) (h0 : 0 < rn) (h : (decide (a ≠ (r.getD k (0, 0)).1) || !is == true) = true) : False := by
  rw [pl_get h0, Nat.zero_add] at h2
  subst h1; subst h2
  simp [h0] at h
theorem most0 {rn : Nat} {is : Bool} (h1 : is = decide (0 < rn)) (h0 : rn = 0) (h : is = true) : False := by subst h0; subst h1; exact absurd h (by decide)
theorem no_most0 {rn : Nat} {is z : Bool} (h1 : is = decide (0 < rn)) (h0 : rn = 0) (h : (!is == decide ((0 : Int) ≤ -1) || (is && z)) = true) : False := by
  subst h0; subst h1
  revert h; cases z <;> decide
theorem most1 {rn a : Nat} {is : Bool} (h1 : is = decide (0 < rn)) (h0 : a < rn) (h : is = false) : False := by
  subst h1; exact absurd (of_decide_eq_false h) (by omega)
theorem no_most1 {r : List Ent} {k rn a : Nat} {is : Bool} {z : Int} (hk : k + rn ≤ r.length) (h1 : is = decide (0 < rn)) (ha : a < rn) (hm : ∀ j, j < rn → mst (r.getD (j + k) (0, 0)) (r.getD (a + k) (0, 0)) = false)
    (he : ∃ e ∈ pl r k rn, (∀ a ∈ pl r k rn, mst a e = false) ∧ z = e.1) (h : (!is == decide ((0 : Int) ≤ (a : Int)) || (is && decide (z ≠ (r.getD ((a : Int).toNat + k) (0, 0)).1))) = true) : False := by
  have e := most_at (l := []) (n := 0) (c := 0) hk ha hm he
  rw [Int.toNat_natCast, e] at h
  have h0 : 0 < rn := by omega
  subst h1
  simp [h0] at h
theorem most_has {r : List Ent} {k rn : Nat} {z : Int} (he : ∃ e ∈ pl r k rn, (∀ a ∈ pl r k rn, mst a e = false) ∧ z = e.1) (h : hasB (pl r k rn) z = false) : False := by
  obtain ⟨e, h1, _, h2⟩ := he
  refine tf ?_ h
  unfold hasB
  rw [List.any_eq_true]
  exact ⟨e, h1, by simp [h2]⟩
theorem Sy0 : Sy [] 0 0 [] 0 0 0 :=
  ⟨⟨Nat.le_refl _, Nat.le_refl _, fun k _ hk => absurd hk (by omega)⟩, ⟨Nat.le_refl _, Nat.le_refl _, Nat.le_refl _⟩, ⟨Rsd.nil, fun _ h => by cases h⟩, List.Perm.refl _⟩

/-! The iterator's rounds. -/
theorem heap_same {l q : List Ent} {n : Nat} (h : HeapL l n) (e : ∀ k, k < n → at_ q k = at_ l k) : HeapL q n := by
  intro k h0 hk
  rw [e k hk, e (par k) (by unfold par; omega)]
  exact h k h0 hk
theorem Rsd.drops {L : List Ent} (h : Rsd L) (i : Nat) : Rsd (L.drop i) :=
  ⟨h.srt.sublist (List.drop_sublist ..), h.nod.sublist ((List.drop_sublist ..).map _)⟩
theorem Lq_0 {x : Qx} {q : List Ent} {cq : Nat} (h : Sy x.l x.n x.c x.r x.k x.rn x.rc) (h1 : x.n ≤ cq) (h2 : cq ≤ q.length) (h3 : q.take x.n = x.l.take x.n) : Lq.inv ⟨0, 0, x.l, x.n, x.c, x.r, x.k, x.rn, x.rc, q, x.n, cq, 0⟩ := by
  refine ⟨h, ⟨h1, h2, ?_⟩, ?_, ?_⟩
  · have hl := h.hok.lt
    have e : ∀ k, k < x.n → at_ q k = at_ x.l k := by
      intro k hk
      have := congrArg (fun l => l.getD k (0, 0)) h3
      simp only [List.getD_eq_getElem?_getD, List.getElem?_take, if_pos hk] at this
      simpa [at_, List.getD_eq_getElem?_getD] using this
    exact heap_same h.hok.heap e
  · show (q.take x.n).Perm ((pl x.r x.k x.rn).drop 0)
    rw [h3]; exact h.prm
  · show 0 + x.n = x.rn
    have := h.eq; omega
theorem Lq_pre {x : Qx} (h : Lq.inv x) (h0 : decide ((0 : Int) < (x.nq : Int)) = true) : HOK x.q (x.nq - 1 + 1) x.cq ∧ x.nq - 1 < 1048576 := by
  obtain ⟨h1, h2, h3, h4⟩ := h
  have h0 := of_decide_eq_true h0
  have hn : x.nq - 1 + 1 = x.nq := by omega
  rw [hn]
  have := h1.le
  exact ⟨h2, by omega⟩
theorem Lq_lt {x : Qx} (h : Lq.inv x) (h0 : decide ((0 : Int) < (x.nq : Int)) = true) : x.i < x.rn ∧ (x.i : Int) < (x.rn : Int) ∧ (x.i : Int).toNat + x.k < x.r.length ∧ inR .i64 ((x.i : Int) + 1) := by
  obtain ⟨h1, h2, h3, h4⟩ := h
  have h0 := of_decide_eq_true h0
  have := h1.rk.len
  have := h1.le
  exact ⟨by omega, by omega, by omega, inR64 (by omega) (by omega)⟩
/-- What is taken out is the reference's next one. -/
theorem Lq_pop {x : Qx} {q : List Ent} (h : Lq.inv x) (h0 : decide ((0 : Int) < (x.nq : Int)) = true) (hc : cutPost x.q (x.nq - 1) x.cq 0 q) :
    at_ q (x.nq - 1) = x.r.getD (x.i + x.k) (0, 0) ∧ Lq.inv ⟨0, x.i + 1, x.l, x.n, x.c, x.r, x.k, x.rn, x.rc, q, x.nq - 1, x.cq, 0⟩ := by
  obtain ⟨h1, h2, h3, h4⟩ := h
  have h0 := of_decide_eq_true h0
  have hn : x.nq - 1 + 1 = x.nq := by omega
  obtain ⟨c1, c2, c3⟩ := hc
  rw [hn] at c3
  have hi : x.i < x.rn := by omega
  have hlen := pl_len h1.rk.len
  -- the first of those that are left
  have hd : (pl x.r x.k x.rn).drop x.i = (pl x.r x.k x.rn).getD x.i (0, 0) :: (pl x.r x.k x.rn).drop (x.i + 1) := by
    rw [List.drop_eq_getElem_cons (by rw [hlen]; exact hi)]
    congr 1
    rw [List.getD_eq_getElem?_getD, List.getElem?_eq_getElem (by rw [hlen]; exact hi)]; rfl
  have hs : Rsd ((pl x.r x.k x.rn).drop x.i) := h1.lok.srt.drops x.i
  have hf := first_all h2.lt h3 (heap_first h2.heap)
  have hm : at_ x.q 0 ∈ (pl x.r x.k x.rn).drop x.i := h3.mem_iff.1 ((mem_take h2.lt).2 ⟨0, by omega, rfl⟩)
  have he := hs.first hm hf
  rw [hd] at he
  have he : (pl x.r x.k x.rn).getD x.i (0, 0) = at_ x.q 0 := he
  rw [pl_get hi] at he
  refine ⟨c2.trans he.symm, h1, c1, ?_, by show x.i + 1 + (x.nq - 1) = x.rn; omega⟩
  have h5 := c3.symm.trans h3
  rw [hd, pl_get hi, he] at h5
  exact h5.cons_inv
theorem no_each {x : Qx} {a b : Int} (h : Lq.inv x) (h0 : decide ((0 : Int) < (x.nq : Int)) = true) (e : (a, b) = x.r.getD (x.i + x.k) (0, 0))
    (hc : (decide ((x.rn : Int) ≤ (x.i : Int)) || decide (a ≠ (x.r.getD ((x.i : Int).toNat + x.k) (0, 0)).1) || decide (b ≠ (x.r.getD ((x.i : Int).toNat + x.k) (0, 0)).2)) = true) : False := by
  have hi := (Lq_lt h h0).1
  rw [Int.toNat_natCast, ← e] at hc
  have : ¬ ((x.rn : Int) ≤ (x.i : Int)) := by omega
  simp [this] at hc
theorem no_stop {a b : Bool} (h : b = true) (h' : (a && !b) = true) : False := by subst h; simp at h'
theorem no_end {x : Qx} {z : Bool} (h : Lq.inv x) (h0 : decide ((0 : Int) < (x.nq : Int)) = false) (h' : (decide ((x.i : Int) ≠ (x.rn : Int)) && z) = true) : False := by
  obtain ⟨h1, h2, h3, h4⟩ := h
  have h0 := of_decide_eq_false h0
  have e : (x.i : Int) = (x.rn : Int) := by omega
  simp [e] at h'
end Go.Vx
