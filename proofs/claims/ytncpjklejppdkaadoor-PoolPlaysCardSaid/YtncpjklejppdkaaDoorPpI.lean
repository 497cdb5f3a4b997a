/-
  Round 17: the pool and the reference side by side: what they are told, they answer alike.
  Conditions: none.
-/
import Derived.Test.YtncpjklejppdkaaDoorPpH
set_option linter.unusedSectionVars false
set_option maxRecDepth 100000
set_option linter.unusedVariables false
set_option linter.unusedSimpArgs false
namespace Go.Vx
open Go Go.Proofs
variable [Gl]

/-- Numbers below m, no one twice, are m at most. -/
theorem pig : ∀ (m : Nat) (l : List Nat), l.Nodup → (∀ x ∈ l, x < m) → l.length ≤ m
  | 0, l, _, h => by
    cases l with
    | nil => exact Nat.le_refl 0
    | cons a r => exact absurd (h a (by simp)) (Nat.not_lt_zero _)
  | m + 1, l, hn, h => by
    have h1 := pig m (l.erase m) (hn.erase m) (fun x hx => by
      have := (hn.mem_erase_iff).1 hx
      have := h x this.2
      omega)
    by_cases hm : m ∈ l
    · rw [List.length_erase_of_mem hm] at h1; omega
    · rw [List.erase_of_not_mem hm] at h1; omega

/-- What the reference holds. -/
def pl (r : List Ent) (k rn : Nat) : List Ent := (r.drop k).take rn
theorem pl_len {r : List Ent} {k rn : Nat} (h : k + rn ≤ r.length) : (pl r k rn).length = rn := by
  simp only [pl, List.length_take, List.length_drop]; omega
theorem pl_get {r : List Ent} {k rn i : Nat} (h : i < rn) : (pl r k rn).getD i (0, 0) = r.getD (i + k) (0, 0) := by
  simp only [pl, List.getD_eq_getElem?_getD, List.getElem?_take, List.getElem?_drop]
  rw [if_pos h, Nat.add_comm]
/-- In order, no block twice, all of them blocks of a chip. -/
structure Lok (L : List Ent) : Prop where
  srt : Rsd L
  rng : ∀ e ∈ L, 0 ≤ e.1 ∧ e.1 < 64
theorem Lok.le {L : List Ent} (h : Lok L) : L.length ≤ 64 := by
  have h1 := pig 64 (L.map fun e => e.1.toNat) (by
    have e : (L.map fun e => e.1.toNat) = (L.map (·.1)).map Int.toNat := by rw [List.map_map]; rfl
    rw [e]
    rw [List.nodup_iff_pairwise_ne, List.pairwise_map]
    have := h.srt.nod
    rw [List.nodup_iff_pairwise_ne] at this
    refine this.imp_of_mem ?_
    intro a b ha hb hab he
    obtain ⟨x, hx, rfl⟩ := List.mem_map.1 ha
    obtain ⟨y, hy, rfl⟩ := List.mem_map.1 hb
    have := h.rng x hx
    have := h.rng y hy
    exact hab (by omega)) (by
    intro x hx
    obtain ⟨e, he, rfl⟩ := List.mem_map.1 hx
    have := h.rng e he
    omega)
  simpa using h1
structure Rk (r : List Ent) (k rn rc : Nat) : Prop where
  len : k + rn ≤ r.length
  cap : rn ≤ rc
  fit : k + rc ≤ r.length
/-- The pool and the reference hold the same. -/
structure Sy (l : List Ent) (n c : Nat) (r : List Ent) (k rn rc : Nat) : Prop where
  hok : HOK l n c
  rk : Rk r k rn rc
  lok : Lok (pl r k rn)
  prm : (l.take n).Perm (pl r k rn)
theorem Sy.eq {l r : List Ent} {n c k rn rc : Nat} (h : Sy l n c r k rn rc) : n = rn := by
  have h1 := h.prm.length_eq
  rw [pl_len h.rk.len, List.length_take] at h1
  have := h.hok.lt
  omega
theorem Sy.le {l r : List Ent} {n c k rn rc : Nat} (h : Sy l n c r k rn rc) : rn ≤ 64 := by
  have := h.lok.le
  rwa [pl_len h.rk.len] at this
theorem has_perm {l S : List Ent} {n : Nat} (hn : n ≤ l.length) (hS : (l.take n).Perm S) (b : Int) : gHas l n b = hasB S b := by
  unfold gHas
  rcases ixf_cases (b := b) hn with ⟨h1, h2⟩ | ⟨i, h1, h2, h3⟩
  · rw [h1]
    have : hasB S b = false := by
      rw [← Bool.not_eq_true]
      intro h
      unfold hasB at h
      rw [List.any_eq_true] at h
      obtain ⟨e, he, hb⟩ := h
      obtain ⟨k, hk, rfl⟩ := (mem_take hn).1 (hS.mem_iff.2 he)
      exact h2 k hk (by simpa using hb)
    rw [this]; rfl
  · rw [h2, decide_eq_true (by omega)]
    symm
    unfold hasB
    rw [List.any_eq_true]
    exact ⟨at_ l i, hS.mem_iff.1 ((mem_take hn).2 ⟨i, h1, rfl⟩), by simpa using h3⟩
/-- Add refuses. -/
@[irreducible] def refuse (L : List Ent) (e : Ent) : Bool := badB e.1 e.2 || hasB L e.1
theorem refuse_t {L : List Ent} {e : Ent} : refuse L e = true ↔ badB e.1 e.2 = true ∨ hasB L e.1 = true := by
  unfold refuse; rw [Bool.or_eq_true]
theorem refuse_f {L : List Ent} {e : Ent} : refuse L e = false ↔ badB e.1 e.2 = false ∧ hasB L e.1 = false := by
  unfold refuse; exact Bool.or_eq_false_iff
theorem badB_rng {b w : Int} (h : badB b w = false) : 0 ≤ b ∧ b < 64 ∧ 0 ≤ w ∧ w ≤ 1073741824 := by
  unfold badB at h
  simp only [Bool.or_eq_false_iff, decide_eq_false_iff_not, Bool.not_eq_false', Bool.and_eq_true, decide_eq_true_eq] at h
  omega

/-- What is read off the chunks of the law. -/
structure Hg where
  h : Hx
  r : List Ent
  k : Nat
  rn : Nat
  rc : Nat
def refG (m : List (Ck C0)) : List Ent × Nat × Nat × Nat :=
  match nth m 4 with
  | ⟨_, _, _, _, _, .one [.sl a k n c]⟩ => match nth m a with
    | ⟨_, _, _, _, _, .rows 46 r⟩ => (r, k, n, c)
    | _ => ([], 0, 0, 0)
  | _ => ([], 0, 0, 0)
def matG (p : SV) (m : List (Ck C0)) : Option (Hg × List Nat) :=
  match matH p m with
  | some (h, ns) => match refG m with
    | (r, k, n, c) => some (⟨h, r, k, n, c⟩, ns)
  | none => none
/-- And the pool's, for what the reference is told. -/
def heapG (m : List (Ck C0)) : List Ent × Nat × Nat :=
  match nth m 3 with
  | ⟨_, _, _, _, _, .one [.sl a _ n c]⟩ => match nth m a with
    | ⟨_, _, _, _, _, .rows 60 l⟩ => (l, n, c)
    | _ => ([], 0, 0)
  | _ => ([], 0, 0)
theorem LocG.mono {C : Nat → Codec} {P : Program} {tg : Tg} {m : List (Ck C)} {args : List SV} {post post' : SV → List (Ck C) → Prop} (h : LocG P tg m args post) (hp : ∀ r m', post r m' → post' r m') : LocG P tg m args post' := by
  intro w hm
  obtain ⟨f, vals, h1, h2⟩ := h w hm
  exact ⟨f, vals, h1, h2.mono fun e w' ⟨r, m', e1, e2, e3, e4⟩ => ⟨r, m', e1, e2, e3, hp r m' e4⟩⟩

noncomputable def fcAddH : Fc Tryd.prog C0 where
  tg := .fn 8
  X := Hg × Ent
  args := fun (_, e) => [.ptr 0 0 0, .int .i64 e.1, .int .i64 e.2]
  mem := fun (⟨⟨bp, q, b, base, l, n, c⟩, _, _, _, _⟩, _) => hp bp q b base true true l n c
  pre := fun (⟨⟨_, _, _, _, l, n, c⟩, r, k, rn, rc⟩, _) => Sy l n c r k rn rc
  alts := fun (⟨⟨bp, q, b, base, l, n, c⟩, r, k, rn, rc⟩, e) =>
    [⟨Unit, fun _ => refuse (pl r k rn) e = true, fun _ => er (addE (badB e.1 e.2)), fun _ => hp bp q b base true true l n c⟩,
     ⟨Nat × Nat × List Ent × Nat, fun y => refuse (pl r k rn) e = false ∧ HOK y.2.2.1 (n + 1) y.2.2.2 ∧ (y.2.2.1.take (n + 1)).Perm (pl r k rn ++ [e]), fun _ => .nili, pushOut bp q b base n⟩]
  mat vs m := match vs with
    | [p, .int _ a, .int _ b] => (matG p m).map fun (h, r) => ((h, (a, b)), r)
    | _ => none
  ok := fun (⟨⟨bp, q, b, base, l, n, c⟩, r, k, rn, rc⟩, e) h => by
    have hs : Sy l n c r k rn rc := h
    have hb : n < 1048576 := by have := hs.eq; have := hs.le; omega
    have hh := has_perm hs.hok.lt hs.prm e.1
    refine (addG_sl bp q b base l n c e hs.hok hb).mono ?_
    rintro rr m' ⟨A, hA, y, hy, hr⟩
    simp only [List.mem_cons, List.not_mem_nil, or_false] at hA
    rcases hA with rfl | rfl
    · refine Ends.one () ?_ hr
      rw [refuse_t, ← hh]; exact hy
    · refine Ends.next (Ends.one y ?_ hr)
      obtain ⟨h1, h2, h3, h4⟩ := hy
      exact ⟨refuse_f.2 ⟨h1, by rw [← hh]; exact h2⟩, h3, h4.trans (hs.prm.append_right _)⟩

abbrev rx (x : Ry) : List Ent := pl x.l x.k x.n
theorem rx_eq (x : Ry) : rlist x = rx x := rfl
@[irreducible] def codeB (bad : Bool) : Int := if bad then 102 else 110
/-- What the pool holds when Add is done, by what it held. -/
structure AddP (L : List Ent) (e : Ent) (l : List Ent) (n c : Nat) : Prop where
  hok : HOK l n c
  is : (refuse L e = true ∧ (l.take n).Perm L) ∨ (refuse L e = false ∧ (l.take n).Perm (L ++ [e]))
theorem Lok.put {x y : Ry} {e : Ent} {i : Nat} (h : Lok (rx x)) (hk : x.k + x.n ≤ x.l.length) (hf : refuse (rx x) e = false) (hp : Rput x e i y) : Lok (rx y) := by
  obtain ⟨h1, h2⟩ := refuse_f.1 hf
  have hl := hp.list
  rw [rx_eq, rx_eq] at hl
  rw [hl]
  have hlen : (rx x).length = x.n := pl_len hk
  refine ⟨h.srt.put (by rw [hlen]; exact hp.le) h2 (fun j hj => ?_) (fun hi => ?_), fun a ha => ?_⟩
  · have := hp.ahead j hj
    rw [show (rx x).getD j (0, 0) = rat x j from pl_get (by have := hp.le; omega)]
    exact this
  · have := hp.stop (by rw [hlen] at hi; exact hi)
    rw [show (rx x).getD i (0, 0) = rat x i from pl_get (by rw [hlen] at hi; exact hi)]
    exact this
  · simp only [List.mem_append, List.mem_singleton] at ha
    rcases ha with (ha | rfl) | ha
    · exact h.rng a (List.mem_of_mem_take ha)
    · have := badB_rng h1; exact ⟨this.1, this.2.1⟩
    · exact h.rng a (List.mem_of_mem_drop ha)
theorem put_perm {L : List Ent} {e : Ent} {i : Nat} : (L ++ [e]).Perm (L.take i ++ [e] ++ L.drop i) := by
  rw [List.append_assoc, List.singleton_append]
  refine List.perm_append_comm.trans ?_
  rw [List.singleton_append]
  conv => lhs; rw [← List.take_append_drop i L]
  exact List.perm_middle.symm
noncomputable def fcXAdd : Fc Tryd.prog C0 where
  tg := .fn 15
  X := Ry × Int × Int × List Ent × Nat × Nat
  args := fun (_, b, w, _, _, _) => [.ptr 0 0 0, .int .i64 b, .int .i64 w]
  mem := fun (x, _, _, _, _, _) => rp true x
  pre := fun (x, b, w, l, n, c) => Rk x.l x.k x.n x.c ∧ Lok (rx x) ∧ AddP (rx x) (b, w) l n c
  alts := fun (x, b, w, l, n, c) => [⟨Unit, fun _ => refuse (rx x) (b, w) = true ∧ Sy l n c x.l x.k x.n x.c, fun _ => .int .i64 (codeB (badB b w)), fun _ => rp true x⟩,
     ⟨Nat × Ry, fun y => refuse (rx x) (b, w) = false ∧ Sy l n c y.2.l y.2.k y.2.n y.2.c, fun _ => .int .i64 0, fun y => rnew x y.2⟩]
  mat vs m := match vs with
    | [.ptr p 0 0, .int _ b, .int _ w] => match nth m p with
      | ⟨bp, bq, _, _, _, .one [.sl r k n c]⟩ => match nth m r with
        | ⟨bb, q, _, _, _, .rows 46 l⟩ => match heapG m with
          | (hl, hn, hc) => some ((⟨bp, bq, bb, q, l, k, n, c⟩, b, w, hl, hn, hc), [p, r])
        | _ => none
      | _ => none
    | _ => none
  ok := fun (x, b, w, l, n, c) h => by
    obtain ⟨hk, hL, hA⟩ := h
    have hlen : (rx x).length = x.n := pl_len hk.len
    have hb : x.n < 524288 := by have := hL.le; omega
    refine (radd_ok x b w ⟨hk.len, hk.cap, hk.fit⟩ hb).mono ?_
    rintro rr m' ⟨A, hmem, y, hy, hr⟩
    have keep : refuse (rx x) (b, w) = true → Sy l n c x.l x.k x.n x.c := by
      intro ht
      rcases hA.is with ⟨_, hp⟩ | ⟨hf, _⟩
      · exact ⟨hA.hok, hk, hL, hp⟩
      · rw [ht] at hf; cases hf
    simp only [List.mem_cons, List.not_mem_nil, or_false] at hmem
    rcases hmem with rfl | rfl | rfl
    · have ht : refuse (rx x) (b, w) = true := refuse_t.2 (.inl hy)
      refine Ends.one () ⟨ht, keep ht⟩ ⟨?_, hr.2⟩
      rw [hr.1]
      have hy : badB b w = true := hy
      unfold codeB; rw [hy]; rfl
    · have ht : refuse (rx x) (b, w) = true := refuse_t.2 (.inr hy.2)
      refine Ends.one () ⟨ht, keep ht⟩ ⟨?_, hr.2⟩
      rw [hr.1]
      have hy : badB b w = false := hy.1
      unfold codeB; rw [hy]; rfl
    · obtain ⟨h1, h2, h3⟩ := hy
      have hf : refuse (rx x) (b, w) = false := refuse_f.2 ⟨h1, h2⟩
      refine Ends.next (Ends.one y ⟨hf, ?_⟩ hr)
      rcases hA.is with ⟨ht, _⟩ | ⟨_, hp⟩
      · rw [hf] at ht; cases ht
      · have hl := h3.list
        rw [rx_eq, rx_eq] at hl
        refine ⟨hA.hok, ⟨h3.ok.len, h3.ok.cap, h3.ok.fit⟩, hL.put hk.len hf h3, ?_⟩
        rw [show pl y.2.l y.2.k y.2.n = rx y.2 from rfl, hl]
        exact hp.trans put_perm

/-! Remove. -/
structure RemP (L : List Ent) (b : Int) (l : List Ent) (n c : Nat) : Prop where
  hok : HOK l n c
  is : (hasB L b = false ∧ (l.take n).Perm L) ∨ (hasB L b = true ∧ ∃ e : Ent, e.1 = b ∧ L.Perm (e :: l.take n))
theorem hasB_perm {S T : List Ent} (h : S.Perm T) (b : Int) : hasB S b = hasB T b := by
  unfold hasB
  rw [Bool.eq_iff_iff, List.any_eq_true, List.any_eq_true]
  exact ⟨fun ⟨e, he, hb⟩ => ⟨e, h.mem_iff.1 he, hb⟩, fun ⟨e, he, hb⟩ => ⟨e, h.mem_iff.2 he, hb⟩⟩
noncomputable def fcRemH : Fc Tryd.prog C0 where
  tg := .fn 12
  X := Hg × Int
  args := fun (_, x) => [.ptr 0 0 0, .int .i64 x]
  mem := fun (⟨⟨bp, q, b, base, l, n, c⟩, _, _, _, _⟩, _) => hp bp q b base true true l n c
  pre := fun (⟨⟨_, _, _, _, l, n, c⟩, r, k, rn, rc⟩, _) => Sy l n c r k rn rc
  alts := fun (⟨⟨bp, q, b, base, l, n, c⟩, r, k, rn, rc⟩, x) => [⟨List Ent × Nat × Bool, fun y => y.2.2 = hasB (pl r k rn) x ∧ RemP (pl r k rn) x y.1 y.2.1 c, fun y => .bool (.tm y.2.2), fun y => hp bp q b base true true y.1 y.2.1 c⟩]
  mat vs m := match vs with
    | [p, .int _ x] => (matG p m).map fun (h, r) => ((h, x), r)
    | _ => none
  ok := fun (⟨⟨bp, q, b, base, l, n, c⟩, r, k, rn, rc⟩, x) h => by
    have hs : Sy l n c r k rn rc := h
    have hb : n < 1048576 := by have := hs.eq; have := hs.le; omega
    have hh := has_perm hs.hok.lt hs.prm x
    refine (remv_ok bp q b base l n c x hs.hok hb).mono ?_
    rintro rr m' ⟨A, hA, y, hy, hr⟩
    simp only [List.mem_cons, List.not_mem_nil, or_false] at hA
    subst hA
    refine Ends.one y ?_ hr
    rcases hy with ⟨h1, h2, h3, h4, e, h5, h6⟩ | ⟨h1, h2, h3, h4⟩
    · have ht : hasB (pl r k rn) x = true := by
        rw [hasB_perm (hs.prm.symm.trans h6) x]
        simp [hasB, h5]
      refine ⟨h1.trans ht.symm, by rw [h3]; exact h4, .inr ⟨ht, e, h5, ?_⟩⟩
      rw [h3]; exact hs.prm.symm.trans h6
    · have hf : hasB (pl r k rn) x = false := by
        rw [← hh]; unfold gHas; rw [h4]; rfl
      refine ⟨h1.trans hf.symm, by rw [h2, h3]; exact hs.hok, .inl ⟨hf, ?_⟩⟩
      rw [h2, h3]; exact hs.prm
theorem Lok.cut {L : List Ent} (h : Lok L) (i : Nat) : Lok (L.take i ++ L.drop (i + 1)) :=
  ⟨h.srt.cut i, fun e he => by
    rcases List.mem_append.1 he with he | he
    · exact h.rng e (List.mem_of_mem_take he)
    · exact h.rng e (List.mem_of_mem_drop he)⟩
/-- Those of one block number are one. -/
theorem Lok.one {L : List Ent} (h : Lok L) {a b : Ent} (ha : a ∈ L) (hb : b ∈ L) (he : a.1 = b.1) : a = b := by
  obtain ⟨i, hi, rfl⟩ := mem_get.1 ha
  obtain ⟨j, hj, rfl⟩ := mem_get.1 hb
  rw [h.srt.one hi hj he]
noncomputable def fcXRem : Fc Tryd.prog C0 where
  tg := .fn 16
  X := Ry × Int × List Ent × Nat × Nat
  args := fun (_, b, _, _, _) => [.ptr 0 0 0, .int .i64 b]
  mem := fun (x, _, _, _, _) => rp true x
  pre := fun (x, b, l, n, c) => Rk x.l x.k x.n x.c ∧ Lok (rx x) ∧ RemP (rx x) b l n c
  alts := fun (x, b, l, n, c) => [⟨Unit, fun _ => hasB (rx x) b = false ∧ Sy l n c x.l x.k x.n x.c, fun _ => .bool .f, fun _ => rp true x⟩,
     ⟨Nat × Ry, fun y => hasB (rx x) b = true ∧ Sy l n c y.2.l y.2.k y.2.n y.2.c, fun _ => .bool .t, fun y => rnew x y.2⟩]
  mat vs m := match vs with
    | [.ptr p 0 0, .int _ b] => match nth m p with
      | ⟨bp, bq, _, _, _, .one [.sl r k n c]⟩ => match nth m r with
        | ⟨bb, q, _, _, _, .rows 46 l⟩ => match heapG m with
          | (hl, hn, hc) => some ((⟨bp, bq, bb, q, l, k, n, c⟩, b, hl, hn, hc), [p, r])
        | _ => none
      | _ => none
    | _ => none
  ok := fun (x, b, l, n, c) h => by
    obtain ⟨hk, hL, hA⟩ := h
    have hlen : (rx x).length = x.n := pl_len hk.len
    have hb : x.n < 524288 := by have := hL.le; omega
    refine (rrem_ok x b ⟨hk.len, hk.cap, hk.fit⟩ hb).mono ?_
    rintro rr m' ⟨A, hmem, y, hy, hr⟩
    simp only [List.mem_cons, List.not_mem_nil, or_false] at hmem
    rcases hmem with rfl | rfl
    · have hy : hasB (rx x) b = false := hy
      refine Ends.one () ⟨hy, ?_⟩ hr
      rcases hA.is with ⟨_, hp⟩ | ⟨ht, _⟩
      · exact ⟨hA.hok, hk, hL, hp⟩
      · rw [hy] at ht; cases ht
    · have hy : Rcut x b y.1 y.2 := hy
      have hl := hy.list
      rw [rx_eq, rx_eq] at hl
      have hi : y.1 < (rx x).length := by rw [hlen]; exact hy.lt
      have hat : (rx x).getD y.1 (0, 0) = rat x y.1 := pl_get hy.lt
      have ht : hasB (rx x) b = true := hasB_iff.2 ⟨y.1, hi, by rw [hat]; exact hy.is⟩
      refine Ends.next (Ends.one y ⟨ht, ?_⟩ hr)
      rcases hA.is with ⟨hf, _⟩ | ⟨_, e, he, hp⟩
      · rw [hf] at ht; cases ht
      · refine ⟨hA.hok, ⟨hy.ok.len, hy.ok.cap, hy.ok.fit⟩, ?_, ?_⟩
        · rw [show pl y.2.l y.2.k y.2.n = rx y.2 from rfl, hl]; exact hL.cut _
        · rw [show pl y.2.l y.2.k y.2.n = rx y.2 from rfl, hl]
          have hc := cut_perm hi
          have ee : e = (rx x).getD y.1 (0, 0) := hL.one (hp.mem_iff.2 (by simp)) (mem_get.2 ⟨y.1, hi, rfl⟩) (by rw [he, hat]; exact hy.is.symm)
          rw [← ee] at hc
          exact (hp.symm.trans hc).cons_inv
end Go.Vx
