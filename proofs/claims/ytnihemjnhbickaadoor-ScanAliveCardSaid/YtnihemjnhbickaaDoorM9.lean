/-
  Round 22: ScanAlive: the walk.
  Round 22: the errors that are laid; the inputs.
  Conditions: none.
-/
import Derived.Test.YtnihemjnhbickaaDoorM4
import Derived.Test.YtnihemjnhbickaaDoorM8
import Derived.Test.YtnihemjnhbickaaDoorRows
import Derived.LaidMore
import Derived.ChangeOld
import Derived.Below
import Derived.Stop.Joined
import Derived.Lib.SmallJoins
set_option linter.unusedVariables false
set_option linter.unusedSimpArgs false
set_option linter.unusedSectionVars false
set_option maxRecDepth 100000
namespace Go.Vx
open Go Go.Proofs
variable [Gl]

def A11 (S : List Slot) : Inv' C0 := ⟨11, Nat, fun y => [(13, .junk), (12, .int .i64 (y : Int))], fun _ k => match k with
  | c0 :: c1 :: c2 :: c3 :: c4 :: c5 :: c6 :: c7 :: c8 :: _ => [c0, c1, c2, c3, c4, c5, c6, c7, c8]
  | _ => [], fun y => y ≤ S.length, fun y => S.length - y⟩
def A16 (S : List Slot) (L : List Pg) : Inv' C0 := ⟨16, Nat × Nat × Bool, fun y => [(12, .int .i64 (y.1 : Int)), (15, .int .i64 (y.2.1 : Int)), (14, .bool (.tm y.2.2))], fun _ k => k,
  fun y => y.1 < S.length ∧ y.2.1 ≤ L.length ∧ ∀ j, j < y.2.1 → (L.getD j pg0).pl = (S.getD y.1 slot0).pl → y.2.2 = true, fun y => L.length - y.2.1⟩
def A27 (F : List Int) : Inv' C0 := ⟨27, Nat, fun y => [(17, .int .i64 (y : Int))], fun _ k => k, fun y => y ≤ F.length, fun y => F.length - y⟩
def A30 (F : List Int) (L : List Pg) : Inv' C0 := ⟨30, Nat × Nat, fun y => [(17, .int .i64 (y.1 : Int)), (18, .int .i64 (y.2 : Int))], fun _ k => k, fun y => y.1 < F.length ∧ y.2 ≤ L.length, fun y => L.length - y.2⟩
def A37 (D : List Int) : Inv' C0 := ⟨37, Nat, fun y => [(19, .int .i64 (y : Int))], fun _ k => k, fun y => y ≤ D.length, fun y => D.length - y⟩
abbrev gA (bk pk sk : Int) : Geo := ⟨ibit .and .i64 bk 7 + 1, ibit .and .i64 pk 7 + 1, ibit .and .i64 sk 15 + 1⟩
abbrev nA (bk : Int) : Nat := (ibit .and .i64 bk 7 + 1).toNat
abbrev qA (bk : Int) (L : List Pg) : List (List Pg) := gridL (nA bk) L
set_option maxHeartbeats 16000000 in
theorem alive_law_ok (o : Bool) (b q : Nat) (l : List Pg) (n c : Nat) (bk pk sk : Int) (hn : n ≤ l.length) (ho : o = false → n = 0 ∧ c = 0) : Tells (C := C0) Tryd.prog (.fn 3) [⟨b, q, 9, false, some o, .rows 42 l⟩] [.int .i64 bk, .int .i64 pk, .int .i64 sk, .sl 0 0 n c] (.bool .t) := by
  have hb7 := and_le bk 7 (by decide)
  have hp7 := and_le pk 7 (by decide)
  have hs7 := and_le sk 15 (by decide)
  change 0 ≤ ibit .and .i64 bk 7 ∧ ibit .and .i64 bk 7 ≤ 7 at hb7
  change 0 ≤ ibit .and .i64 pk 7 ∧ ibit .and .i64 pk 7 ≤ 7 at hp7
  change 0 ≤ ibit .and .i64 sk 15 ∧ ibit .and .i64 sk 15 ≤ 15 at hs7
  have hL := tk_len hn
  refine loc_pc (P := Tryd.prog) (E := ⟨[fcOf, fcMade], [pcFirst, pcRkey, pcHead, pcAmong, pcSamePlace, pcRalive, pcSameMeta, pcRnewer], 250, [], [], []⟩) (L := [A11 (sloS (gA bk pk sk) (nA bk) (qA bk (l.take n))), A16 (sloS (gA bk pk sk) (nA bk) (qA bk (l.take n))) (l.take n), A27 (freS [] (nA bk) (qA bk (l.take n))), A30 (freS [] (nA bk) (qA bk (l.take n))) (l.take n), A37 (dirS (gA bk pk sk) [] (nA bk) (qA bk (l.take n)))]) mix Tryd.func3 rfl (by kernel_rfl) (by kernel_rfl) rfl rfl ?_
  ((conv => (arg 1; reduce)); with_reducible repeat' (first | exact Tr.yes_h | refine Tr.and_h ?_ ?_ | refine Tr.imp_h fun _ => ?_ | refine Tr.all_h fun _ => ?_ | refine Tr.lf_h ?_))
  all_goals try (first | first | (show Region.lexB _ _ = true; kernel_rfl) | (show planned _ _ = true; kernel_rfl) | exact rfl | exact True.intro | (first | exact key3 | exact zeroB | exact zeroR | exact zeroS | exact ⟨key3, zeroB⟩ | exact ⟨key3, zeroR⟩ | exact ⟨key3, zeroS⟩) | ((try dsimp only [imp, C0, cG, cInt, cPl, cSlot, cPg, gwCodec] at *); (try refine inR64 ?_ ?_) <;> (try simp only [List.length_set, List.length_append, List.length_take, List.length_drop]) <;> omega))
  · rename_i hl
    have hl : ¬ (120 : Int) < (n : Int) := of_decide_eq_false hl
    exact ⟨hn, by show n < 1000000000; omega, ho⟩
  · rename_i hl z hz
    have hl : ¬ (120 : Int) < (n : Int) := of_decide_eq_false hl
    have hz : Gth (l.take n) z := hz
    exact ⟨⟨by omega, by omega⟩, ⟨by omega, by omega⟩, ⟨by omega, by omega⟩, ⟨Nat.le_refl 0, by decide, fun _ => ⟨rfl, rfl⟩⟩, hz.le, by have := hz.n; show z.2.2.2.2.1 < 1000000; omega, hz.off⟩
  · rename_i hl z hz r hr u0
    refine Stands.one (0 : Nat) ⟨Nat.zero_le _, ?_⟩
    ((conv => (arg 1; reduce)); with_reducible repeat' (first | exact Tr.yes_h | refine Tr.and_h ?_ ?_ | refine Tr.imp_h fun _ => ?_ | refine Tr.all_h fun _ => ?_ | refine Tr.lf_h ?_))
    all_goals (first | first | (show Region.lexB _ _ = true; kernel_rfl) | (show planned _ _ = true; kernel_rfl) | exact rfl | exact True.intro | (first | exact key3 | exact zeroB | exact zeroR | exact zeroS | exact ⟨key3, zeroB⟩ | exact ⟨key3, zeroR⟩ | exact ⟨key3, zeroS⟩) | ((try dsimp only [imp, C0, cG, cInt, cPl, cSlot, cPg, gwCodec] at *); (try refine inR64 ?_ ?_) <;> (try simp only [List.length_set, List.length_append, List.length_take, List.length_drop]) <;> omega))
  · rename_i hl z hz r hr u0 i hi h11
    have hl : ¬ (120 : Int) < (n : Int) := of_decide_eq_false hl
    have hz : Gth (l.take n) z := hz
    have hO : OfS (gA bk pk sk) [] (l.take n) r := by
      have ez : (Sq.li z : List Pg) = l.take n := hz.1
      rw [← ez]; exact hr
    have hS : Gth (sloS (gA bk pk sk) (nA bk) (qA bk (l.take n))) r.1 := hO.2.1
    have hSn := hS.n
    change Nat at i
    have hi : i ≤ ((sloS (gA bk pk sk) (nA bk) (qA bk (l.take n)))).length := hi
    have h11 : (i : Int) < ((r.1.2.2.2.2.1 : Nat) : Int) := of_decide_eq_true h11
    exact hS.on (by omega)
  · rename_i hl z hz r hr u0 i hi h11
    exact of_decide_eq_true h11
  · rename_i hl z hz r hr u0 i hi h11
    have hl : ¬ (120 : Int) < (n : Int) := of_decide_eq_false hl
    have hz : Gth (l.take n) z := hz
    have hO : OfS (gA bk pk sk) [] (l.take n) r := by
      have ez : (Sq.li z : List Pg) = l.take n := hz.1
      rw [← ez]; exact hr
    have hS : Gth (sloS (gA bk pk sk) (nA bk) (qA bk (l.take n))) r.1 := hO.2.1
    have hSn := hS.n
    change Nat at i
    have hi : i ≤ ((sloS (gA bk pk sk) (nA bk) (qA bk (l.take n)))).length := hi
    have h11 : (i : Int) < ((r.1.2.2.2.2.1 : Nat) : Int) := of_decide_eq_true h11
    exact hS.on (by omega)
  · rename_i hl z hz r hr u0 i hi h11
    have hl : ¬ (120 : Int) < (n : Int) := of_decide_eq_false hl
    have hz : Gth (l.take n) z := hz
    have hO : OfS (gA bk pk sk) [] (l.take n) r := by
      have ez : (Sq.li z : List Pg) = l.take n := hz.1
      rw [← ez]; exact hr
    have hS : Gth (sloS (gA bk pk sk) (nA bk) (qA bk (l.take n))) r.1 := hO.2.1
    have hSn := hS.n
    change Nat at i
    have hi : i ≤ ((sloS (gA bk pk sk) (nA bk) (qA bk (l.take n)))).length := hi
    have h11 : (i : Int) < ((r.1.2.2.2.2.1 : Nat) : Int) := of_decide_eq_true h11
    have := hS.le
    show i < r.1.2.2.2.1.length
    omega
  · rename_i hl z hz r hr u0 i hi h11 u1
    have hl : ¬ (120 : Int) < (n : Int) := of_decide_eq_false hl
    have hz : Gth (l.take n) z := hz
    have hO : OfS (gA bk pk sk) [] (l.take n) r := by
      have ez : (Sq.li z : List Pg) = l.take n := hz.1
      rw [← ez]; exact hr
    have hS : Gth (sloS (gA bk pk sk) (nA bk) (qA bk (l.take n))) r.1 := hO.2.1
    have hSn := hS.n
    change Nat at i
    have hi : i ≤ ((sloS (gA bk pk sk) (nA bk) (qA bk (l.take n)))).length := hi
    have h11 : (i : Int) < ((r.1.2.2.2.2.1 : Nat) : Int) := of_decide_eq_true h11
    refine Stands.one (i, 0, false) ⟨⟨by show i < ((sloS (gA bk pk sk) (nA bk) (qA bk (l.take n)))).length; omega, Nat.zero_le _, fun j hj => absurd hj (Nat.not_lt_zero j)⟩, ?_⟩
    ((conv => (arg 1; reduce)); with_reducible repeat' (first | exact Tr.yes_h | refine Tr.and_h ?_ ?_ | refine Tr.imp_h fun _ => ?_ | refine Tr.all_h fun _ => ?_ | refine Tr.lf_h ?_))
    all_goals (first | first | (show Region.lexB _ _ = true; kernel_rfl) | (show planned _ _ = true; kernel_rfl) | exact rfl | exact True.intro | (first | exact key3 | exact zeroB | exact zeroR | exact zeroS | exact ⟨key3, zeroB⟩ | exact ⟨key3, zeroR⟩ | exact ⟨key3, zeroS⟩) | ((try dsimp only [imp, C0, cG, cInt, cPl, cSlot, cPg, gwCodec] at *); (try refine inR64 ?_ ?_) <;> (try simp only [List.length_set, List.length_append, List.length_take, List.length_drop]) <;> omega))
  · rename_i hl z hz r hr u0 i hi h11 u1 y hy ei h16
    exact on_of ho (by have h := of_decide_eq_true h16; omega)
  · rename_i hl z hz r hr u0 i hi h11 u1 y hy ei h16
    exact of_decide_eq_true h16
  · rename_i hl z hz r hr u0 i hi h11 u1 y hy ei h16
    exact on_of ho (by have h := of_decide_eq_true h16; omega)
  · rename_i hl z hz r hr u0 i hi h11 u1 y hy ei h16
    have h := of_decide_eq_true h16
    show y.2.1 < l.length
    omega
  · rename_i hl z hz r hr u0 i hi h11 u1 y hy ei h16 c1
    exact on_of ho (by have h := of_decide_eq_true h16; omega)
  · rename_i hl z hz r hr u0 i hi h11 u1 y hy ei h16 c1
    exact of_decide_eq_true h16
  · rename_i hl z hz r hr u0 i hi h11 u1 y hy ei h16 c1
    exact on_of ho (by have h := of_decide_eq_true h16; omega)
  · rename_i hl z hz r hr u0 i hi h11 u1 y hy ei h16 c1
    have h := of_decide_eq_true h16
    show y.2.1 < l.length
    omega
  · rename_i hl z hz r hr u0 i hi h11 u1 y hy ei h16 c1
    exact ⟨by show 0 ≤ ibit .and .i64 bk 7 + 1; omega, by show ibit .and .i64 bk 7 + 1 ≤ 64; omega, by show 0 ≤ ibit .and .i64 pk 7 + 1; omega, by show ibit .and .i64 pk 7 + 1 ≤ 64; omega, by show 0 ≤ ibit .and .i64 sk 15 + 1; omega, by show ibit .and .i64 sk 15 + 1 ≤ 536870912; omega⟩
  · rename_i hl z hz r hr u0 i hi h11 u1 y hy ei h16 c1
    have hl : ¬ (120 : Int) < (n : Int) := of_decide_eq_false hl
    have h := of_decide_eq_true h16
    exact inR64 (by show -9223372036854775808 ≤ ((y.2.1 : Nat) : Int) + 1; omega) (by show ((y.2.1 : Nat) : Int) + 1 ≤ 9223372036854775807; omega)
  · rename_i hl z hz r hr u0 i hi h11 u1 y hy ei h16 c1
    have hl : ¬ (120 : Int) < (n : Int) := of_decide_eq_false hl
    have hz : Gth (l.take n) z := hz
    have hO : OfS (gA bk pk sk) [] (l.take n) r := by
      have ez : (Sq.li z : List Pg) = l.take n := hz.1
      rw [← ez]; exact hr
    have hok : Okl (gA bk pk sk).bs (gA bk pk sk).ps (l.take n) := okl_iff.1 hO.1
    have hS : Gth (sloS (gA bk pk sk) (nA bk) (qA bk (l.take n))) r.1 := hO.2.1
    have hSn := hS.n
    obtain ⟨i2, k, fd⟩ := y
    change Nat at i
    obtain rfl : i = i2 := Int.ofNat.inj ei
    have hy : i < ((sloS (gA bk pk sk) (nA bk) (qA bk (l.take n)))).length ∧ k ≤ (l.take n).length ∧ ∀ j, j < k → ((l.take n).getD j pg0).pl = (((sloS (gA bk pk sk) (nA bk) (qA bk (l.take n)))).getD i slot0).pl → fd = true := hy
    have h16 : (k : Int) < (n : Int) := of_decide_eq_true h16
    have hg : (l.take n).getD k pg0 = l.getD k pg0 := tk_get (by omega)
    have hpm : l.getD k pg0 ∈ l.take n := by rw [← hg]; exact getD_mem (by omega)
    have hs : r.1.2.2.2.1.getD i slot0 = ((sloS (gA bk pk sk) (nA bk) (qA bk (l.take n)))).getD i slot0 := hS.get hy.1
    have hsm : ((sloS (gA bk pk sk) (nA bk) (qA bk (l.take n)))).getD i slot0 ∈ (sloS (gA bk pk sk) (nA bk) (qA bk (l.take n))) := getD_mem hy.1
    have c1 : (decide ((l.getD k pg0).cl ≠ 1) || decide (rkey (gA bk pk sk).bs (gA bk pk sk).ps (gA bk pk sk).ss (l.getD k pg0).me ≠ (r.1.2.2.2.1.getD i slot0).key)) = true := c1
    rw [hs] at c1
    refine Stands.one (i, k + 1, fd) ⟨⟨hy.1, by show k + 1 ≤ (l.take n).length; omega, ?_⟩, by show (l.take n).length - (k + 1) < (l.take n).length - k; omega, ?_⟩
    · intro j hj e
      by_cases ej : j = k
      · rw [ej, hg] at e
        obtain ⟨p, hp⟩ := pgOf hok hsm
        have ep : l.getD k pg0 = p := hok.one hpm hp.mem (e.trans hp.pl.symm)
        rw [ep, decide_eq_false (fun h => h hp.cl), decide_eq_false (fun h => h hp.key)] at c1
        cases c1
      · exact hy.2.2 j (by show j < k; have : j < k + 1 := hj; omega) e
    ((conv => (arg 1; reduce)); with_reducible repeat' (first | exact Tr.yes_h | refine Tr.and_h ?_ ?_ | refine Tr.imp_h fun _ => ?_ | refine Tr.all_h fun _ => ?_ | refine Tr.lf_h ?_))
    all_goals (first | first | (show Region.lexB _ _ = true; kernel_rfl) | (show planned _ _ = true; kernel_rfl) | exact rfl | exact True.intro | (first | exact key3 | exact zeroB | exact zeroR | exact zeroS | exact ⟨key3, zeroB⟩ | exact ⟨key3, zeroR⟩ | exact ⟨key3, zeroS⟩) | ((try dsimp only [imp, C0, cG, cInt, cPl, cSlot, cPg, gwCodec] at *); (try refine inR64 ?_ ?_) <;> (try simp only [List.length_set, List.length_append, List.length_take, List.length_drop]) <;> omega))
  · rename_i hl z hz r hr u0 i hi h11 u1 y hy ei h16 c1
    exact on_of ho (by have h := of_decide_eq_true h16; omega)
  · rename_i hl z hz r hr u0 i hi h11 u1 y hy ei h16 c1
    exact of_decide_eq_true h16
  · rename_i hl z hz r hr u0 i hi h11 u1 y hy ei h16 c1
    exact on_of ho (by have h := of_decide_eq_true h16; omega)
  · rename_i hl z hz r hr u0 i hi h11 u1 y hy ei h16 c1
    have h := of_decide_eq_true h16
    show y.2.1 < l.length
    omega
  · rename_i hl z hz r hr u0 i hi h11 u1 y hy ei h16 c1
    have hl : ¬ (120 : Int) < (n : Int) := of_decide_eq_false hl
    exact ⟨hn, by show n < 4611686018427387904; omega, ho⟩
  · rename_i hl z hz r hr u0 i hi h11 u1 y hy ei h16 c1 c2
    exact on_of ho (by have h := of_decide_eq_true h16; omega)
  · rename_i hl z hz r hr u0 i hi h11 u1 y hy ei h16 c1 c2
    exact of_decide_eq_true h16
  · rename_i hl z hz r hr u0 i hi h11 u1 y hy ei h16 c1 c2
    exact on_of ho (by have h := of_decide_eq_true h16; omega)
  · rename_i hl z hz r hr u0 i hi h11 u1 y hy ei h16 c1 c2
    have h := of_decide_eq_true h16
    show y.2.1 < l.length
    omega
  · rename_i hl z hz r hr u0 i hi h11 u1 y hy ei h16 c1 c2
    have hl : ¬ (120 : Int) < (n : Int) := of_decide_eq_false hl
    have hz : Gth (l.take n) z := hz
    have hO : OfS (gA bk pk sk) [] (l.take n) r := by
      have ez : (Sq.li z : List Pg) = l.take n := hz.1
      rw [← ez]; exact hr
    have hB : Gth (badL (nA bk) (qA bk (l.take n))) r.2.2.2.1 := hO.2.2.2.2.1
    exact ⟨hB.le, Nat.lt_of_le_of_lt (Nat.le_trans (Nat.le_of_eq hB.n) badL_len) (by show nA bk < 4611686018427387904; show (ibit .and .i64 bk 7 + 1).toNat < _; omega), hB.off⟩
  · rename_i hl z hz r hr u0 i hi h11 u1 y hy ei h16 c1
    exact on_of ho (by have h := of_decide_eq_true h16; omega)
  · rename_i hl z hz r hr u0 i hi h11 u1 y hy ei h16 c1
    exact of_decide_eq_true h16
  · rename_i hl z hz r hr u0 i hi h11 u1 y hy ei h16 c1
    exact on_of ho (by have h := of_decide_eq_true h16; omega)
  · rename_i hl z hz r hr u0 i hi h11 u1 y hy ei h16 c1
    have h := of_decide_eq_true h16
    show y.2.1 < l.length
    omega
  · rename_i hl z hz r hr u0 i hi h11 u1 y hy ei h16 c1 c2 c3
    exact on_of ho (by have h := of_decide_eq_true h16; omega)
  · rename_i hl z hz r hr u0 i hi h11 u1 y hy ei h16 c1 c2 c3
    exact of_decide_eq_true h16
  · rename_i hl z hz r hr u0 i hi h11 u1 y hy ei h16 c1 c2 c3
    exact on_of ho (by have h := of_decide_eq_true h16; omega)
  · rename_i hl z hz r hr u0 i hi h11 u1 y hy ei h16 c1 c2 c3
    have h := of_decide_eq_true h16
    show y.2.1 < l.length
    omega
  · rename_i hl z hz r hr u0 i hi h11 u1 y hy ei h16 c1 c2 c3
    exact on_of ho (by have h := of_decide_eq_true h16; omega)
  · rename_i hl z hz r hr u0 i hi h11 u1 y hy ei h16 c1 c2 c3
    exact of_decide_eq_true h16
  · rename_i hl z hz r hr u0 i hi h11 u1 y hy ei h16 c1 c2 c3
    exact on_of ho (by have h := of_decide_eq_true h16; omega)
  · rename_i hl z hz r hr u0 i hi h11 u1 y hy ei h16 c1 c2 c3
    have h := of_decide_eq_true h16
    show y.2.1 < l.length
    omega
  · rename_i hl z hz r hr u0 i hi h11 u1 y hy ei h16 c1 c2 c3
    exact on_of ho (by have h := of_decide_eq_true h16; omega)
  · rename_i hl z hz r hr u0 i hi h11 u1 y hy ei h16 c1 c2 c3
    exact of_decide_eq_true h16
  · rename_i hl z hz r hr u0 i hi h11 u1 y hy ei h16 c1 c2 c3
    exact on_of ho (by have h := of_decide_eq_true h16; omega)
  · rename_i hl z hz r hr u0 i hi h11 u1 y hy ei h16 c1 c2 c3
    have h := of_decide_eq_true h16
    show y.2.1 < l.length
    omega
  · rename_i hl z hz r hr u0 i hi h11 u1 y hy ei h16 c1 c2 c3
    exact on_of ho (by have h := of_decide_eq_true h16; omega)
  · rename_i hl z hz r hr u0 i hi h11 u1 y hy ei h16 c1 c2 c3
    exact of_decide_eq_true h16
  · rename_i hl z hz r hr u0 i hi h11 u1 y hy ei h16 c1 c2 c3
    exact on_of ho (by have h := of_decide_eq_true h16; omega)
  · rename_i hl z hz r hr u0 i hi h11 u1 y hy ei h16 c1 c2 c3
    have h := of_decide_eq_true h16
    show y.2.1 < l.length
    omega
  · rename_i hl z hz r hr u0 i hi h11 u1 y hy ei h16 c1 c2 c3
    have hl : ¬ (120 : Int) < (n : Int) := of_decide_eq_false hl
    have hz : Gth (l.take n) z := hz
    have hO : OfS (gA bk pk sk) [] (l.take n) r := by
      have ez : (Sq.li z : List Pg) = l.take n := hz.1
      rw [← ez]; exact hr
    have hok : Okl (gA bk pk sk).bs (gA bk pk sk).ps (l.take n) := okl_iff.1 hO.1
    have hgk : (gA bk pk sk).ok := ⟨⟨by show 0 ≤ ibit .and .i64 bk 7 + 1; omega, by show ibit .and .i64 bk 7 + 1 ≤ 64; omega⟩, ⟨by show 0 ≤ ibit .and .i64 pk 7 + 1; omega, by show ibit .and .i64 pk 7 + 1 ≤ 64; omega⟩, ⟨by show 0 ≤ ibit .and .i64 sk 15 + 1; omega, by show ibit .and .i64 sk 15 + 1 ≤ 536870912; omega⟩⟩
    have hS : Gth (sloS (gA bk pk sk) (nA bk) (qA bk (l.take n))) r.1 := hO.2.1
    have hSn := hS.n
    have hB : Gth (badL (nA bk) (qA bk (l.take n))) r.2.2.2.1 := hO.2.2.2.2.1
    obtain ⟨i2, k, fd⟩ := y
    change Nat at i
    obtain rfl : i = i2 := Int.ofNat.inj ei
    have hy : i < ((sloS (gA bk pk sk) (nA bk) (qA bk (l.take n)))).length ∧ k ≤ (l.take n).length ∧ ∀ j, j < k → ((l.take n).getD j pg0).pl = (((sloS (gA bk pk sk) (nA bk) (qA bk (l.take n)))).getD i slot0).pl → fd = true := hy
    have h16 : (k : Int) < (n : Int) := of_decide_eq_true h16
    have hg : (l.take n).getD k pg0 = l.getD k pg0 := tk_get (by omega)
    have hpm : l.getD k pg0 ∈ l.take n := by rw [← hg]; exact getD_mem (by omega)
    have hs : r.1.2.2.2.1.getD i slot0 = ((sloS (gA bk pk sk) (nA bk) (qA bk (l.take n)))).getD i slot0 := hS.get hy.1
    have hsm : ((sloS (gA bk pk sk) (nA bk) (qA bk (l.take n)))).getD i slot0 ∈ (sloS (gA bk pk sk) (nA bk) (qA bk (l.take n))) := getD_mem hy.1
    have ef : nmOf (nA bk) (gridL (nA bk) (Sq.li z)) = nmOf (nA bk) (qA bk (l.take n)) := by
      have ez : (Sq.li z : List Pg) = l.take n := hz.1
      rw [ez]
    exfalso
    have c1 : (decide ((l.getD k pg0).cl ≠ 1) || decide (rkey (gA bk pk sk).bs (gA bk pk sk).ps (gA bk pk sk).ss (l.getD k pg0).me ≠ (r.1.2.2.2.1.getD i slot0).key)) = false := c1
    rw [hs, Bool.or_eq_false_iff] at c1
    have q1 : (l.getD k pg0).cl = 1 := Decidable.of_not_not (of_decide_eq_false c1.1)
    have q2 : rkey (gA bk pk sk).bs (gA bk pk sk).ps (gA bk pk sk).ss (l.getD k pg0).me = (((sloS (gA bk pk sk) (nA bk) (qA bk (l.take n)))).getD i slot0).key := Decidable.of_not_not (of_decide_eq_false c1.2)
    have hc : ((headB (l.take n) (l.getD k pg0).pl.1 && !anyF (eqI (l.getD k pg0).pl.1) (r.2.2.2.1.2.2.2.1.take r.2.2.2.1.2.2.2.2.1)) && alive (l.getD k pg0).me (nmOf (nA bk) (gridL (nA bk) (Sq.li z))).f && newer (l.getD k pg0).me (r.1.2.2.2.1.getD i slot0).me) = true := c3
    rw [ef, hB.tk, hs] at hc
    have h1 := and_l (and_l (and_l hc))
    have h2 := not_t (and_r (and_l (and_l hc)))
    have h3 := and_r (and_l hc)
    have h4 := no_newer hgk hok hsm hpm q1 q2 h1 h2 h3
    exact absurd ((and_r hc).symm.trans h4) (by decide)
  · rename_i hl z hz r hr u0 i hi h11 u1 y hy ei h16 c1 c2 c3
    have hl : ¬ (120 : Int) < (n : Int) := of_decide_eq_false hl
    have h := of_decide_eq_true h16
    exact inR64 (by show -9223372036854775808 ≤ ((y.2.1 : Nat) : Int) + 1; omega) (by show ((y.2.1 : Nat) : Int) + 1 ≤ 9223372036854775807; omega)
  · rename_i hl z hz r hr u0 i hi h11 u1 y hy ei h16 c1 c2 c3
    have hl : ¬ (120 : Int) < (n : Int) := of_decide_eq_false hl
    have hz : Gth (l.take n) z := hz
    have hO : OfS (gA bk pk sk) [] (l.take n) r := by
      have ez : (Sq.li z : List Pg) = l.take n := hz.1
      rw [← ez]; exact hr
    have hok : Okl (gA bk pk sk).bs (gA bk pk sk).ps (l.take n) := okl_iff.1 hO.1
    have hS : Gth (sloS (gA bk pk sk) (nA bk) (qA bk (l.take n))) r.1 := hO.2.1
    have hSn := hS.n
    have hB : Gth (badL (nA bk) (qA bk (l.take n))) r.2.2.2.1 := hO.2.2.2.2.1
    obtain ⟨i2, k, fd⟩ := y
    change Nat at i
    obtain rfl : i = i2 := Int.ofNat.inj ei
    have hy : i < ((sloS (gA bk pk sk) (nA bk) (qA bk (l.take n)))).length ∧ k ≤ (l.take n).length ∧ ∀ j, j < k → ((l.take n).getD j pg0).pl = (((sloS (gA bk pk sk) (nA bk) (qA bk (l.take n)))).getD i slot0).pl → fd = true := hy
    have h16 : (k : Int) < (n : Int) := of_decide_eq_true h16
    have hg : (l.take n).getD k pg0 = l.getD k pg0 := tk_get (by omega)
    have hpm : l.getD k pg0 ∈ l.take n := by rw [← hg]; exact getD_mem (by omega)
    have hs : r.1.2.2.2.1.getD i slot0 = ((sloS (gA bk pk sk) (nA bk) (qA bk (l.take n)))).getD i slot0 := hS.get hy.1
    have hsm : ((sloS (gA bk pk sk) (nA bk) (qA bk (l.take n)))).getD i slot0 ∈ (sloS (gA bk pk sk) (nA bk) (qA bk (l.take n))) := getD_mem hy.1
    have ef : nmOf (nA bk) (gridL (nA bk) (Sq.li z)) = nmOf (nA bk) (qA bk (l.take n)) := by
      have ez : (Sq.li z : List Pg) = l.take n := hz.1
      rw [ez]
    have c2 : (decide ((l.getD k pg0).pl.1 = (r.1.2.2.2.1.getD i slot0).pl.1) && decide ((l.getD k pg0).pl.2 = (r.1.2.2.2.1.getD i slot0).pl.2)) = true := c2
    rw [hs] at c2
    obtain ⟨p, hp⟩ := pgOf hok hsm
    have ep : l.getD k pg0 = p := hok.one hpm hp.mem ((Prod.ext (of_decide_eq_true (and_l c2)) (of_decide_eq_true (and_r c2))).trans hp.pl.symm)
    refine Stands.one (i, k + 1, ((headB (l.take n) (l.getD k pg0).pl.1 && !anyF (eqI (l.getD k pg0).pl.1) (r.2.2.2.1.2.2.2.1.take r.2.2.2.1.2.2.2.2.1)) && alive (l.getD k pg0).me (nmOf (nA bk) (gridL (nA bk) (Sq.li z))).f && eqMe (l.getD k pg0).me (r.1.2.2.2.1.getD i slot0).me)) ⟨⟨hy.1, by show k + 1 ≤ (l.take n).length; omega, ?_⟩, by show (l.take n).length - (k + 1) < (l.take n).length - k; omega, ?_⟩
    · intro j hj e
      show ((headB (l.take n) (l.getD k pg0).pl.1 && !anyF (eqI (l.getD k pg0).pl.1) (r.2.2.2.1.2.2.2.1.take r.2.2.2.1.2.2.2.2.1)) && alive (l.getD k pg0).me (nmOf (nA bk) (gridL (nA bk) (Sq.li z))).f && eqMe (l.getD k pg0).me (r.1.2.2.2.1.getD i slot0).me) = true
      have h1 : headB (l.take n) p.pl.1 = true := hp.hd
      have h2 : anyF (eqI p.pl.1) (badL (nA bk) (qA bk (l.take n))) = false := hp.bad
      have h3 : alive p.me (nmOf (nA bk) (qA bk (l.take n))).f = true := hp.ali
      rw [ef, hB.tk, hs, ep, h1, h2, h3, eqMe_iff.2 hp.me]; rfl
    ((conv => (arg 1; reduce)); with_reducible repeat' (first | exact Tr.yes_h | refine Tr.and_h ?_ ?_ | refine Tr.imp_h fun _ => ?_ | refine Tr.all_h fun _ => ?_ | refine Tr.lf_h ?_))
    all_goals (first | first | (show Region.lexB _ _ = true; kernel_rfl) | (show planned _ _ = true; kernel_rfl) | exact rfl | exact True.intro | (first | exact key3 | exact zeroB | exact zeroR | exact zeroS | exact ⟨key3, zeroB⟩ | exact ⟨key3, zeroR⟩ | exact ⟨key3, zeroS⟩) | ((try dsimp only [imp, C0, cG, cInt, cPl, cSlot, cPg, gwCodec] at *); (try refine inR64 ?_ ?_) <;> (try simp only [List.length_set, List.length_append, List.length_take, List.length_drop]) <;> omega))
  · rename_i hl z hz r hr u0 i hi h11 u1 y hy ei h16 c1 c2 c3
    exact on_of ho (by have h := of_decide_eq_true h16; omega)
  · rename_i hl z hz r hr u0 i hi h11 u1 y hy ei h16 c1 c2 c3
    exact of_decide_eq_true h16
  · rename_i hl z hz r hr u0 i hi h11 u1 y hy ei h16 c1 c2 c3
    exact on_of ho (by have h := of_decide_eq_true h16; omega)
  · rename_i hl z hz r hr u0 i hi h11 u1 y hy ei h16 c1 c2 c3
    have h := of_decide_eq_true h16
    show y.2.1 < l.length
    omega
  · rename_i hl z hz r hr u0 i hi h11 u1 y hy ei h16 c1 c2 c3
    exact on_of ho (by have h := of_decide_eq_true h16; omega)
  · rename_i hl z hz r hr u0 i hi h11 u1 y hy ei h16 c1 c2 c3
    exact of_decide_eq_true h16
  · rename_i hl z hz r hr u0 i hi h11 u1 y hy ei h16 c1 c2 c3
    exact on_of ho (by have h := of_decide_eq_true h16; omega)
  · rename_i hl z hz r hr u0 i hi h11 u1 y hy ei h16 c1 c2 c3
    have h := of_decide_eq_true h16
    show y.2.1 < l.length
    omega
  · rename_i hl z hz r hr u0 i hi h11 u1 y hy ei h16 c1 c2 c3
    have hl : ¬ (120 : Int) < (n : Int) := of_decide_eq_false hl
    have hz : Gth (l.take n) z := hz
    have hO : OfS (gA bk pk sk) [] (l.take n) r := by
      have ez : (Sq.li z : List Pg) = l.take n := hz.1
      rw [← ez]; exact hr
    have hok : Okl (gA bk pk sk).bs (gA bk pk sk).ps (l.take n) := okl_iff.1 hO.1
    have hgk : (gA bk pk sk).ok := ⟨⟨by show 0 ≤ ibit .and .i64 bk 7 + 1; omega, by show ibit .and .i64 bk 7 + 1 ≤ 64; omega⟩, ⟨by show 0 ≤ ibit .and .i64 pk 7 + 1; omega, by show ibit .and .i64 pk 7 + 1 ≤ 64; omega⟩, ⟨by show 0 ≤ ibit .and .i64 sk 15 + 1; omega, by show ibit .and .i64 sk 15 + 1 ≤ 536870912; omega⟩⟩
    have hS : Gth (sloS (gA bk pk sk) (nA bk) (qA bk (l.take n))) r.1 := hO.2.1
    have hSn := hS.n
    have hB : Gth (badL (nA bk) (qA bk (l.take n))) r.2.2.2.1 := hO.2.2.2.2.1
    obtain ⟨i2, k, fd⟩ := y
    change Nat at i
    obtain rfl : i = i2 := Int.ofNat.inj ei
    have hy : i < ((sloS (gA bk pk sk) (nA bk) (qA bk (l.take n)))).length ∧ k ≤ (l.take n).length ∧ ∀ j, j < k → ((l.take n).getD j pg0).pl = (((sloS (gA bk pk sk) (nA bk) (qA bk (l.take n)))).getD i slot0).pl → fd = true := hy
    have h16 : (k : Int) < (n : Int) := of_decide_eq_true h16
    have hg : (l.take n).getD k pg0 = l.getD k pg0 := tk_get (by omega)
    have hpm : l.getD k pg0 ∈ l.take n := by rw [← hg]; exact getD_mem (by omega)
    have hs : r.1.2.2.2.1.getD i slot0 = ((sloS (gA bk pk sk) (nA bk) (qA bk (l.take n)))).getD i slot0 := hS.get hy.1
    have hsm : ((sloS (gA bk pk sk) (nA bk) (qA bk (l.take n)))).getD i slot0 ∈ (sloS (gA bk pk sk) (nA bk) (qA bk (l.take n))) := getD_mem hy.1
    have ef : nmOf (nA bk) (gridL (nA bk) (Sq.li z)) = nmOf (nA bk) (qA bk (l.take n)) := by
      have ez : (Sq.li z : List Pg) = l.take n := hz.1
      rw [ez]
    exfalso
    have c1 : (decide ((l.getD k pg0).cl ≠ 1) || decide (rkey (gA bk pk sk).bs (gA bk pk sk).ps (gA bk pk sk).ss (l.getD k pg0).me ≠ (r.1.2.2.2.1.getD i slot0).key)) = false := c1
    rw [hs, Bool.or_eq_false_iff] at c1
    have q1 : (l.getD k pg0).cl = 1 := Decidable.of_not_not (of_decide_eq_false c1.1)
    have q2 : rkey (gA bk pk sk).bs (gA bk pk sk).ps (gA bk pk sk).ss (l.getD k pg0).me = (((sloS (gA bk pk sk) (nA bk) (qA bk (l.take n)))).getD i slot0).key := Decidable.of_not_not (of_decide_eq_false c1.2)
    have hc : ((headB (l.take n) (l.getD k pg0).pl.1 && !anyF (eqI (l.getD k pg0).pl.1) (r.2.2.2.1.2.2.2.1.take r.2.2.2.1.2.2.2.2.1)) && alive (l.getD k pg0).me (nmOf (nA bk) (gridL (nA bk) (Sq.li z))).f && newer (l.getD k pg0).me (r.1.2.2.2.1.getD i slot0).me) = true := c3
    rw [ef, hB.tk, hs] at hc
    have h1 := and_l (and_l (and_l hc))
    have h2 := not_t (and_r (and_l (and_l hc)))
    have h3 := and_r (and_l hc)
    have h4 := no_newer hgk hok hsm hpm q1 q2 h1 h2 h3
    exact absurd ((and_r hc).symm.trans h4) (by decide)
  · rename_i hl z hz r hr u0 i hi h11 u1 y hy ei h16 c1 c2 c3
    have hl : ¬ (120 : Int) < (n : Int) := of_decide_eq_false hl
    have h := of_decide_eq_true h16
    exact inR64 (by show -9223372036854775808 ≤ ((y.2.1 : Nat) : Int) + 1; omega) (by show ((y.2.1 : Nat) : Int) + 1 ≤ 9223372036854775807; omega)
  · rename_i hl z hz r hr u0 i hi h11 u1 y hy ei h16 c1 c2 c3
    obtain ⟨i2, k, fd⟩ := y
    change Nat at i
    obtain rfl : i = i2 := Int.ofNat.inj ei
    have hy : i < ((sloS (gA bk pk sk) (nA bk) (qA bk (l.take n)))).length ∧ k ≤ (l.take n).length ∧ ∀ j, j < k → ((l.take n).getD j pg0).pl = (((sloS (gA bk pk sk) (nA bk) (qA bk (l.take n)))).getD i slot0).pl → fd = true := hy
    have h16 : (k : Int) < (n : Int) := of_decide_eq_true h16
    have hg : (l.take n).getD k pg0 = l.getD k pg0 := tk_get (by omega)
    have hpm : l.getD k pg0 ∈ l.take n := by rw [← hg]; exact getD_mem (by omega)
    have hl : ¬ (120 : Int) < (n : Int) := of_decide_eq_false hl
    have hz : Gth (l.take n) z := hz
    have hO : OfS (gA bk pk sk) [] (l.take n) r := by
      have ez : (Sq.li z : List Pg) = l.take n := hz.1
      rw [← ez]; exact hr
    have hS : Gth (sloS (gA bk pk sk) (nA bk) (qA bk (l.take n))) r.1 := hO.2.1
    have hSn := hS.n
    have hs : r.1.2.2.2.1.getD i slot0 = ((sloS (gA bk pk sk) (nA bk) (qA bk (l.take n)))).getD i slot0 := hS.get hy.1
    have hsm : ((sloS (gA bk pk sk) (nA bk) (qA bk (l.take n)))).getD i slot0 ∈ (sloS (gA bk pk sk) (nA bk) (qA bk (l.take n))) := getD_mem hy.1
    have c2 : (decide ((l.getD k pg0).pl.1 = (r.1.2.2.2.1.getD i slot0).pl.1) && decide ((l.getD k pg0).pl.2 = (r.1.2.2.2.1.getD i slot0).pl.2)) = false := c2
    rw [hs] at c2
    refine Stands.one (i, k + 1, fd) ⟨⟨hy.1, by show k + 1 ≤ (l.take n).length; omega, ?_⟩, by show (l.take n).length - (k + 1) < (l.take n).length - k; omega, ?_⟩
    · intro j hj e
      by_cases ej : j = k
      · rw [ej, hg] at e
        rw [e, decide_eq_true rfl, decide_eq_true rfl] at c2
        cases c2
      · exact hy.2.2 j (by show j < k; have : j < k + 1 := hj; omega) e
    ((conv => (arg 1; reduce)); with_reducible repeat' (first | exact Tr.yes_h | refine Tr.and_h ?_ ?_ | refine Tr.imp_h fun _ => ?_ | refine Tr.all_h fun _ => ?_ | refine Tr.lf_h ?_))
    all_goals (first | first | (show Region.lexB _ _ = true; kernel_rfl) | (show planned _ _ = true; kernel_rfl) | exact rfl | exact True.intro | (first | exact key3 | exact zeroB | exact zeroR | exact zeroS | exact ⟨key3, zeroB⟩ | exact ⟨key3, zeroR⟩ | exact ⟨key3, zeroS⟩) | ((try dsimp only [imp, C0, cG, cInt, cPl, cSlot, cPg, gwCodec] at *); (try refine inR64 ?_ ?_) <;> (try simp only [List.length_set, List.length_append, List.length_take, List.length_drop]) <;> omega))
  · rename_i hl z hz r hr u0 i hi h11 u1 y hy ei h16 c1 h0
    have hl : ¬ (120 : Int) < (n : Int) := of_decide_eq_false hl
    have hz : Gth (l.take n) z := hz
    have hO : OfS (gA bk pk sk) [] (l.take n) r := by
      have ez : (Sq.li z : List Pg) = l.take n := hz.1
      rw [← ez]; exact hr
    have hS : Gth (sloS (gA bk pk sk) (nA bk) (qA bk (l.take n))) r.1 := hO.2.1
    have hSn := hS.n
    obtain ⟨i2, k, fd⟩ := y
    change Nat at i
    obtain rfl : i = i2 := Int.ofNat.inj ei
    have hy : i < ((sloS (gA bk pk sk) (nA bk) (qA bk (l.take n)))).length ∧ k ≤ (l.take n).length ∧ ∀ j, j < k → ((l.take n).getD j pg0).pl = (((sloS (gA bk pk sk) (nA bk) (qA bk (l.take n)))).getD i slot0).pl → fd = true := hy
    have h0 : (0 : Int) < (i : Int) := of_decide_eq_true h0
    have := keyL_len (P := cntP (nA bk) (qA bk (l.take n))) (g := gA bk pk sk) ⟨⟨by show 0 ≤ ibit .and .i64 bk 7 + 1; omega, by show ibit .and .i64 bk 7 + 1 ≤ 64; omega⟩, ⟨by show 0 ≤ ibit .and .i64 pk 7 + 1; omega, by show ibit .and .i64 pk 7 + 1 ≤ 64; omega⟩, ⟨by show 0 ≤ ibit .and .i64 sk 15 + 1; omega, by show ibit .and .i64 sk 15 + 1 ≤ 536870912; omega⟩⟩
    have hlen : ((sloS (gA bk pk sk) (nA bk) (qA bk (l.take n)))).length ≤ 536871100 := Nat.le_trans sloL_len this
    exact inR64 (by show -9223372036854775808 ≤ (i : Int) - 1; omega) (by show (i : Int) - 1 ≤ 9223372036854775807; omega)
  · rename_i hl z hz r hr u0 i hi h11 u1 y hy ei h16 c1 h0
    have hl : ¬ (120 : Int) < (n : Int) := of_decide_eq_false hl
    have hz : Gth (l.take n) z := hz
    have hO : OfS (gA bk pk sk) [] (l.take n) r := by
      have ez : (Sq.li z : List Pg) = l.take n := hz.1
      rw [← ez]; exact hr
    have hS : Gth (sloS (gA bk pk sk) (nA bk) (qA bk (l.take n))) r.1 := hO.2.1
    have hSn := hS.n
    obtain ⟨i2, k, fd⟩ := y
    change Nat at i
    obtain rfl : i = i2 := Int.ofNat.inj ei
    have hy : i < ((sloS (gA bk pk sk) (nA bk) (qA bk (l.take n)))).length ∧ k ≤ (l.take n).length ∧ ∀ j, j < k → ((l.take n).getD j pg0).pl = (((sloS (gA bk pk sk) (nA bk) (qA bk (l.take n)))).getD i slot0).pl → fd = true := hy
    exact hS.on (by omega)
  · rename_i hl z hz r hr u0 i hi h11 u1 y hy ei h16 c1 h0
    obtain ⟨i2, k, fd⟩ := y
    change Nat at i
    obtain rfl : i = i2 := Int.ofNat.inj ei
    have hy : i < ((sloS (gA bk pk sk) (nA bk) (qA bk (l.take n)))).length ∧ k ≤ (l.take n).length ∧ ∀ j, j < k → ((l.take n).getD j pg0).pl = (((sloS (gA bk pk sk) (nA bk) (qA bk (l.take n)))).getD i slot0).pl → fd = true := hy
    have h0 : (0 : Int) < (i : Int) := of_decide_eq_true h0
    show (0 : Int) ≤ (i : Int) - 1
    omega
  · rename_i hl z hz r hr u0 i hi h11 u1 y hy ei h16 c1 h0
    have hl : ¬ (120 : Int) < (n : Int) := of_decide_eq_false hl
    have hz : Gth (l.take n) z := hz
    have hO : OfS (gA bk pk sk) [] (l.take n) r := by
      have ez : (Sq.li z : List Pg) = l.take n := hz.1
      rw [← ez]; exact hr
    have hS : Gth (sloS (gA bk pk sk) (nA bk) (qA bk (l.take n))) r.1 := hO.2.1
    have hSn := hS.n
    obtain ⟨i2, k, fd⟩ := y
    change Nat at i
    obtain rfl : i = i2 := Int.ofNat.inj ei
    have hy : i < ((sloS (gA bk pk sk) (nA bk) (qA bk (l.take n)))).length ∧ k ≤ (l.take n).length ∧ ∀ j, j < k → ((l.take n).getD j pg0).pl = (((sloS (gA bk pk sk) (nA bk) (qA bk (l.take n)))).getD i slot0).pl → fd = true := hy
    have h0 : (0 : Int) < (i : Int) := of_decide_eq_true h0
    show (i : Int) - 1 < ((r.1.2.2.2.2.1 : Nat) : Int)
    omega
  · rename_i hl z hz r hr u0 i hi h11 u1 y hy ei h16 c1 h0
    have hl : ¬ (120 : Int) < (n : Int) := of_decide_eq_false hl
    have hz : Gth (l.take n) z := hz
    have hO : OfS (gA bk pk sk) [] (l.take n) r := by
      have ez : (Sq.li z : List Pg) = l.take n := hz.1
      rw [← ez]; exact hr
    have hS : Gth (sloS (gA bk pk sk) (nA bk) (qA bk (l.take n))) r.1 := hO.2.1
    have hSn := hS.n
    obtain ⟨i2, k, fd⟩ := y
    change Nat at i
    obtain rfl : i = i2 := Int.ofNat.inj ei
    have hy : i < ((sloS (gA bk pk sk) (nA bk) (qA bk (l.take n)))).length ∧ k ≤ (l.take n).length ∧ ∀ j, j < k → ((l.take n).getD j pg0).pl = (((sloS (gA bk pk sk) (nA bk) (qA bk (l.take n)))).getD i slot0).pl → fd = true := hy
    exact hS.on (by omega)
  · rename_i hl z hz r hr u0 i hi h11 u1 y hy ei h16 c1 h0
    have hl : ¬ (120 : Int) < (n : Int) := of_decide_eq_false hl
    have hz : Gth (l.take n) z := hz
    have hO : OfS (gA bk pk sk) [] (l.take n) r := by
      have ez : (Sq.li z : List Pg) = l.take n := hz.1
      rw [← ez]; exact hr
    have hS : Gth (sloS (gA bk pk sk) (nA bk) (qA bk (l.take n))) r.1 := hO.2.1
    have hSn := hS.n
    obtain ⟨i2, k, fd⟩ := y
    change Nat at i
    obtain rfl : i = i2 := Int.ofNat.inj ei
    have hy : i < ((sloS (gA bk pk sk) (nA bk) (qA bk (l.take n)))).length ∧ k ≤ (l.take n).length ∧ ∀ j, j < k → ((l.take n).getD j pg0).pl = (((sloS (gA bk pk sk) (nA bk) (qA bk (l.take n)))).getD i slot0).pl → fd = true := hy
    have h0 : (0 : Int) < (i : Int) := of_decide_eq_true h0
    have := hS.le
    show ((i : Int) - 1).toNat + 0 < r.1.2.2.2.1.length
    omega
  · rename_i hl z hz r hr u0 i hi h11 u1 y hy ei h16 c1
    have hl : ¬ (120 : Int) < (n : Int) := of_decide_eq_false hl
    have hz : Gth (l.take n) z := hz
    have hO : OfS (gA bk pk sk) [] (l.take n) r := by
      have ez : (Sq.li z : List Pg) = l.take n := hz.1
      rw [← ez]; exact hr
    have hok : Okl (gA bk pk sk).bs (gA bk pk sk).ps (l.take n) := okl_iff.1 hO.1
    have hS : Gth (sloS (gA bk pk sk) (nA bk) (qA bk (l.take n))) r.1 := hO.2.1
    have hSn := hS.n
    obtain ⟨i2, k, fd⟩ := y
    change Nat at i
    obtain rfl : i = i2 := Int.ofNat.inj ei
    have hy : i < ((sloS (gA bk pk sk) (nA bk) (qA bk (l.take n)))).length ∧ k ≤ (l.take n).length ∧ ∀ j, j < k → ((l.take n).getD j pg0).pl = (((sloS (gA bk pk sk) (nA bk) (qA bk (l.take n)))).getD i slot0).pl → fd = true := hy
    have h16 : ¬ (k : Int) < (n : Int) := of_decide_eq_false h16
    have hs : r.1.2.2.2.1.getD i slot0 = ((sloS (gA bk pk sk) (nA bk) (qA bk (l.take n)))).getD i slot0 := hS.get hy.1
    have hsm : ((sloS (gA bk pk sk) (nA bk) (qA bk (l.take n)))).getD i slot0 ∈ (sloS (gA bk pk sk) (nA bk) (qA bk (l.take n))) := getD_mem hy.1
    exfalso
    have hc : (!fd || (decide ((0 : Int) < (i : Int)) && decide ((r.1.2.2.2.1.getD i slot0).key ≤ (r.1.2.2.2.1.getD (((i : Int) - 1).toNat + 0) slot0).key))) = true := c1
    obtain ⟨p, hp⟩ := pgOf hok hsm
    obtain ⟨j, hj, ej⟩ := List.getElem_of_mem hp.mem
    have hfd : fd = true := hy.2.2 j (by omega) (by rw [getD_ix hj, ej]; exact hp.pl)
    rw [hfd, Bool.not_true, Bool.false_or] at hc
    have h0 : (0 : Int) < (i : Int) := of_decide_eq_true (and_l hc)
    have h1 := of_decide_eq_true (and_r hc)
    have ei : ((i : Int) - 1).toNat + 0 = i - 1 := by omega
    rw [ei, hs, hS.get (d := slot0) (i := i - 1) (by omega)] at h1
    have := rise_at (g := gA bk pk sk) (n := nA bk) (Q := qA bk (l.take n)) (i := i) (by omega) hy.1
    omega
  · rename_i hl z hz r hr u0 i hi h11 u1 y hy ei h16 c1
    have hgk : (gA bk pk sk).ok := ⟨⟨by show 0 ≤ ibit .and .i64 bk 7 + 1; omega, by show ibit .and .i64 bk 7 + 1 ≤ 64; omega⟩, ⟨by show 0 ≤ ibit .and .i64 pk 7 + 1; omega, by show ibit .and .i64 pk 7 + 1 ≤ 64; omega⟩, ⟨by show 0 ≤ ibit .and .i64 sk 15 + 1; omega, by show ibit .and .i64 sk 15 + 1 ≤ 536870912; omega⟩⟩
    obtain ⟨i2, k, fd⟩ := y
    change Nat at i
    obtain rfl : i = i2 := Int.ofNat.inj ei
    have hy : i < ((sloS (gA bk pk sk) (nA bk) (qA bk (l.take n)))).length ∧ k ≤ (l.take n).length ∧ ∀ j, j < k → ((l.take n).getD j pg0).pl = (((sloS (gA bk pk sk) (nA bk) (qA bk (l.take n)))).getD i slot0).pl → fd = true := hy
    have hlen : ((sloS (gA bk pk sk) (nA bk) (qA bk (l.take n)))).length ≤ 536871100 := Nat.le_trans sloL_len (keyL_len hgk)
    exact inR64 (by show -9223372036854775808 ≤ (i : Int) + 1; omega) (by show (i : Int) + 1 ≤ 9223372036854775807; omega)
  · rename_i hl z hz r hr u0 i hi h11 u1 y hy ei h16 c1
    obtain ⟨i2, k, fd⟩ := y
    change Nat at i
    obtain rfl : i = i2 := Int.ofNat.inj ei
    have hy : i < ((sloS (gA bk pk sk) (nA bk) (qA bk (l.take n)))).length ∧ k ≤ (l.take n).length ∧ ∀ j, j < k → ((l.take n).getD j pg0).pl = (((sloS (gA bk pk sk) (nA bk) (qA bk (l.take n)))).getD i slot0).pl → fd = true := hy
    refine Stands.one (i + 1 : Nat) ⟨by show i + 1 ≤ ((sloS (gA bk pk sk) (nA bk) (qA bk (l.take n)))).length; omega, by show ((sloS (gA bk pk sk) (nA bk) (qA bk (l.take n)))).length - (i + 1) < ((sloS (gA bk pk sk) (nA bk) (qA bk (l.take n)))).length - i; omega, ?_⟩
    ((conv => (arg 1; reduce)); with_reducible repeat' (first | exact Tr.yes_h | refine Tr.and_h ?_ ?_ | refine Tr.imp_h fun _ => ?_ | refine Tr.all_h fun _ => ?_ | refine Tr.lf_h ?_))
    all_goals (first | first | (show Region.lexB _ _ = true; kernel_rfl) | (show planned _ _ = true; kernel_rfl) | exact rfl | exact True.intro | (first | exact key3 | exact zeroB | exact zeroR | exact zeroS | exact ⟨key3, zeroB⟩ | exact ⟨key3, zeroR⟩ | exact ⟨key3, zeroS⟩) | ((try dsimp only [imp, C0, cG, cInt, cPl, cSlot, cPg, gwCodec] at *); (try refine inR64 ?_ ?_) <;> (try simp only [List.length_set, List.length_append, List.length_take, List.length_drop]) <;> omega))
  · rename_i hl z hz r hr u0 i hi h11
    refine Stands.one (0 : Nat) ⟨Nat.zero_le _, ?_⟩
    ((conv => (arg 1; reduce)); with_reducible repeat' (first | exact Tr.yes_h | refine Tr.and_h ?_ ?_ | refine Tr.imp_h fun _ => ?_ | refine Tr.all_h fun _ => ?_ | refine Tr.lf_h ?_))
    all_goals (first | first | (show Region.lexB _ _ = true; kernel_rfl) | (show planned _ _ = true; kernel_rfl) | exact rfl | exact True.intro | (first | exact key3 | exact zeroB | exact zeroR | exact zeroS | exact ⟨key3, zeroB⟩ | exact ⟨key3, zeroR⟩ | exact ⟨key3, zeroS⟩) | ((try dsimp only [imp, C0, cG, cInt, cPl, cSlot, cPg, gwCodec] at *); (try refine inR64 ?_ ?_) <;> (try simp only [List.length_set, List.length_append, List.length_take, List.length_drop]) <;> omega))
  · rename_i hl z hz r hr u0 i hi h11 j hj h27
    have hl : ¬ (120 : Int) < (n : Int) := of_decide_eq_false hl
    have hz : Gth (l.take n) z := hz
    have hO : OfS (gA bk pk sk) [] (l.take n) r := by
      have ez : (Sq.li z : List Pg) = l.take n := hz.1
      rw [← ez]; exact hr
    have hF : Gth (freS [] (nA bk) (qA bk (l.take n))) r.2.1 := hO.2.2.1
    have hFn := hF.n
    change Nat at j
    have hj : j ≤ ((freS [] (nA bk) (qA bk (l.take n)))).length := hj
    have h27 : (j : Int) < ((r.2.1.2.2.2.2.1 : Nat) : Int) := of_decide_eq_true h27
    refine Stands.one (j, 0) ⟨⟨by show j < ((freS [] (nA bk) (qA bk (l.take n)))).length; omega, Nat.zero_le _⟩, ?_⟩
    ((conv => (arg 1; reduce)); with_reducible repeat' (first | exact Tr.yes_h | refine Tr.and_h ?_ ?_ | refine Tr.imp_h fun _ => ?_ | refine Tr.all_h fun _ => ?_ | refine Tr.lf_h ?_))
    all_goals (first | first | (show Region.lexB _ _ = true; kernel_rfl) | (show planned _ _ = true; kernel_rfl) | exact rfl | exact True.intro | (first | exact key3 | exact zeroB | exact zeroR | exact zeroS | exact ⟨key3, zeroB⟩ | exact ⟨key3, zeroR⟩ | exact ⟨key3, zeroS⟩) | ((try dsimp only [imp, C0, cG, cInt, cPl, cSlot, cPg, gwCodec] at *); (try refine inR64 ?_ ?_) <;> (try simp only [List.length_set, List.length_append, List.length_take, List.length_drop]) <;> omega))
  · rename_i hl z hz r hr u0 i hi h11 j hj h27 w hw ew h30
    exact on_of ho (by have h := of_decide_eq_true h30; omega)
  · rename_i hl z hz r hr u0 i hi h11 j hj h27 w hw ew h30
    exact of_decide_eq_true h30
  · rename_i hl z hz r hr u0 i hi h11 j hj h27 w hw ew h30
    exact on_of ho (by have h := of_decide_eq_true h30; omega)
  · rename_i hl z hz r hr u0 i hi h11 j hj h27 w hw ew h30
    have h := of_decide_eq_true h30
    show w.2 < l.length
    omega
  · rename_i hl z hz r hr u0 i hi h11 j hj h27 w hw ew h30
    have hl : ¬ (120 : Int) < (n : Int) := of_decide_eq_false hl
    have hz : Gth (l.take n) z := hz
    have hO : OfS (gA bk pk sk) [] (l.take n) r := by
      have ez : (Sq.li z : List Pg) = l.take n := hz.1
      rw [← ez]; exact hr
    have hF : Gth (freS [] (nA bk) (qA bk (l.take n))) r.2.1 := hO.2.2.1
    have hFn := hF.n
    obtain ⟨j2, k⟩ := w
    change Nat at j
    obtain rfl : j = j2 := Int.ofNat.inj ew
    have hw : j < ((freS [] (nA bk) (qA bk (l.take n)))).length ∧ k ≤ (l.take n).length := hw
    exact hF.on (by omega)
  · rename_i hl z hz r hr u0 i hi h11 j hj h27 w hw ew h30
    have hl : ¬ (120 : Int) < (n : Int) := of_decide_eq_false hl
    have hz : Gth (l.take n) z := hz
    have hO : OfS (gA bk pk sk) [] (l.take n) r := by
      have ez : (Sq.li z : List Pg) = l.take n := hz.1
      rw [← ez]; exact hr
    have hF : Gth (freS [] (nA bk) (qA bk (l.take n))) r.2.1 := hO.2.2.1
    have hFn := hF.n
    obtain ⟨j2, k⟩ := w
    change Nat at j
    obtain rfl : j = j2 := Int.ofNat.inj ew
    have hw : j < ((freS [] (nA bk) (qA bk (l.take n)))).length ∧ k ≤ (l.take n).length := hw
    show (j : Int) < ((r.2.1.2.2.2.2.1 : Nat) : Int)
    omega
  · rename_i hl z hz r hr u0 i hi h11 j hj h27 w hw ew h30
    have hl : ¬ (120 : Int) < (n : Int) := of_decide_eq_false hl
    have hz : Gth (l.take n) z := hz
    have hO : OfS (gA bk pk sk) [] (l.take n) r := by
      have ez : (Sq.li z : List Pg) = l.take n := hz.1
      rw [← ez]; exact hr
    have hF : Gth (freS [] (nA bk) (qA bk (l.take n))) r.2.1 := hO.2.2.1
    have hFn := hF.n
    obtain ⟨j2, k⟩ := w
    change Nat at j
    obtain rfl : j = j2 := Int.ofNat.inj ew
    have hw : j < ((freS [] (nA bk) (qA bk (l.take n)))).length ∧ k ≤ (l.take n).length := hw
    exact hF.on (by omega)
  · rename_i hl z hz r hr u0 i hi h11 j hj h27 w hw ew h30
    have hl : ¬ (120 : Int) < (n : Int) := of_decide_eq_false hl
    have hz : Gth (l.take n) z := hz
    have hO : OfS (gA bk pk sk) [] (l.take n) r := by
      have ez : (Sq.li z : List Pg) = l.take n := hz.1
      rw [← ez]; exact hr
    have hF : Gth (freS [] (nA bk) (qA bk (l.take n))) r.2.1 := hO.2.2.1
    have hFn := hF.n
    obtain ⟨j2, k⟩ := w
    change Nat at j
    obtain rfl : j = j2 := Int.ofNat.inj ew
    have hw : j < ((freS [] (nA bk) (qA bk (l.take n)))).length ∧ k ≤ (l.take n).length := hw
    have := hF.le
    show j < r.2.1.2.2.2.1.length
    omega
  · rename_i hl z hz r hr u0 i hi h11 j hj h27 w hw ew h30 c1
    exact on_of ho (by have h := of_decide_eq_true h30; omega)
  · rename_i hl z hz r hr u0 i hi h11 j hj h27 w hw ew h30 c1
    exact of_decide_eq_true h30
  · rename_i hl z hz r hr u0 i hi h11 j hj h27 w hw ew h30 c1
    exact on_of ho (by have h := of_decide_eq_true h30; omega)
  · rename_i hl z hz r hr u0 i hi h11 j hj h27 w hw ew h30 c1
    have h := of_decide_eq_true h30
    show w.2 < l.length
    omega
  · rename_i hl z hz r hr u0 i hi h11 j hj h27 w hw ew h30 c1
    have hl : ¬ (120 : Int) < (n : Int) := of_decide_eq_false hl
    have hz : Gth (l.take n) z := hz
    have hO : OfS (gA bk pk sk) [] (l.take n) r := by
      have ez : (Sq.li z : List Pg) = l.take n := hz.1
      rw [← ez]; exact hr
    have hF : Gth (freS [] (nA bk) (qA bk (l.take n))) r.2.1 := hO.2.2.1
    have hFn := hF.n
    obtain ⟨j2, k⟩ := w
    change Nat at j
    obtain rfl : j = j2 := Int.ofNat.inj ew
    have hw : j < ((freS [] (nA bk) (qA bk (l.take n)))).length ∧ k ≤ (l.take n).length := hw
    have h30 : (k : Int) < (n : Int) := of_decide_eq_true h30
    have hg : (l.take n).getD k pg0 = l.getD k pg0 := tk_get (by omega)
    have hpm : l.getD k pg0 ∈ l.take n := by rw [← hg]; exact getD_mem (by omega)
    have hf : r.2.1.2.2.2.1.getD j 0 = ((freS [] (nA bk) (qA bk (l.take n)))).getD j 0 := hF.get hw.1
    have hfm : ((freS [] (nA bk) (qA bk (l.take n)))).getD j 0 ∈ (freS [] (nA bk) (qA bk (l.take n))) := getD_mem hw.1
    exfalso
    have c1 : (decide ((l.getD k pg0).pl.1 = r.2.1.2.2.2.1.getD j 0) && decide ((l.getD k pg0).cl ≠ 2)) = true := c1
    rw [hf] at c1
    exact fre_no hfm hpm (of_decide_eq_true (and_l c1)) (of_decide_eq_true (and_r c1))
  · rename_i hl z hz r hr u0 i hi h11 j hj h27 w hw ew h30 c1
    have hl : ¬ (120 : Int) < (n : Int) := of_decide_eq_false hl
    have h := of_decide_eq_true h30
    exact inR64 (by show -9223372036854775808 ≤ ((w.2 : Nat) : Int) + 1; omega) (by show ((w.2 : Nat) : Int) + 1 ≤ 9223372036854775807; omega)
  · rename_i hl z hz r hr u0 i hi h11 j hj h27 w hw ew h30 c1
    obtain ⟨j2, k⟩ := w
    change Nat at j
    obtain rfl : j = j2 := Int.ofNat.inj ew
    have hw : j < ((freS [] (nA bk) (qA bk (l.take n)))).length ∧ k ≤ (l.take n).length := hw
    have h30 : (k : Int) < (n : Int) := of_decide_eq_true h30
    refine Stands.one (j, k + 1) ⟨⟨hw.1, by show k + 1 ≤ (l.take n).length; omega⟩, by show (l.take n).length - (k + 1) < (l.take n).length - k; omega, ?_⟩
    ((conv => (arg 1; reduce)); with_reducible repeat' (first | exact Tr.yes_h | refine Tr.and_h ?_ ?_ | refine Tr.imp_h fun _ => ?_ | refine Tr.all_h fun _ => ?_ | refine Tr.lf_h ?_))
    all_goals (first | first | (show Region.lexB _ _ = true; kernel_rfl) | (show planned _ _ = true; kernel_rfl) | exact rfl | exact True.intro | (first | exact key3 | exact zeroB | exact zeroR | exact zeroS | exact ⟨key3, zeroB⟩ | exact ⟨key3, zeroR⟩ | exact ⟨key3, zeroS⟩) | ((try dsimp only [imp, C0, cG, cInt, cPl, cSlot, cPg, gwCodec] at *); (try refine inR64 ?_ ?_) <;> (try simp only [List.length_set, List.length_append, List.length_take, List.length_drop]) <;> omega))
  · rename_i hl z hz r hr u0 i hi h11 j hj h27 w hw ew h30
    have hl : ¬ (120 : Int) < (n : Int) := of_decide_eq_false hl
    have hz : Gth (l.take n) z := hz
    have hO : OfS (gA bk pk sk) [] (l.take n) r := by
      have ez : (Sq.li z : List Pg) = l.take n := hz.1
      rw [← ez]; exact hr
    have hF : Gth (freS [] (nA bk) (qA bk (l.take n))) r.2.1 := hO.2.2.1
    have hFn := hF.n
    obtain ⟨j2, k⟩ := w
    change Nat at j
    obtain rfl : j = j2 := Int.ofNat.inj ew
    have hw : j < ((freS [] (nA bk) (qA bk (l.take n)))).length ∧ k ≤ (l.take n).length := hw
    exact hF.on (by omega)
  · rename_i hl z hz r hr u0 i hi h11 j hj h27 w hw ew h30
    have hl : ¬ (120 : Int) < (n : Int) := of_decide_eq_false hl
    have hz : Gth (l.take n) z := hz
    have hO : OfS (gA bk pk sk) [] (l.take n) r := by
      have ez : (Sq.li z : List Pg) = l.take n := hz.1
      rw [← ez]; exact hr
    have hF : Gth (freS [] (nA bk) (qA bk (l.take n))) r.2.1 := hO.2.2.1
    have hFn := hF.n
    obtain ⟨j2, k⟩ := w
    change Nat at j
    obtain rfl : j = j2 := Int.ofNat.inj ew
    have hw : j < ((freS [] (nA bk) (qA bk (l.take n)))).length ∧ k ≤ (l.take n).length := hw
    show (j : Int) < ((r.2.1.2.2.2.2.1 : Nat) : Int)
    omega
  · rename_i hl z hz r hr u0 i hi h11 j hj h27 w hw ew h30
    have hl : ¬ (120 : Int) < (n : Int) := of_decide_eq_false hl
    have hz : Gth (l.take n) z := hz
    have hO : OfS (gA bk pk sk) [] (l.take n) r := by
      have ez : (Sq.li z : List Pg) = l.take n := hz.1
      rw [← ez]; exact hr
    have hF : Gth (freS [] (nA bk) (qA bk (l.take n))) r.2.1 := hO.2.2.1
    have hFn := hF.n
    obtain ⟨j2, k⟩ := w
    change Nat at j
    obtain rfl : j = j2 := Int.ofNat.inj ew
    have hw : j < ((freS [] (nA bk) (qA bk (l.take n)))).length ∧ k ≤ (l.take n).length := hw
    exact hF.on (by omega)
  · rename_i hl z hz r hr u0 i hi h11 j hj h27 w hw ew h30
    have hl : ¬ (120 : Int) < (n : Int) := of_decide_eq_false hl
    have hz : Gth (l.take n) z := hz
    have hO : OfS (gA bk pk sk) [] (l.take n) r := by
      have ez : (Sq.li z : List Pg) = l.take n := hz.1
      rw [← ez]; exact hr
    have hF : Gth (freS [] (nA bk) (qA bk (l.take n))) r.2.1 := hO.2.2.1
    have hFn := hF.n
    obtain ⟨j2, k⟩ := w
    change Nat at j
    obtain rfl : j = j2 := Int.ofNat.inj ew
    have hw : j < ((freS [] (nA bk) (qA bk (l.take n)))).length ∧ k ≤ (l.take n).length := hw
    have := hF.le
    show j < r.2.1.2.2.2.1.length
    omega
  · rename_i hl z hz r hr u0 i hi h11 j hj h27 w hw ew h30
    have hl : ¬ (120 : Int) < (n : Int) := of_decide_eq_false hl
    have hz : Gth (l.take n) z := hz
    have hO : OfS (gA bk pk sk) [] (l.take n) r := by
      have ez : (Sq.li z : List Pg) = l.take n := hz.1
      rw [← ez]; exact hr
    have hD : Gth (dirS (gA bk pk sk) [] (nA bk) (qA bk (l.take n))) r.2.2.1 := hO.2.2.2.1
    have hDn := hD.n
    exact ⟨hD.le, Nat.lt_of_le_of_lt (Nat.le_trans (Nat.le_of_eq hD.n) numL_len) (by show (ibit .and .i64 bk 7 + 1).toNat < 4611686018427387904; omega), hD.off⟩
  · rename_i hl z hz r hr u0 i hi h11 j hj h27 w hw ew h30 c1
    have hl : ¬ (120 : Int) < (n : Int) := of_decide_eq_false hl
    have hz : Gth (l.take n) z := hz
    have hO : OfS (gA bk pk sk) [] (l.take n) r := by
      have ez : (Sq.li z : List Pg) = l.take n := hz.1
      rw [← ez]; exact hr
    have hF : Gth (freS [] (nA bk) (qA bk (l.take n))) r.2.1 := hO.2.2.1
    have hFn := hF.n
    obtain ⟨j2, k⟩ := w
    change Nat at j
    obtain rfl : j = j2 := Int.ofNat.inj ew
    have hw : j < ((freS [] (nA bk) (qA bk (l.take n)))).length ∧ k ≤ (l.take n).length := hw
    exact hF.on (by omega)
  · rename_i hl z hz r hr u0 i hi h11 j hj h27 w hw ew h30 c1
    have hl : ¬ (120 : Int) < (n : Int) := of_decide_eq_false hl
    have hz : Gth (l.take n) z := hz
    have hO : OfS (gA bk pk sk) [] (l.take n) r := by
      have ez : (Sq.li z : List Pg) = l.take n := hz.1
      rw [← ez]; exact hr
    have hF : Gth (freS [] (nA bk) (qA bk (l.take n))) r.2.1 := hO.2.2.1
    have hFn := hF.n
    obtain ⟨j2, k⟩ := w
    change Nat at j
    obtain rfl : j = j2 := Int.ofNat.inj ew
    have hw : j < ((freS [] (nA bk) (qA bk (l.take n)))).length ∧ k ≤ (l.take n).length := hw
    show (j : Int) < ((r.2.1.2.2.2.2.1 : Nat) : Int)
    omega
  · rename_i hl z hz r hr u0 i hi h11 j hj h27 w hw ew h30 c1
    have hl : ¬ (120 : Int) < (n : Int) := of_decide_eq_false hl
    have hz : Gth (l.take n) z := hz
    have hO : OfS (gA bk pk sk) [] (l.take n) r := by
      have ez : (Sq.li z : List Pg) = l.take n := hz.1
      rw [← ez]; exact hr
    have hF : Gth (freS [] (nA bk) (qA bk (l.take n))) r.2.1 := hO.2.2.1
    have hFn := hF.n
    obtain ⟨j2, k⟩ := w
    change Nat at j
    obtain rfl : j = j2 := Int.ofNat.inj ew
    have hw : j < ((freS [] (nA bk) (qA bk (l.take n)))).length ∧ k ≤ (l.take n).length := hw
    exact hF.on (by omega)
  · rename_i hl z hz r hr u0 i hi h11 j hj h27 w hw ew h30 c1
    have hl : ¬ (120 : Int) < (n : Int) := of_decide_eq_false hl
    have hz : Gth (l.take n) z := hz
    have hO : OfS (gA bk pk sk) [] (l.take n) r := by
      have ez : (Sq.li z : List Pg) = l.take n := hz.1
      rw [← ez]; exact hr
    have hF : Gth (freS [] (nA bk) (qA bk (l.take n))) r.2.1 := hO.2.2.1
    have hFn := hF.n
    obtain ⟨j2, k⟩ := w
    change Nat at j
    obtain rfl : j = j2 := Int.ofNat.inj ew
    have hw : j < ((freS [] (nA bk) (qA bk (l.take n)))).length ∧ k ≤ (l.take n).length := hw
    have := hF.le
    show j < r.2.1.2.2.2.1.length
    omega
  · rename_i hl z hz r hr u0 i hi h11 j hj h27 w hw ew h30 c1
    have hl : ¬ (120 : Int) < (n : Int) := of_decide_eq_false hl
    have hz : Gth (l.take n) z := hz
    have hO : OfS (gA bk pk sk) [] (l.take n) r := by
      have ez : (Sq.li z : List Pg) = l.take n := hz.1
      rw [← ez]; exact hr
    have hB : Gth (badL (nA bk) (qA bk (l.take n))) r.2.2.2.1 := hO.2.2.2.2.1
    exact ⟨hB.le, Nat.lt_of_le_of_lt (Nat.le_trans (Nat.le_of_eq hB.n) badL_len) (by show nA bk < 4611686018427387904; show (ibit .and .i64 bk 7 + 1).toNat < _; omega), hB.off⟩
  · rename_i hl z hz r hr u0 i hi h11 j hj h27 w hw ew h30 c1
    have hl : ¬ (120 : Int) < (n : Int) := of_decide_eq_false hl
    have hz : Gth (l.take n) z := hz
    have hO : OfS (gA bk pk sk) [] (l.take n) r := by
      have ez : (Sq.li z : List Pg) = l.take n := hz.1
      rw [← ez]; exact hr
    have hF : Gth (freS [] (nA bk) (qA bk (l.take n))) r.2.1 := hO.2.2.1
    have hFn := hF.n
    have hD : Gth (dirS (gA bk pk sk) [] (nA bk) (qA bk (l.take n))) r.2.2.1 := hO.2.2.2.1
    have hDn := hD.n
    have hB : Gth (badL (nA bk) (qA bk (l.take n))) r.2.2.2.1 := hO.2.2.2.2.1
    obtain ⟨j2, k⟩ := w
    change Nat at j
    obtain rfl : j = j2 := Int.ofNat.inj ew
    have hw : j < ((freS [] (nA bk) (qA bk (l.take n)))).length ∧ k ≤ (l.take n).length := hw
    have hf : r.2.1.2.2.2.1.getD j 0 = ((freS [] (nA bk) (qA bk (l.take n)))).getD j 0 := hF.get hw.1
    have hfm : ((freS [] (nA bk) (qA bk (l.take n)))).getD j 0 ∈ (freS [] (nA bk) (qA bk (l.take n))) := getD_mem hw.1
    exfalso
    have c1 : (anyF (eqI (r.2.1.2.2.2.1.getD j 0)) (r.2.2.1.2.2.2.1.take r.2.2.1.2.2.2.2.1) || anyF (eqI (r.2.1.2.2.2.1.getD j 0)) (r.2.2.2.1.2.2.2.1.take r.2.2.2.1.2.2.2.2.1)) = true := c1
    rw [hf, hD.tk, hB.tk, Bool.or_eq_true, anyF_mem, anyF_mem] at c1
    rcases c1 with h | h
    · exact fre_dir hfm h
    · exact fre_bad hfm h
  · rename_i hl z hz r hr u0 i hi h11 j hj h27 w hw ew h30 c1
    obtain ⟨j2, k⟩ := w
    change Nat at j
    obtain rfl : j = j2 := Int.ofNat.inj ew
    have hw : j < ((freS [] (nA bk) (qA bk (l.take n)))).length ∧ k ≤ (l.take n).length := hw
    have hlen : ((freS [] (nA bk) (qA bk (l.take n)))).length ≤ (ibit .and .i64 bk 7 + 1).toNat := numL_len
    exact inR64 (by show -9223372036854775808 ≤ (j : Int) + 1; omega) (by show (j : Int) + 1 ≤ 9223372036854775807; omega)
  · rename_i hl z hz r hr u0 i hi h11 j hj h27 w hw ew h30 c1
    obtain ⟨j2, k⟩ := w
    change Nat at j
    obtain rfl : j = j2 := Int.ofNat.inj ew
    have hw : j < ((freS [] (nA bk) (qA bk (l.take n)))).length ∧ k ≤ (l.take n).length := hw
    refine Stands.one (j + 1 : Nat) ⟨by show j + 1 ≤ ((freS [] (nA bk) (qA bk (l.take n)))).length; omega, by show ((freS [] (nA bk) (qA bk (l.take n)))).length - (j + 1) < ((freS [] (nA bk) (qA bk (l.take n)))).length - j; omega, ?_⟩
    ((conv => (arg 1; reduce)); with_reducible repeat' (first | exact Tr.yes_h | refine Tr.and_h ?_ ?_ | refine Tr.imp_h fun _ => ?_ | refine Tr.all_h fun _ => ?_ | refine Tr.lf_h ?_))
    all_goals (first | first | (show Region.lexB _ _ = true; kernel_rfl) | (show planned _ _ = true; kernel_rfl) | exact rfl | exact True.intro | (first | exact key3 | exact zeroB | exact zeroR | exact zeroS | exact ⟨key3, zeroB⟩ | exact ⟨key3, zeroR⟩ | exact ⟨key3, zeroS⟩) | ((try dsimp only [imp, C0, cG, cInt, cPl, cSlot, cPg, gwCodec] at *); (try refine inR64 ?_ ?_) <;> (try simp only [List.length_set, List.length_append, List.length_take, List.length_drop]) <;> omega))
  · rename_i hl z hz r hr u0 i hi h11 j hj h27
    refine Stands.one (0 : Nat) ⟨Nat.zero_le _, ?_⟩
    ((conv => (arg 1; reduce)); with_reducible repeat' (first | exact Tr.yes_h | refine Tr.and_h ?_ ?_ | refine Tr.imp_h fun _ => ?_ | refine Tr.all_h fun _ => ?_ | refine Tr.lf_h ?_))
    all_goals (first | first | (show Region.lexB _ _ = true; kernel_rfl) | (show planned _ _ = true; kernel_rfl) | exact rfl | exact True.intro | (first | exact key3 | exact zeroB | exact zeroR | exact zeroS | exact ⟨key3, zeroB⟩ | exact ⟨key3, zeroR⟩ | exact ⟨key3, zeroS⟩) | ((try dsimp only [imp, C0, cG, cInt, cPl, cSlot, cPg, gwCodec] at *); (try refine inR64 ?_ ?_) <;> (try simp only [List.length_set, List.length_append, List.length_take, List.length_drop]) <;> omega))
  · rename_i hl z hz r hr u0 i hi h11 j hj h27 v hv h37
    have hl : ¬ (120 : Int) < (n : Int) := of_decide_eq_false hl
    have hz : Gth (l.take n) z := hz
    have hO : OfS (gA bk pk sk) [] (l.take n) r := by
      have ez : (Sq.li z : List Pg) = l.take n := hz.1
      rw [← ez]; exact hr
    have hD : Gth (dirS (gA bk pk sk) [] (nA bk) (qA bk (l.take n))) r.2.2.1 := hO.2.2.2.1
    have hDn := hD.n
    change Nat at v
    have hv : v ≤ ((dirS (gA bk pk sk) [] (nA bk) (qA bk (l.take n)))).length := hv
    have h37 : (v : Int) < ((r.2.2.1.2.2.2.2.1 : Nat) : Int) := of_decide_eq_true h37
    exact hD.on (by omega)
  · rename_i hl z hz r hr u0 i hi h11 j hj h27 v hv h37
    exact of_decide_eq_true h37
  · rename_i hl z hz r hr u0 i hi h11 j hj h27 v hv h37
    have hl : ¬ (120 : Int) < (n : Int) := of_decide_eq_false hl
    have hz : Gth (l.take n) z := hz
    have hO : OfS (gA bk pk sk) [] (l.take n) r := by
      have ez : (Sq.li z : List Pg) = l.take n := hz.1
      rw [← ez]; exact hr
    have hD : Gth (dirS (gA bk pk sk) [] (nA bk) (qA bk (l.take n))) r.2.2.1 := hO.2.2.2.1
    have hDn := hD.n
    change Nat at v
    have hv : v ≤ ((dirS (gA bk pk sk) [] (nA bk) (qA bk (l.take n)))).length := hv
    have h37 : (v : Int) < ((r.2.2.1.2.2.2.2.1 : Nat) : Int) := of_decide_eq_true h37
    exact hD.on (by omega)
  · rename_i hl z hz r hr u0 i hi h11 j hj h27 v hv h37
    have hl : ¬ (120 : Int) < (n : Int) := of_decide_eq_false hl
    have hz : Gth (l.take n) z := hz
    have hO : OfS (gA bk pk sk) [] (l.take n) r := by
      have ez : (Sq.li z : List Pg) = l.take n := hz.1
      rw [← ez]; exact hr
    have hD : Gth (dirS (gA bk pk sk) [] (nA bk) (qA bk (l.take n))) r.2.2.1 := hO.2.2.2.1
    have hDn := hD.n
    change Nat at v
    have hv : v ≤ ((dirS (gA bk pk sk) [] (nA bk) (qA bk (l.take n)))).length := hv
    have h37 : (v : Int) < ((r.2.2.1.2.2.2.2.1 : Nat) : Int) := of_decide_eq_true h37
    have := hD.le
    show v < r.2.2.1.2.2.2.1.length
    omega
  · rename_i hl z hz r hr u0 i hi h11 j hj h27 v hv h37
    have hl : ¬ (120 : Int) < (n : Int) := of_decide_eq_false hl
    have hz : Gth (l.take n) z := hz
    have hO : OfS (gA bk pk sk) [] (l.take n) r := by
      have ez : (Sq.li z : List Pg) = l.take n := hz.1
      rw [← ez]; exact hr
    have hB : Gth (badL (nA bk) (qA bk (l.take n))) r.2.2.2.1 := hO.2.2.2.2.1
    exact ⟨hB.le, Nat.lt_of_le_of_lt (Nat.le_trans (Nat.le_of_eq hB.n) badL_len) (by show nA bk < 4611686018427387904; show (ibit .and .i64 bk 7 + 1).toNat < _; omega), hB.off⟩
  · rename_i hl z hz r hr u0 i hi h11 j hj h27 v hv h37 c1
    have hl : ¬ (120 : Int) < (n : Int) := of_decide_eq_false hl
    have hz : Gth (l.take n) z := hz
    have hO : OfS (gA bk pk sk) [] (l.take n) r := by
      have ez : (Sq.li z : List Pg) = l.take n := hz.1
      rw [← ez]; exact hr
    have hD : Gth (dirS (gA bk pk sk) [] (nA bk) (qA bk (l.take n))) r.2.2.1 := hO.2.2.2.1
    have hDn := hD.n
    have hB : Gth (badL (nA bk) (qA bk (l.take n))) r.2.2.2.1 := hO.2.2.2.2.1
    change Nat at v
    have hv : v ≤ ((dirS (gA bk pk sk) [] (nA bk) (qA bk (l.take n)))).length := hv
    have h37 : (v : Int) < ((r.2.2.1.2.2.2.2.1 : Nat) : Int) := of_decide_eq_true h37
    have hd : r.2.2.1.2.2.2.1.getD v 0 = ((dirS (gA bk pk sk) [] (nA bk) (qA bk (l.take n)))).getD v 0 := hD.get (by omega)
    have hdm : ((dirS (gA bk pk sk) [] (nA bk) (qA bk (l.take n)))).getD v 0 ∈ (dirS (gA bk pk sk) [] (nA bk) (qA bk (l.take n))) := getD_mem (by omega)
    exfalso
    have c1 : anyF (eqI (r.2.2.1.2.2.2.1.getD v 0)) (r.2.2.2.1.2.2.2.1.take r.2.2.2.1.2.2.2.2.1) = true := c1
    rw [hd, hB.tk, anyF_mem] at c1
    exact dir_bad hdm c1
  · rename_i hl z hz r hr u0 i hi h11 j hj h27 v hv h37 c1
    have hl : ¬ (120 : Int) < (n : Int) := of_decide_eq_false hl
    have hz : Gth (l.take n) z := hz
    have hO : OfS (gA bk pk sk) [] (l.take n) r := by
      have ez : (Sq.li z : List Pg) = l.take n := hz.1
      rw [← ez]; exact hr
    have hD : Gth (dirS (gA bk pk sk) [] (nA bk) (qA bk (l.take n))) r.2.2.1 := hO.2.2.2.1
    have hDn := hD.n
    change Nat at v
    have hv : v ≤ ((dirS (gA bk pk sk) [] (nA bk) (qA bk (l.take n)))).length := hv
    have h37 : (v : Int) < ((r.2.2.1.2.2.2.2.1 : Nat) : Int) := of_decide_eq_true h37
    have hlen : ((dirS (gA bk pk sk) [] (nA bk) (qA bk (l.take n)))).length ≤ (ibit .and .i64 bk 7 + 1).toNat := numL_len
    exact inR64 (by show -9223372036854775808 ≤ (v : Int) + 1; omega) (by show (v : Int) + 1 ≤ 9223372036854775807; omega)
  · rename_i hl z hz r hr u0 i hi h11 j hj h27 v hv h37 c1
    have hl : ¬ (120 : Int) < (n : Int) := of_decide_eq_false hl
    have hz : Gth (l.take n) z := hz
    have hO : OfS (gA bk pk sk) [] (l.take n) r := by
      have ez : (Sq.li z : List Pg) = l.take n := hz.1
      rw [← ez]; exact hr
    have hD : Gth (dirS (gA bk pk sk) [] (nA bk) (qA bk (l.take n))) r.2.2.1 := hO.2.2.2.1
    have hDn := hD.n
    change Nat at v
    have hv : v ≤ ((dirS (gA bk pk sk) [] (nA bk) (qA bk (l.take n)))).length := hv
    have h37 : (v : Int) < ((r.2.2.1.2.2.2.2.1 : Nat) : Int) := of_decide_eq_true h37
    refine Stands.one (v + 1 : Nat) ⟨by show v + 1 ≤ ((dirS (gA bk pk sk) [] (nA bk) (qA bk (l.take n)))).length; omega, by show ((dirS (gA bk pk sk) [] (nA bk) (qA bk (l.take n)))).length - (v + 1) < ((dirS (gA bk pk sk) [] (nA bk) (qA bk (l.take n)))).length - v; omega, ?_⟩
    ((conv => (arg 1; reduce)); with_reducible repeat' (first | exact Tr.yes_h | refine Tr.and_h ?_ ?_ | refine Tr.imp_h fun _ => ?_ | refine Tr.all_h fun _ => ?_ | refine Tr.lf_h ?_))
    all_goals (first | first | (show Region.lexB _ _ = true; kernel_rfl) | (show planned _ _ = true; kernel_rfl) | exact rfl | exact True.intro | (first | exact key3 | exact zeroB | exact zeroR | exact zeroS | exact ⟨key3, zeroB⟩ | exact ⟨key3, zeroR⟩ | exact ⟨key3, zeroS⟩) | ((try dsimp only [imp, C0, cG, cInt, cPl, cSlot, cPg, gwCodec] at *); (try refine inR64 ?_ ?_) <;> (try simp only [List.length_set, List.length_append, List.length_take, List.length_drop]) <;> omega))
  · rename_i hl z hz r hr u0
    exact plain0
  · rename_i hl z hz r hr u0
    exact plain0
  · rename_i hl z hz r hr u0
    show (decide (Gl.A 0 = Gl.A 0) && decide ((0 : Int) = 0)) = true
    rw [decide_eq_true rfl]; rfl
end Go.Vx
set_option maxRecDepth 100000
namespace Go.Vx
open Go Go.Proofs Go.ChangeShapes Go.WideShapes Go.Deep Go.RowKit Go.Proofs.YtnihemjnhbickaaDoor

theorem c3 : Tryd.prog.cellsOf 3 = 1 := by kernel_rfl
theorem c9 : Tryd.prog.cellsOf 9 = 1 := by kernel_rfl
theorem c36 : Tryd.prog.cellsOf 36 = 2 := by kernel_rfl
theorem c38 : Tryd.prog.cellsOf 38 = 6 := by kernel_rfl
theorem c42 : Tryd.prog.cellsOf 42 = 9 := by kernel_rfl
theorem c160 : Tryd.prog.cellsOf 160 = 1 := by kernel_rfl
/-! The errors. -/
theorem star : "*" ++ "errors.errorString" = "*errors.errorString" := by decide
theorem row142 (u : TypeId) (h : Tryd.prog.typeName? 3 u = some "*errors.errorString") : u = 142 :=
  typeName_ptr_named (nm := "errors.errorString") (by rw [star]; kernel_rfl) (by kernel_rfl) (by decide) u (by rw [star]; exact h)
def pos2 (g : Nat) : Nat := match g with
  | 0 => 1
  | 1 => 0
  | g => g
theorem pos2_ok : ∀ g, g < 2 → pos2 g < [1, 0].length ∧ [1, 0].getD (pos2 g) 0 = g := by decide
/-- The errors of a list lie there, no two at one place. -/
theorem gl_of {W : World} {L : List (String × DataW Unit)} (hL : SentL Tryd.prog "*errors.errorString" 30 L [1, 0]) (h : laidMet Tryd.prog L W) :
    ∃ G : Gl, (∀ i j, i < 2 → j < 2 → @Gl.A G i = @Gl.A G j → i = j) ∧ ∀ g, g < 2 →
    W.cell? ⟨g, 0, none⟩ = some (.iface 142 (.pointer (some (@Gl.A G g)))) ∧ W.heap[(@Gl.A G g).block]? = some (.cells (@Gl.c G g) (@Gl.t G g) (0, 0)) := by
  obtain ⟨ps, hv, hnd, hrows⟩ := h
  obtain ⟨az, hs, _⟩ := laid_all Tryd.underlying30 row142 Tryd.underlying142 Tryd.underlying160 rfl rfl Tryd.underlying9 c160 c9 _ _ _ hL hv hnd hrows
  have hex : ∀ g, ∃ p : Array Value × TypeId, g < 2 → W.heap[(az.getD (pos2 g) default).block]? = some (.cells p.1 p.2 (0, 0)) := by
    intro g
    by_cases hg : g < 2
    · obtain ⟨_, c, t, h2⟩ := hs.get (pos2 g) (pos2_ok g hg).1
      exact ⟨(c, t), fun _ => h2⟩
    · exact ⟨(#[], 0), fun h => absurd h hg⟩
  refine ⟨⟨fun g => az.getD (pos2 g) default, fun g => (Classical.choose (hex g)).1, fun g => (Classical.choose (hex g)).2⟩, ?_, ?_⟩
  · intro i j hi hj he
    have := hs.one (pos2_ok i hi).1 (pos2_ok j hj).1 he
    rw [← (pos2_ok i hi).2, ← (pos2_ok j hj).2, this]
  · intro g hg
    obtain ⟨h1, _⟩ := hs.get (pos2 g) (pos2_ok g hg).1
    rw [(pos2_ok g hg).2] at h1
    exact ⟨h1, Classical.choose_spec (hex g) hg⟩
theorem gv_is [Gl] (g : Nat) : (C0 g).gv = glV g := by unfold C0; split <;> rfl
theorem gp_is [Gl] (g : Nat) : (C0 g).gpins = glP g := by unfold C0; split <;> rfl
theorem glB_lt {g : Nat} (h : glB g = true) : g < 2 := by
  unfold glB at h
  simpa using h
abbrev LaidAt [Gl] (W : World) : Prop := ∀ g, g < 2 → W.cell? ⟨g, 0, none⟩ = some (.iface 142 (.pointer (some (Gl.A g)))) ∧ W.heap[(Gl.A g).block]? = some (.cells (Gl.c g) (Gl.t g) (0, 0))
theorem more_of [Gl] {W : World} (h : LaidAt W)
    {mem : List (Ck C0)} (hnw : noWr mem = true) (hd : ∀ c ∈ mem, ∀ t x, c.cells.Has t x → (C0 t).good W x ∧ ∀ b ∈ (C0 t).blks x, b < W.heap.size) : More (wrS mem) W W mem where
  gv g v hv := by
    rw [gv_is] at hv
    unfold glV at hv
    split at hv
    · rename_i hb
      have hg := glB_lt hb
      simp only [Option.some.injEq] at hv
      subst hv
      obtain ⟨h1, _⟩ := h g hg
      refine ⟨h1, ?_, ?_⟩
      · rcases Nat.lt_or_ge g W.heap.size with h' | h'
        · exact h'
        · simp [World.cell?, Array.getElem?_eq_none h'] at h1
      · rintro ⟨c, hc, hw, _⟩
        rw [noWr_ok hnw c hc] at hw; cases hw
    · cases hv
  gp g p hp := by
    rw [gp_is] at hp
    unfold glP at hp
    split at hp
    · rename_i hb
      have hg := glB_lt hb
      rw [List.mem_singleton] at hp
      subst hp
      obtain ⟨_, h2⟩ := h g hg
      refine ⟨h2, heap_size_of h2, ?_⟩
      rintro ⟨c, hc, hw, _⟩
      rw [noWr_ok hnw c hc] at hw; cases hw
    · cases hp
  pin p hp := by cases hp
  nod := List.nodup_nil
  deep := deep_ro hnw hd
/-! What comes in. -/
theorem place_open {H : Type} {enc : TypeId × Value → H} {w : World} {base : Nat} {spare : Nat → Bool} {held : Bool} {fuel : Nat} {cs : List Value} {y : DataW H × List MemPlace} (h : DataW.trod enc Tryd.prog w base spare held fuel 36 cs = some y) :
    ∃ b : Pl, cs[0]? = some (.int .i64 b.1) ∧ cs[1]? = some (.int .i64 b.2) := by
  obtain ⟨y0, y1, n, _, _, h0, h1⟩ := trod_struct2 Tryd.underlying36 h
  simp only [c3] at h0 h1
  obtain ⟨n0, e0, _, _⟩ := DataW.trod_int Tryd.underlying3 h0
  obtain ⟨n1, e1, _, _⟩ := DataW.trod_int Tryd.underlying3 h1
  exact ⟨(n0, n1), one_at e0, one_at e1⟩
theorem meta_open {H : Type} {enc : TypeId × Value → H} {w : World} {base : Nat} {spare : Nat → Bool} {held : Bool} {fuel : Nat} {cs : List Value} {y : DataW H × List MemPlace} (h : DataW.trod enc Tryd.prog w base spare held fuel 38 cs = some y) :
    ∃ m : Me, cs[0]? = some (.int .i64 m.kind) ∧ cs[1]? = some (.int .i64 m.key) ∧ cs[2]? = some (.int .i64 m.seq) ∧ cs[3]? = some (.int .i64 m.stamp) ∧ cs[4]? = some (.int .i64 m.batch) ∧ cs[5]? = some (.int .i64 m.floor) := by
  obtain ⟨xs, n, _, rfl, hl, hlen, hf⟩ := DataW.trod_struct Tryd.underlying38 h
  match xs, hlen with
  | [y0, y1, y2, y3, y4, y5], _ =>
    have h0 : DataW.trod enc Tryd.prog w base spare held n 3 ((cs.drop 0).take (Tryd.prog.cellsOf 3)) = some y0 := hf 0 _ rfl
    have h1 : DataW.trod enc Tryd.prog w base spare held n 3 ((cs.drop 1).take (Tryd.prog.cellsOf 3)) = some y1 := hf 1 _ rfl
    have h2 : DataW.trod enc Tryd.prog w base spare held n 3 ((cs.drop 2).take (Tryd.prog.cellsOf 3)) = some y2 := hf 2 _ rfl
    have h3 : DataW.trod enc Tryd.prog w base spare held n 3 ((cs.drop 3).take (Tryd.prog.cellsOf 3)) = some y3 := hf 3 _ rfl
    have h4 : DataW.trod enc Tryd.prog w base spare held n 3 ((cs.drop 4).take (Tryd.prog.cellsOf 3)) = some y4 := hf 4 _ rfl
    have h5 : DataW.trod enc Tryd.prog w base spare held n 3 ((cs.drop 5).take (Tryd.prog.cellsOf 3)) = some y5 := hf 5 _ rfl
    simp only [c3] at h0 h1 h2 h3 h4 h5
    obtain ⟨n0, e0, _, _⟩ := DataW.trod_int Tryd.underlying3 h0
    obtain ⟨n1, e1, _, _⟩ := DataW.trod_int Tryd.underlying3 h1
    obtain ⟨n2, e2, _, _⟩ := DataW.trod_int Tryd.underlying3 h2
    obtain ⟨n3, e3, _, _⟩ := DataW.trod_int Tryd.underlying3 h3
    obtain ⟨n4, e4, _, _⟩ := DataW.trod_int Tryd.underlying3 h4
    obtain ⟨n5, e5, _, _⟩ := DataW.trod_int Tryd.underlying3 h5
    exact ⟨⟨n0, n1, n2, n3, n4, n5⟩, one_at e0, one_at e1, one_at e2, one_at e3, one_at e4, one_at e5⟩
theorem page_open {H : Type} {enc : TypeId × Value → H} {w : World} {base : Nat} {spare : Nat → Bool} {held : Bool} {fuel : Nat} {cs : List Value} {y : DataW H × List MemPlace} (h : DataW.trod enc Tryd.prog w base spare held fuel 42 cs = some y) :
    ∃ b : Pg, ∀ f, f < 9 → cs[f]? = some (cellV cPg b f) := by
  obtain ⟨y0, y1, y2, n, _, _, h0, h1, h2⟩ := Go.Deep.trod_struct3 Tryd.underlying42 h
  simp only [c3, c36, c38] at h0 h1 h2
  obtain ⟨p, hp0, hp1⟩ := place_open h0
  obtain ⟨n0, e0, _, _⟩ := DataW.trod_int Tryd.underlying3 h1
  obtain ⟨m, m0, m1, m2, m3, m4, m5⟩ := meta_open h2
  refine ⟨⟨p, n0, m⟩, fun f hf => ?_⟩
  have p0 := part_at hp0
  have p1 := part_at hp1
  have k0 := part_at m0
  have k1 := part_at m1
  have k2 := part_at m2
  have k3 := part_at m3
  have k4 := part_at m4
  have k5 := part_at m5
  rcases f with _ | _ | _ | _ | _ | _ | _ | _ | _ | f
  · exact p0
  · exact p1
  · exact one_at e0
  · exact k0
  · exact k1
  · exact k2
  · exact k3
  · exact k4
  · exact k5
  · omega
/-- Pages that came in. -/
theorem pages_open {H : Type} {enc : TypeId × Value → H} {W : World} {base b0 : Nat} {r : Reach} {v : Value} {d : DataW H} {p : List MemPlace} (hv : Value.okWide Tryd.prog W r b0 22 v)
    (h : DataW.Trod enc Tryd.prog W base (fun _ => true) true 22 v d p) : ∃ (a : Option Addr) (n c : Nat) (l : List Pg), v = .slice a n c ∧ IsPart cPg W a n c l := by
  obtain ⟨a, n, c, rfl⟩ := okWide_slice Tryd.underlying22 hv
  obtain ⟨fuel, hf⟩ := h
  have hf : DataW.trod enc Tryd.prog W base (fun _ => true) true fuel 22 [.slice a n c] = some (d, p) := by simpa [Value.cells] using hf
  obtain ⟨zs, hz⟩ := rows_open2 cPg Tryd.underlying22 c42 (fun _ _ _ h => page_open h) (fun x hx => okWide_at Tryd.underlying22 (a := x) (by rw [hx] at hv; exact hv)) hf
  exact ⟨a, n, c, zs, rfl, hz.part⟩
/-- A record that came in. -/
theorem record_open {H : Type} {enc : TypeId × Value → H} {W : World} {base b0 : Nat} {r : Reach} {v : Value} {d : DataW H} {p : List MemPlace} (hv : Value.okWide Tryd.prog W r b0 38 v)
    (h : DataW.Trod enc Tryd.prog W base (fun _ => true) true 38 v d p) : ∃ m : Me, v = .agg #[.int .i64 m.kind, .int .i64 m.key, .int .i64 m.seq, .int .i64 m.stamp, .int .i64 m.batch, .int .i64 m.floor] := by
  obtain ⟨cs, rfl, hsz⟩ := okWide_struct Tryd.underlying38 hv
  obtain ⟨fuel, hf⟩ := h
  rw [c38] at hsz
  obtain ⟨l⟩ := cs
  match l, hsz with
  | [v0, v1, v2, v3, v4, v5], _ =>
    have hf : DataW.trod enc Tryd.prog W base (fun _ => true) true fuel 38 [v0, v1, v2, v3, v4, v5] = some (d, p) := hf
    obtain ⟨m, h0, h1, h2, h3, h4, h5⟩ := meta_open hf
    cases h0; cases h1; cases h2; cases h3; cases h4; cases h5
    exact ⟨m, rfl⟩
theorem pages_mem [Gl] {w : World} {a : Option Addr} {n c : Nat} {l : List Pg} (b1 : IsPart (C0 42) w a n c l) (hG : LaidAt w) : MemOK (C := C0) (wrS (C := C0) [inCk 42 a l]) w w [inCk 42 a l] := by
  refine memRo rfl (fun x hx ho => ?_) (fun x hx ho => ?_) (more_of hG rfl fun x hx t y hy => ?_)
  · rw [List.mem_singleton.1 hx] at ho ⊢
    exact b1.ok _ ho
  · rw [List.mem_singleton.1 hx] at ho ⊢
    exact b1.lt ho
  · rw [List.mem_singleton.1 hx] at hy
    obtain ⟨e, _⟩ := Cells.Has.inv hy
    subst e
    exact ⟨trivial, fun b hb => by cases hb⟩
/-- Two lists of pages that came in. -/
theorem pages_mem2 [Gl] {w : World} {a : Option Addr} {n c : Nat} {l : List Pg} {a2 : Option Addr} {n2 c2 : Nat} {l2 : List Pg} (b1 : IsPart (C0 42) w a n c l) (b2 : IsPart (C0 42) w a2 n2 c2 l2) (hG : LaidAt w) :
    MemOK (C := C0) (wrS (C := C0) [inCk 42 a l, inCk 42 a2 l2]) w w [inCk 42 a l, inCk 42 a2 l2] := by
  refine memRo rfl (fun x hx ho => ?_) (fun x hx ho => ?_) (more_of hG rfl fun x hx t y hy => ?_)
  · simp only [List.mem_cons, List.not_mem_nil, or_false] at hx
    rcases hx with rfl | rfl
    · exact b1.ok _ ho
    · exact b2.ok _ ho
  · simp only [List.mem_cons, List.not_mem_nil, or_false] at hx
    rcases hx with rfl | rfl
    · exact b1.lt ho
    · exact b2.lt ho
  · simp only [List.mem_cons, List.not_mem_nil, or_false] at hx
    rcases hx with rfl | rfl
    all_goals
      obtain ⟨e, _⟩ := Cells.Has.inv hy
      subst e
      exact ⟨trivial, fun b hb => by cases hb⟩
end Go.Vx
