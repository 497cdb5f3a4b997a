/-
  Round 21: VictimLeast, what it computes.
  Conditions: none.
-/
import Derived.Test.YtoiiehjnfdhciaaViL
set_option maxRecDepth 100000
set_option linter.unusedVariables false
set_option linter.unusedSimpArgs false
namespace Go.Vi
open Go Go.Vx Go.Proofs

noncomputable def fcFirst : Fc Try.prog C1 where
  tg := .fn 6
  X := Unit
  args := fun _ => []
  mem := fun _ => []
  pre := fun _ => True
  alts := fun _ => [⟨Unit, fun _ => True, fun _ => .bool .t, fun y => []⟩]
  mat vs m := some ((), [])
  ok := fun _ _ => first_ok
theorem getB {a b : List Blk} {N k : Nat} (h : a.take N = b.take N) (hk : k < N) : a.getD k z0 = b.getD k z0 := by
  have e : ∀ l : List Blk, (l.take N).getD k z0 = l.getD k z0 := fun l => by
    simp only [List.getD_eq_getElem?_getD, List.getElem?_take]
    rw [if_pos hk]
  rw [← e a, ← e b, h]
theorem itm_mem {l : List Blk} {N k : Nat} (hk : k < N) : (l.getD k z0, (k : Int)) ∈ itms l N := List.mem_map.2 ⟨k, List.mem_range.2 hk, rfl⟩
theorem head_le {l : List Blk} {N k : Nat} {e : Itm} (h : Head (itms l N) e) (hk : k < N) : fst1 e.1 ≤ fst1 (l.getD k z0) ∧ (fst1 e.1 = fst1 (l.getD k z0) → e.1.2.1 ≤ (l.getD k z0).2.1) := by
  have h1 := h.2 _ (itm_mem hk)
  have h2 : ¬ lessI (l.getD k z0, (k : Int)) e = true := by rw [h1]; decide
  rw [lessI_t] at h2
  simp only at h2
  omega
theorem head_fail {l : List Blk} {N k : Nat} {e : Itm} (h : Head (itms l N) e) (hk : k < N) (hf : failed (l.getD k z0) = true) : failed e.1 = true := by
  have h1 := (head_le h hk).1
  unfold fst1 at h1
  rw [if_pos hf] at h1
  cases he : failed e.1 with
  | true => rfl
  | false => rw [if_neg (by rw [show e.1.2.2.2 = false from he]; decide)] at h1; omega
theorem head_live {l : List Blk} {N k : Nat} {e : Itm} (h : Head (itms l N) e) (hk : k < N) (hf : failed (l.getD k z0) = false) (he : failed e.1 = false) : e.1.2.1 ≤ (l.getD k z0).2.1 := by
  refine (head_le h hk).2 ?_
  unfold fst1
  rw [show e.1.2.2.2 = false from he, show (l.getD k z0).2.2.2 = false from hf]
theorem cold_worn {l : List Blk} {N k : Nat} {c : Blk} (h : Coldest (l.take N) c) (hk : k < N) (hl : N ≤ l.length) (hf : failed (l.getD k z0) = false) : c.2.2.1 ≤ (l.getD k z0).2.2.1 := by
  have h1 := h.2 (l.getD k z0) ((Hg.mem_take (d := z0) hl).2 ⟨k, hk, rfl⟩) (by show (!failed _) = true; rw [hf]; rfl)
  rw [co_lt] at h1
  omega
/-- Is there a good one among the first i? -/
def anyG (bl : List Blk) (i : Nat) : Bool := (bl.take i).any nf
theorem anyG_succ {bl : List Blk} {i : Nat} (h : i < bl.length) : anyG bl (i + 1) = (anyG bl i || nf (bl.getD i z0)) := by
  unfold anyG
  rw [take_snoc (d := z0) h]
  simp
theorem anyG_zero {bl : List Blk} {i : Nat} (h : i ≤ 0) : anyG bl i = false := by unfold anyG; rw [show i = 0 by omega]; rfl
theorem anyG_end {bl l : List Blk} {N i : Nat} (hi : i ≤ N) (hc : decide ((i : Int) < (N : Int)) = false) (h : l.take N = bl.take N) : anyG bl i = (l.take N).any nf := by
  have hc := of_decide_eq_false hc
  rw [h, show i = N by omega]; rfl
theorem any_no {l : List Blk} (h : ∀ x ∈ l, nf x = false) : l.any nf = false := by
  rw [List.any_eq_false]
  intro x hx
  rw [h x hx]; decide
theorem any_yes {l : List Blk} {c : Blk} (h : Coldest l c) : l.any nf = true := by
  rw [List.any_eq_true]
  exact ⟨c, h.1.1, h.1.2⟩
theorem dec {i N : Nat} (h : i < N) : N - Nat.succ i < N - i := by omega
theorem lt_of {i N : Nat} (hc : decide ((i : Int) < (N : Int)) = true) : i < N := by have := of_decide_eq_true hc; omega
/-- A good one there: it has no fewer live pages than the first, no less wear than the coldest. -/
theorem bad_no {l bl : List Blk} {N i : Nat} {e : Itm} {c : Blk} (h : l.take N = bl.take N) (hi : i < N) (hl : N ≤ l.length) (he : Head (itms l N) e) (hc : Coldest (l.take N) c) (hf : failed (bl.getD i z0) = false)
    (hb : ((!e.1.2.2.2 && decide (e.1.2.1 > (bl.getD i z0).2.1)) || decide (c.2.2.1 > (bl.getD i z0).2.2.1) || c.2.2.2) = true) : False := by
  rw [← getB h hi] at hf hb
  have h1 := cold_worn hc hi hl hf
  have h2 : c.2.2.2 = false := by have := hc.1.2; simpa using this
  rw [h2] at hb
  simp only [Bool.or_false, Bool.or_eq_true, Bool.and_eq_true, decide_eq_true_eq, Bool.not_eq_true'] at hb
  rcases hb with ⟨h3, h4⟩ | h4
  · have := head_live he hi hf h3; omega
  · omega
def Lt (bl : List Blk) (N : Nat) : Inv' C1 := ⟨9, Nat, fun i => [(9, .bool (.tm (anyG bl i))), (10, .int .i64 i)], fun i m => m, fun i => i ≤ N, fun i => N - i⟩
set_option maxHeartbeats 8000000 in
theorem least_ok (b q : Nat) (bl : List Blk) (N m : Nat) (hN : N ≤ bl.length) :
    Tells (C := C1) Try.prog (.fn 5) [⟨b, q, 4, false, none, .rows 39 bl⟩] [.sl 0 0 N m] (.bool .t) := by
  refine loc_pc (P := Try.prog) (E := ⟨[fcFirst, fcMade, fcMade0, fcGreedy, fcGreedy0, fcCold, fcCold0, fcGap0, fcGap00, fcOrder, fcOrder0], [], 98, []⟩) (L := [Lt bl N]) mix Try.func5 rfl (by kernel_rfl) (by kernel_rfl) rfl rfl ?_
  ((conv => (arg 1; reduce)); with_reducible repeat' (first | exact Tr.yes_h | refine Tr.and_h ?_ ?_ | refine Tr.imp_h fun _ => ?_ | refine Tr.all_h fun _ => ?_ | refine Tr.lf_h ?_))
  all_goals try first | (show Region.lexB _ _ = true; kernel_rfl) | (show planned _ _ = true; kernel_rfl) | exact rfl | exact True.intro
  all_goals try (exfalso; have h0 : N = 0 := (by assumption : N = 0); have h9 : _ < (N : Int) := of_decide_eq_true ‹decide (_ < (N : Int)) = true›; omega)
  all_goals try (have h9 : _ < (N : Int) := of_decide_eq_true ‹decide (_ < (N : Int)) = true›; have h8 : ¬ (100 : Int) < (N : Int) := of_decide_eq_false ‹decide ((100 : Int) < (N : Int)) = false›; first | omega | exact inR64 (by omega) (by omega))
  all_goals try (exfalso; have h0 : N = 0 := (by assumption : N = 0); have h1 := (by assumption : 0 < N ∧ N ≤ _ ∧ _ ∧ _).1; omega)
  all_goals try (exfalso; exact absurd ‹decide ((0 : Int) ≤ 0) = false› (by decide))
  · have h8 : ¬ (100 : Int) < (N : Int) := of_decide_eq_false ‹decide ((100 : Int) < (N : Int)) = false›
    exact ⟨hN, by omega⟩
  · refine Stands.one (0 : Nat) ⟨Nat.zero_le _, ?_⟩
    ((conv => (arg 1; reduce)); with_reducible repeat' (first | exact Tr.yes_h | refine Tr.and_h ?_ ?_ | refine Tr.imp_h fun _ => ?_ | refine Tr.all_h fun _ => ?_ | refine Tr.lf_h ?_))
    all_goals (first | first | (show Region.lexB _ _ = true; kernel_rfl) | (show planned _ _ = true; kernel_rfl) | exact rfl | exact True.intro | ((try dsimp only [imp, C1, cBlk, cItm] at *); (try refine inR64 ?_ ?_) <;> (try simp only [List.length_set, List.length_append, List.length_take, List.length_drop]) <;> omega))
  · have h0 : N = 0 := (by assumption : N = 0)
    rw [h0]; rfl
  · rename_i u hu h8 v hv w hw c1 x hx c2 i hi hc hd
    exfalso
    have h0 : N = 0 := hv
    subst h0
    have e : anyG bl i = false := anyG_zero hi
    rw [e] at hd
    exact absurd hd (by decide)
  · rename_i u hu h8 y hy
    have h8 := of_decide_eq_false h8
    exact ⟨Nat.le_trans hy.2.1 hy.2.2.1, by omega⟩
  · rename_i u hu h8 y hy e he c1
    have h8 := of_decide_eq_false h8
    exact ⟨Nat.le_trans hy.2.1 hy.2.2.1, by omega⟩
  · refine Stands.one (0 : Nat) ⟨Nat.zero_le _, ?_⟩
    ((conv => (arg 1; reduce)); with_reducible repeat' (first | exact Tr.yes_h | refine Tr.and_h ?_ ?_ | refine Tr.imp_h fun _ => ?_ | refine Tr.all_h fun _ => ?_ | refine Tr.lf_h ?_))
    all_goals (first | first | (show Region.lexB _ _ = true; kernel_rfl) | (show planned _ _ = true; kernel_rfl) | exact rfl | exact True.intro | ((try dsimp only [imp, C1, cBlk, cItm] at *); (try refine inR64 ?_ ?_) <;> (try simp only [List.length_set, List.length_append, List.length_take, List.length_drop]) <;> omega))
  · rename_i u hu h8 y hy e he c1 v hv c2 i hi hc hf hg
    exfalso
    have hf' : failed (bl.getD i z0) = true := hf
    rw [← getB hy.2.2.2 (lt_of hc)] at hf'
    have h := head_fail he.2 (lt_of hc) hf'
    have hg : (!failed e.1) = true := hg
    rw [h] at hg
    exact absurd hg (by decide)
  · rename_i u hu h8 y hy e he c1 v hv c2 i hi hc hf hg
    have hf' : failed (bl.getD i z0) = true := hf
    have hh := lt_of hc
    have e2 : anyG bl (Nat.succ i) = anyG bl i := (anyG_succ (Nat.lt_of_lt_of_le hh hN)).trans (by show (anyG bl i || !failed (bl.getD i z0)) = _; rw [hf']; simp)
    refine Stands.one (Nat.succ i) ⟨lt_of hc, ?_, ?_⟩
    · exact dec hh
    ((conv => (arg 1; reduce)); with_reducible repeat' (first | exact Tr.yes_h | refine Tr.and_h ?_ ?_ | refine Tr.imp_h fun _ => ?_ | refine Tr.all_h fun _ => ?_ | refine Tr.lf_h ?_))
    all_goals first | (first | first | (show Region.lexB _ _ = true; kernel_rfl) | (show planned _ _ = true; kernel_rfl) | exact rfl | exact True.intro | ((try dsimp only [imp, C1, cBlk, cItm] at *); (try refine inR64 ?_ ?_) <;> (try simp only [List.length_set, List.length_append, List.length_take, List.length_drop]) <;> omega)) | exact e2.symm | exact e2
  · rename_i u hu h8 y hy e he c1 v hv c2 i hi hc hf hb
    exfalso
    have hf' : failed (bl.getD i z0) = false := hf
    rw [← getB hy.2.2.2 (lt_of hc)] at hf'
    have hz := (hv : ∀ x ∈ y.2.2.1.take N, nf x = false) (y.2.2.1.getD i z0) ((Hg.mem_take (d := z0) (Nat.le_trans hy.2.1 hy.2.2.1)).2 ⟨i, lt_of hc, rfl⟩)
    have hz : (!failed (y.2.2.1.getD i z0)) = false := hz
    rw [hf'] at hz
    exact absurd hz (by decide)
  · rename_i u hu h8 y hy e he c1 v hv c2 i hi hc hf hb
    have hf' : failed (bl.getD i z0) = false := hf
    have hh := lt_of hc
    have e2 : anyG bl (Nat.succ i) = true := (anyG_succ (Nat.lt_of_lt_of_le hh hN)).trans (by show (anyG bl i || !failed (bl.getD i z0)) = _; rw [hf']; simp)
    refine Stands.one (Nat.succ i) ⟨lt_of hc, ?_, ?_⟩
    · exact dec hh
    ((conv => (arg 1; reduce)); with_reducible repeat' (first | exact Tr.yes_h | refine Tr.and_h ?_ ?_ | refine Tr.imp_h fun _ => ?_ | refine Tr.all_h fun _ => ?_ | refine Tr.lf_h ?_))
    all_goals first | (first | first | (show Region.lexB _ _ = true; kernel_rfl) | (show planned _ _ = true; kernel_rfl) | exact rfl | exact True.intro | ((try dsimp only [imp, C1, cBlk, cItm] at *); (try refine inR64 ?_ ?_) <;> (try simp only [List.length_set, List.length_append, List.length_take, List.length_drop]) <;> omega)) | exact e2.symm | exact e2
  · rename_i u hu h8 y hy e he c1 v hv c2 i hi hc hd
    have h8 := of_decide_eq_false h8
    exact ⟨Nat.le_trans hy.2.1 hy.2.2.1, by omega⟩
  · rename_i u hu h8 y hy e he c1 v hv c2 i hi hc hd w hw hg
    have h8 := of_decide_eq_false h8
    exact ⟨Nat.le_trans hy.2.1 hy.2.2.1, by omega⟩
  · exact decide_eq_true rfl
  · rename_i u hu h8 y hy e he c1 v hv c2 i hi hc hd w hw hg
    exact absurd (gap_pos _) (of_decide_eq_false hg)
  · rename_i u hu h8 y hy e he c1 v hv c2 i hi hc hd
    exfalso
    rw [anyG_end hi hc hy.2.2.2, any_no hv] at hd
    have hn : decide ((0 : Int) < (N : Int)) = true := decide_eq_true (by have := hy.1; omega)
    simp only [SB.val, hn] at hd
    exact absurd hd (by decide)
  · refine Stands.one (0 : Nat) ⟨Nat.zero_le _, ?_⟩
    ((conv => (arg 1; reduce)); with_reducible repeat' (first | exact Tr.yes_h | refine Tr.and_h ?_ ?_ | refine Tr.imp_h fun _ => ?_ | refine Tr.all_h fun _ => ?_ | refine Tr.lf_h ?_))
    all_goals (first | first | (show Region.lexB _ _ = true; kernel_rfl) | (show planned _ _ = true; kernel_rfl) | exact rfl | exact True.intro | ((try dsimp only [imp, C1, cBlk, cItm] at *); (try refine inR64 ?_ ?_) <;> (try simp only [List.length_set, List.length_append, List.length_take, List.length_drop]) <;> omega))
  · rename_i u hu h8 y hy e he c1 v hv c2 i hi hc hf hg
    exfalso
    have hf' : failed (bl.getD i z0) = true := hf
    rw [← getB hy.2.2.2 (lt_of hc)] at hf'
    have h := head_fail he.2 (lt_of hc) hf'
    have hg : (!failed e.1) = true := hg
    rw [h] at hg
    exact absurd hg (by decide)
  · rename_i u hu h8 y hy e he c1 v hv c2 i hi hc hf hg
    have hf' : failed (bl.getD i z0) = true := hf
    have hh := lt_of hc
    have e2 : anyG bl (Nat.succ i) = anyG bl i := (anyG_succ (Nat.lt_of_lt_of_le hh hN)).trans (by show (anyG bl i || !failed (bl.getD i z0)) = _; rw [hf']; simp)
    refine Stands.one (Nat.succ i) ⟨lt_of hc, ?_, ?_⟩
    · exact dec hh
    ((conv => (arg 1; reduce)); with_reducible repeat' (first | exact Tr.yes_h | refine Tr.and_h ?_ ?_ | refine Tr.imp_h fun _ => ?_ | refine Tr.all_h fun _ => ?_ | refine Tr.lf_h ?_))
    all_goals first | (first | first | (show Region.lexB _ _ = true; kernel_rfl) | (show planned _ _ = true; kernel_rfl) | exact rfl | exact True.intro | ((try dsimp only [imp, C1, cBlk, cItm] at *); (try refine inR64 ?_ ?_) <;> (try simp only [List.length_set, List.length_append, List.length_take, List.length_drop]) <;> omega)) | exact e2.symm | exact e2
  · rename_i u hu h8 y hy e he c1 v hv c2 i hi hc hf hb
    exfalso
    exact bad_no hy.2.2.2 (lt_of hc) (Nat.le_trans hy.2.1 hy.2.2.1) he.2 hv hf hb
  · rename_i u hu h8 y hy e he c1 v hv c2 i hi hc hf hb
    have hf' : failed (bl.getD i z0) = false := hf
    have hh := lt_of hc
    have e2 : anyG bl (Nat.succ i) = true := (anyG_succ (Nat.lt_of_lt_of_le hh hN)).trans (by show (anyG bl i || !failed (bl.getD i z0)) = _; rw [hf']; simp)
    refine Stands.one (Nat.succ i) ⟨lt_of hc, ?_, ?_⟩
    · exact dec hh
    ((conv => (arg 1; reduce)); with_reducible repeat' (first | exact Tr.yes_h | refine Tr.and_h ?_ ?_ | refine Tr.imp_h fun _ => ?_ | refine Tr.all_h fun _ => ?_ | refine Tr.lf_h ?_))
    all_goals first | (first | first | (show Region.lexB _ _ = true; kernel_rfl) | (show planned _ _ = true; kernel_rfl) | exact rfl | exact True.intro | ((try dsimp only [imp, C1, cBlk, cItm] at *); (try refine inR64 ?_ ?_) <;> (try simp only [List.length_set, List.length_append, List.length_take, List.length_drop]) <;> omega)) | exact e2.symm | exact e2
  · rename_i u hu h8 y hy e he c1 v hv c2 i hi hc hd
    have h8 := of_decide_eq_false h8
    exact ⟨Nat.le_trans hy.2.1 hy.2.2.1, by omega⟩
  · rename_i u hu h8 y hy e he c1 v hv c2 i hi hc hd w hw hg
    have h8 := of_decide_eq_false h8
    exact ⟨Nat.le_trans hy.2.1 hy.2.2.1, by omega⟩
  · exact decide_eq_true rfl
  · rename_i u hu h8 y hy e he c1 v hv c2 i hi hc hd w hw hg
    exact absurd (gap_pos _) (of_decide_eq_false hg)
  · rename_i u hu h8 y hy e he c1 v hv c2 i hi hc hd
    exfalso
    rw [anyG_end hi hc hy.2.2.2, any_yes hv] at hd
    have hn : decide ((0 : Int) < (N : Int)) = true := decide_eq_true (by have := hy.1; omega)
    simp only [SB.val, hn] at hd
    exact absurd hd (by decide)

theorem least_nil : Tells (C := C1) Try.prog (.fn 5) [] [.nils] (.bool .t) := by
  refine loc_pc (P := Try.prog) (E := ⟨[fcFirst, fcMade, fcMade0, fcGreedy, fcGreedy0, fcCold, fcCold0, fcGap0, fcGap00, fcOrder, fcOrder0], [], 98, []⟩) (L := [Lt [] 0]) mix Try.func5 rfl (by kernel_rfl) (by kernel_rfl) rfl rfl ?_
  ((conv => (arg 1; reduce)); with_reducible repeat' (first | exact Tr.yes_h | refine Tr.and_h ?_ ?_ | refine Tr.imp_h fun _ => ?_ | refine Tr.all_h fun _ => ?_ | refine Tr.lf_h ?_))
  all_goals try first | (show Region.lexB _ _ = true; kernel_rfl) | (show planned _ _ = true; kernel_rfl) | exact rfl | exact True.intro
  all_goals try (exfalso; have h9 : _ < (0 : Int) := of_decide_eq_true ‹decide (_ < (0 : Int)) = true›; omega)
  all_goals try (exfalso; exact absurd ‹decide ((0 : Int) ≤ 0) = false› (by decide))
  · refine Stands.one (0 : Nat) ⟨Nat.zero_le _, ?_⟩
    ((conv => (arg 1; reduce)); with_reducible repeat' (first | exact Tr.yes_h | refine Tr.and_h ?_ ?_ | refine Tr.imp_h fun _ => ?_ | refine Tr.all_h fun _ => ?_ | refine Tr.lf_h ?_))
    all_goals (first | first | (show Region.lexB _ _ = true; kernel_rfl) | (show planned _ _ = true; kernel_rfl) | exact rfl | exact True.intro | ((try dsimp only [imp, C1, cBlk, cItm] at *); (try refine inR64 ?_ ?_) <;> (try simp only [List.length_set, List.length_append, List.length_take, List.length_drop]) <;> omega))
  · rename_i i hi hc hd
    exfalso
    have e : anyG [] i = false := anyG_zero hi
    rw [e] at hd
    exact absurd hd (by decide)
end Go.Vi
