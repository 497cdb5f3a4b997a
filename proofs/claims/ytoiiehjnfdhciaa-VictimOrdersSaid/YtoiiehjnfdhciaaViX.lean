/-
  Round 21: the reference's coldest one.
  Conditions: none.
-/
import Derived.Test.YtoiiehjnfdhciaaViW
set_option maxRecDepth 100000
set_option linter.unusedVariables false
set_option linter.unusedSimpArgs false
namespace Go.Vi
open Go Go.Vx Go.Proofs

def Ra (bl : List Blk) (N : Nat) : Inv' C1 := ⟨3, Nat, fun i => [(4, .int .i64 (-1)), (5, .int .i64 i)], fun _ m => m, fun i => i ≤ N ∧ ∀ k, k < i → failed (bl.getD k z0) = true, fun i => N - i⟩
def Rb (bl : List Blk) (N : Nat) : Inv' C1 := ⟨3, Nat × Nat, fun x => [(4, .int .i64 x.1), (5, .int .i64 x.2)], fun _ m => m,
  fun x => x.2 ≤ N ∧ x.1 < x.2 ∧ failed (bl.getD x.1 z0) = false ∧ ∀ k, k < x.2 → failed (bl.getD k z0) = false → ¬ co (bl.getD k z0) (bl.getD x.1 z0) < 0, fun x => N - x.2⟩
theorem Ra.bds {bl : List Blk} {N i : Nat} (hx : (Ra bl N).inv i) (hc : decide ((i : Int) < (N : Int)) = true) (hN : N ≤ bl.length) (hb : N < 1048576) : 0 ≤ (i : Int) ∧ (i : Int) < (N : Int) ∧ (i : Int).toNat + 0 < bl.length ∧ inR .i64 ((i : Int) + 1) := by
  have hc := of_decide_eq_true hc
  exact ⟨by omega, by omega, by omega, inR64 (by omega) (by omega)⟩
theorem Rb.bds {bl : List Blk} {N : Nat} {x : Nat × Nat} (hx : (Rb bl N).inv x) (hc : decide ((x.2 : Int) < (N : Int)) = true) (hN : N ≤ bl.length) (hb : N < 1048576) : 0 ≤ (x.2 : Int) ∧ (x.2 : Int) < (N : Int) ∧ (x.2 : Int).toNat + 0 < bl.length ∧ inR .i64 ((x.2 : Int) + 1) := by
  have hc := of_decide_eq_true hc
  exact ⟨by omega, by omega, by omega, inR64 (by omega) (by omega)⟩
theorem Rb.bdp {bl : List Blk} {N : Nat} {x : Nat × Nat} (hx : (Rb bl N).inv x) (hN : N ≤ bl.length) : 0 ≤ (x.1 : Int) ∧ (x.1 : Int) < (N : Int) ∧ (x.1 : Int).toNat + 0 < bl.length := by
  obtain ⟨h1, h2, h3, h4⟩ := hx
  exact ⟨by omega, by omega, by omega⟩
/-- One is colder than another one: as the reference asks it. -/
def colder (p : Int) (a b : Blk) : Bool := (decide (p < 0) || decide (a.2.2.1 < b.2.2.1)) || (decide (a.2.2.1 = b.2.2.1) && (decide (a.2.1 < b.2.1) || (decide (a.2.1 = b.2.1) && decide (a.1 < b.1))))
theorem colder_iff {p : Int} {a b : Blk} (hp : 0 ≤ p) : colder p a b = true ↔ co a b < 0 := by
  rw [co_lt]
  simp only [colder, Bool.or_eq_true, Bool.and_eq_true, decide_eq_true_eq]
  omega
theorem Ra.dec {bl : List Blk} {N i : Nat} (hc : decide ((i : Int) < (N : Int)) = true) : (Ra bl N).meas (Nat.succ i) < (Ra bl N).meas i := by
  have hc := of_decide_eq_true hc
  show N - (i + 1) < N - i
  omega
theorem Ra.decb {bl : List Blk} {N i : Nat} (hc : decide ((i : Int) < (N : Int)) = true) : (Rb bl N).meas (i, Nat.succ i) < (Ra bl N).meas i := by
  have hc := of_decide_eq_true hc
  show N - (i + 1) < N - i
  omega
theorem Ra.more {bl : List Blk} {N i : Nat} (hx : (Ra bl N).inv i) (hc : decide ((i : Int) < (N : Int)) = true) (hf : (bl.getD i z0).2.2.2 = true) : (Ra bl N).inv (Nat.succ i) := by
  have hc := of_decide_eq_true hc
  refine ⟨by omega, fun k hk => ?_⟩
  rcases Nat.lt_succ_iff_lt_or_eq.1 hk with h | h
  · exact hx.2 k h
  · rw [h]; exact hf
theorem co_self {b : Blk} : ¬ co b b < 0 := by rw [co_lt]; omega
theorem Ra.found {bl : List Blk} {N i : Nat} (hx : (Ra bl N).inv i) (hc : decide ((i : Int) < (N : Int)) = true) (hf : (bl.getD i z0).2.2.2 = false) : (Rb bl N).inv (i, Nat.succ i) := by
  have hc := of_decide_eq_true hc
  refine ⟨by show i + 1 ≤ N; omega, Nat.lt_succ_self i, hf, fun k hk hk' => ?_⟩
  rcases Nat.lt_succ_iff_lt_or_eq.1 hk with h | h
  · exact absurd ((hx.2 k h).symm.trans hk') (by decide)
  · rw [h]; exact co_self
theorem Ra.fin {bl : List Blk} {N i : Nat} (hx : (Ra bl N).inv i) (hc : decide ((i : Int) < (N : Int)) = false) (hN : N ≤ bl.length) : ∀ x ∈ bl.take N, nf x = false := by
  have hc := of_decide_eq_false hc
  intro x hm
  obtain ⟨k, hk, rfl⟩ := (Hg.mem_take (d := z0) hN).1 hm
  show (!failed (bl.getD k z0)) = false
  rw [hx.2 k (by omega)]; rfl
theorem Rb.dec {bl : List Blk} {N : Nat} {x : Nat × Nat} {p : Nat} (hc : decide ((x.2 : Int) < (N : Int)) = true) : (Rb bl N).meas (p, x.2 + 1) < (Rb bl N).meas x := by
  have hc := of_decide_eq_true hc
  show N - (x.2 + 1) < N - x.2
  omega
theorem Rb.more {bl : List Blk} {N : Nat} {x : Nat × Nat} (hx : (Rb bl N).inv x) (hc : decide ((x.2 : Int) < (N : Int)) = true) (ho : failed (bl.getD x.2 z0) = false → ¬ co (bl.getD x.2 z0) (bl.getD x.1 z0) < 0) : (Rb bl N).inv (x.1, x.2 + 1) := by
  have hc := of_decide_eq_true hc
  obtain ⟨h1, h2, h3, h4⟩ := hx
  refine ⟨by show x.2 + 1 ≤ N; omega, by show x.1 < x.2 + 1; omega, h3, fun k hk hk' => ?_⟩
  rcases Nat.lt_succ_iff_lt_or_eq.1 hk with h | h
  · exact h4 k h hk'
  · rw [h] at hk' ⊢; exact ho hk'
theorem Rb.old {bl : List Blk} {x : Nat × Nat} (he : colder (x.1 : Int) (bl.getD x.2 z0) (bl.getD x.1 z0) = false) : ¬ co (bl.getD x.2 z0) (bl.getD x.1 z0) < 0 := by
  intro h
  rw [(colder_iff (p := (x.1 : Int)) (by omega)).2 h] at he
  exact absurd he (by decide)
theorem Rb.new {bl : List Blk} {N : Nat} {x : Nat × Nat} (hx : (Rb bl N).inv x) (hc : decide ((x.2 : Int) < (N : Int)) = true) (hf : failed (bl.getD x.2 z0) = false)
    (he : colder (x.1 : Int) (bl.getD x.2 z0) (bl.getD x.1 z0) = true) : (Rb bl N).inv (x.2, x.2 + 1) := by
  have hc := of_decide_eq_true hc
  have he := (colder_iff (p := (x.1 : Int)) (by omega)).1 he
  obtain ⟨h1, h2, h3, h4⟩ := hx
  refine ⟨by show x.2 + 1 ≤ N; omega, by show x.2 < x.2 + 1; omega, hf, fun k hk hk' => ?_⟩
  rcases Nat.lt_succ_iff_lt_or_eq.1 hk with h | h
  · have := h4 k h hk'
    show ¬ co (bl.getD k z0) (bl.getD x.2 z0) < 0
    rw [co_lt] at this he ⊢; omega
  · rw [h]; exact co_self
theorem Rb.fin {bl : List Blk} {N : Nat} {x : Nat × Nat} (hx : (Rb bl N).inv x) (hc : decide ((x.2 : Int) < (N : Int)) = false) (hN : N ≤ bl.length) : Coldest (bl.take N) (bl.getD x.1 z0) := by
  have hc := of_decide_eq_false hc
  obtain ⟨h1, h2, h3, h4⟩ := hx
  refine ⟨⟨(Hg.mem_take (d := z0) hN).2 ⟨x.1, by omega, rfl⟩, by show (!failed _) = true; rw [h3]; rfl⟩, fun y hy hn => ?_⟩
  obtain ⟨k, hk, rfl⟩ := (Hg.mem_take (d := z0) hN).1 hy
  refine h4 k (by omega) ?_
  have hn : (!failed (bl.getD k z0)) = true := hn
  cases h : failed (bl.getD k z0) with
  | false => rfl
  | true => rw [h] at hn; exact absurd hn (by decide)
set_option maxHeartbeats 8000000 in
theorem rcold_ok (b q : Nat) (bl : List Blk) (N m : Nat) (hN : N ≤ bl.length) (hb : N < 1048576) :
    Does (C := C1) Try.prog (.fn 16) [⟨b, q, 4, false, none, .rows 39 bl⟩] [.sl 0 0 N m]
     [⟨Unit, fun _ => ∀ x ∈ bl.take N, nf x = false, fun _ => .tup [zSV, .bool .f], fun y => [⟨b, q, 4, false, none, .rows 39 bl⟩]⟩,
      ⟨Blk, fun e => Coldest (bl.take N) e, fun e => .tup [bSV e, .bool .t], fun y => [⟨b, q, 4, false, none, .rows 39 bl⟩]⟩] := by
  refine loc_fn (P := Try.prog) (E := ⟨[], [], 92, []⟩) (L := [Ra bl N, Rb bl N]) mix Try.func16 rfl (by kernel_rfl) (by kernel_rfl) rfl rfl ?_
  ((conv => (arg 1; reduce)); with_reducible repeat' (first | exact Tr.yes_h | refine Tr.and_h ?_ ?_ | refine Tr.imp_h fun _ => ?_ | refine Tr.all_h fun _ => ?_ | refine Tr.lf_h ?_))
  all_goals try first | (show Region.lexB _ _ = true; kernel_rfl) | (show planned _ _ = true; kernel_rfl) | exact rfl | exact True.intro
  all_goals try exact absurd ‹decide ((-1 : Int) < 0) = false› (by decide)
  all_goals try (exfalso; have h := (by assumption : (decide ((-1 : Int) < 0) || _) = false); simp at h; done)
  all_goals try (have hh := Ra.bds ‹(Ra bl N).inv _› ‹decide (_ < (N : Int)) = true› hN hb; first | exact hh.1 | exact hh.2.1 | exact hh.2.2.1 | exact hh.2.2.2)
  all_goals try (have hh := Rb.bds ‹(Rb bl N).inv _› ‹decide (_ < (N : Int)) = true› hN hb; first | exact hh.1 | exact hh.2.1 | exact hh.2.2.1 | exact hh.2.2.2)
  all_goals try (have hh := Rb.bdp ‹(Rb bl N).inv _› hN; first | exact hh.1 | exact hh.2.1 | exact hh.2.2)
  · refine Stands.one (0 : Nat) ⟨⟨Nat.zero_le _, fun k hk => absurd hk (by omega)⟩, ?_⟩
    ((conv => (arg 1; reduce)); with_reducible repeat' (first | exact Tr.yes_h | refine Tr.and_h ?_ ?_ | refine Tr.imp_h fun _ => ?_ | refine Tr.all_h fun _ => ?_ | refine Tr.lf_h ?_))
    all_goals (first | first | (show Region.lexB _ _ = true; kernel_rfl) | (show planned _ _ = true; kernel_rfl) | exact rfl | exact True.intro | ((try dsimp only [imp, C1, cBlk, cItm] at *); (try refine inR64 ?_ ?_) <;> (try simp only [List.length_set, List.length_append, List.length_take, List.length_drop]) <;> omega))
  · rename_i b1 i hx hc hf
    refine Stands.one (Nat.succ i) ⟨Ra.more hx hc hf, Ra.dec hc, ?_⟩
    ((conv => (arg 1; reduce)); with_reducible repeat' (first | exact Tr.yes_h | refine Tr.and_h ?_ ?_ | refine Tr.imp_h fun _ => ?_ | refine Tr.all_h fun _ => ?_ | refine Tr.lf_h ?_))
    all_goals (first | first | (show Region.lexB _ _ = true; kernel_rfl) | (show planned _ _ = true; kernel_rfl) | exact rfl | exact True.intro | ((try dsimp only [imp, C1, cBlk, cItm] at *); (try refine inR64 ?_ ?_) <;> (try simp only [List.length_set, List.length_append, List.length_take, List.length_drop]) <;> omega))
  · rename_i b1 i hx hc hf he
    refine Stands.next (Stands.one ((i : Nat), Nat.succ i) ⟨Ra.found hx hc hf, Ra.dec hc, ?_⟩)
    ((conv => (arg 1; reduce)); with_reducible repeat' (first | exact Tr.yes_h | refine Tr.and_h ?_ ?_ | refine Tr.imp_h fun _ => ?_ | refine Tr.all_h fun _ => ?_ | refine Tr.lf_h ?_))
    all_goals (first | first | (show Region.lexB _ _ = true; kernel_rfl) | (show planned _ _ = true; kernel_rfl) | exact rfl | exact True.intro | ((try dsimp only [imp, C1, cBlk, cItm] at *); (try refine inR64 ?_ ?_) <;> (try simp only [List.length_set, List.length_append, List.length_take, List.length_drop]) <;> omega))
  · rename_i b1 i hx hc hf
    refine Ends.one () (Ra.fin hx hc hN) ?_
    ((conv => (arg 1; reduce)); with_reducible repeat' (first | exact Tr.yes_h | refine Tr.and_h ?_ ?_ | refine Tr.imp_h fun _ => ?_ | refine Tr.all_h fun _ => ?_ | refine Tr.lf_h ?_))
    all_goals (first | first | (show Region.lexB _ _ = true; kernel_rfl) | (show planned _ _ = true; kernel_rfl) | exact rfl | exact True.intro | ((try dsimp only [imp, C1, cBlk, cItm] at *); (try refine inR64 ?_ ?_) <;> (try simp only [List.length_set, List.length_append, List.length_take, List.length_drop]) <;> omega))
  · rename_i b1 x hx hc hf
    refine Stands.next (Stands.one (x.1, x.2 + 1) ⟨Rb.more hx hc (fun h => absurd (hf.symm.trans h) (by decide)), Rb.dec hc, ?_⟩)
    ((conv => (arg 1; reduce)); with_reducible repeat' (first | exact Tr.yes_h | refine Tr.and_h ?_ ?_ | refine Tr.imp_h fun _ => ?_ | refine Tr.all_h fun _ => ?_ | refine Tr.lf_h ?_))
    all_goals (first | first | (show Region.lexB _ _ = true; kernel_rfl) | (show planned _ _ = true; kernel_rfl) | exact rfl | exact True.intro | ((try dsimp only [imp, C1, cBlk, cItm] at *); (try refine inR64 ?_ ?_) <;> (try simp only [List.length_set, List.length_append, List.length_take, List.length_drop]) <;> omega))
  · rename_i b1 x hx hc hf he
    refine Stands.next (Stands.one (x.2, x.2 + 1) ⟨Rb.new hx hc hf he, Rb.dec hc, ?_⟩)
    ((conv => (arg 1; reduce)); with_reducible repeat' (first | exact Tr.yes_h | refine Tr.and_h ?_ ?_ | refine Tr.imp_h fun _ => ?_ | refine Tr.all_h fun _ => ?_ | refine Tr.lf_h ?_))
    all_goals (first | first | (show Region.lexB _ _ = true; kernel_rfl) | (show planned _ _ = true; kernel_rfl) | exact rfl | exact True.intro | ((try dsimp only [imp, C1, cBlk, cItm] at *); (try refine inR64 ?_ ?_) <;> (try simp only [List.length_set, List.length_append, List.length_take, List.length_drop]) <;> omega))
  · rename_i b1 x hx hc hf he
    refine Stands.next (Stands.one (x.1, x.2 + 1) ⟨Rb.more hx hc (fun _ => Rb.old he), Rb.dec hc, ?_⟩)
    ((conv => (arg 1; reduce)); with_reducible repeat' (first | exact Tr.yes_h | refine Tr.and_h ?_ ?_ | refine Tr.imp_h fun _ => ?_ | refine Tr.all_h fun _ => ?_ | refine Tr.lf_h ?_))
    all_goals (first | first | (show Region.lexB _ _ = true; kernel_rfl) | (show planned _ _ = true; kernel_rfl) | exact rfl | exact True.intro | ((try dsimp only [imp, C1, cBlk, cItm] at *); (try refine inR64 ?_ ?_) <;> (try simp only [List.length_set, List.length_append, List.length_take, List.length_drop]) <;> omega))
  · rename_i b1 x hx hc hf
    exact absurd (of_decide_eq_true hf : (x.1 : Int) < 0) (by omega)
  · rename_i b1 x hx hc hf
    refine Ends.next (Ends.one (bl.getD x.1 z0) (Rb.fin hx hc hN) ?_)
    ((conv => (arg 1; reduce)); with_reducible repeat' (first | exact Tr.yes_h | refine Tr.and_h ?_ ?_ | refine Tr.imp_h fun _ => ?_ | refine Tr.all_h fun _ => ?_ | refine Tr.lf_h ?_))
    all_goals (first | first | (show Region.lexB _ _ = true; kernel_rfl) | (show planned _ _ = true; kernel_rfl) | exact rfl | exact True.intro | ((try dsimp only [imp, C1, cBlk, cItm] at *); (try refine inR64 ?_ ?_) <;> (try simp only [List.length_set, List.length_append, List.length_take, List.length_drop]) <;> omega))
end Go.Vi
