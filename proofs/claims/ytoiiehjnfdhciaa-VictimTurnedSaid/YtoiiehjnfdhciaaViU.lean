/-
  Round 21: VictimTurned, what it computes.
  Conditions: none.
-/
import Derived.Test.YtoiiehjnfdhciaaViT
set_option maxRecDepth 100000
set_option linter.unusedVariables false
set_option linter.unusedSimpArgs false
namespace Go.Vi
open Go Go.Vx Go.Proofs

def T1 (N : Nat) : Inv' C1 := ⟨7, List Blk × Nat, fun x => [(7, .int .i64 x.2)], fun x m => setCk m 1 (.rows 27 x.1), fun x => x.2 ≤ N ∧ N ≤ x.1.length ∧ ∀ k, k < x.2 → (x.1.getD k z0).1 = (k : Int), fun x => N - x.2⟩
structure Tx where
  la : List Itm
  ca : Nat
  lb : List Itm
  cb : Nat
  seen : List Bool
  i : Nat
  B : List Blk
def T2 (N : Nat) : Inv' C1 := ⟨17, Tx, fun x => [(12, .int .i64 x.i)], fun x m => setCk (setCk (setCk (setCk (setCk m 5 (.one [.sl 6 0 (N - x.i) x.ca, lsSV])) 6 (.rows 57 x.la)) 8 (.one [.sl 9 0 (N - x.i) x.cb, lsSV])) 9 (.rows 57 x.lb)) 10 (.rows 4 x.seen),
  fun x => x.i ≤ N ∧ x.seen.length = N ∧ Turn N x.B x.la x.lb (N - x.i) x.ca x.cb ∧ ∀ j, j < N → x.seen.getD j false = true → (j : Int) ∈ x.B.map (·.1), fun x => N - x.i⟩
abbrev kk (N : Nat) (k : Int) : Int := (k.tmod N + N).tmod N
theorem lim {N : Nat} (h : (decide ((60 : Int) < (N : Int)) || (SB.tm (decide ((N : Int) = 0))).val) = false) : 0 < N ∧ N ≤ 60 := by
  simp only [SB.val, Bool.or_eq_false_iff, decide_eq_false_iff_not] at h
  omega
theorem tm_lt (k : Int) {N : Nat} (h : 0 < N) : -(N : Int) < k.tmod N ∧ k.tmod N < N := by
  have h1 : (k.tmod N) < N := Int.tmod_lt_of_pos k (by omega)
  have h2 := Int.lt_tmod_of_pos k (show (0 : Int) < N by omega)
  exact ⟨h2, h1⟩
theorem kk_lt (k : Int) {N : Nat} (h : 0 < N) : 0 ≤ kk N k ∧ kk N k < N := by
  have h1 := tm_lt k h
  exact ⟨Int.tmod_nonneg _ (by omega), Int.tmod_lt_of_pos _ (by omega)⟩
theorem T1.bds {N : Nat} {x : List Blk × Nat} (hx : (T1 N).inv x) (hc : decide ((x.2 : Int) < (N : Int)) = true) (hb : N ≤ 60) : (0 ≤ (x.2 : Int) ∧ (x.2 : Int) < (N : Int) ∧ (x.2 : Int).toNat + 0 < x.1.length) ∧ inR .i64 ((x.2 : Int) + 1) := by
  have hc := of_decide_eq_true hc
  obtain ⟨h1, h2, h3⟩ := hx
  exact ⟨by omega, inR64 (by omega) (by omega)⟩
/-- The slice turned about. -/
abbrev rot (l sp1 sp2 : List Blk) (N K c : Nat) : List Blk := ((((l.drop (srow c K 0)).take (N - K) ++ sp1).drop 0).take (N - K)) ++ (l.drop 0).take K ++ sp2
theorem rot_ok {l sp1 sp2 : List Blk} {N K c : Nat} (hK : K < N) (hc : N ≤ c) (hl : N ≤ l.length) : N ≤ (rot l sp1 sp2 N K c).length ∧ (l.take N).Perm ((rot l sp1 sp2 N K c).take N) := by
  have hs : srow c K 0 = K := by unfold srow; rw [if_neg (by omega)]; rfl
  have hX : ((l.drop K).take (N - K)).length = N - K := by simp; omega
  have hY : (l.take K).length = K := by simp; omega
  have e : rot l sp1 sp2 N K c = ((l.drop K).take (N - K) ++ l.take K) ++ sp2 := by
    unfold rot
    rw [hs, List.drop_zero, List.drop_zero, List.take_append_of_le_length (by omega), List.take_of_length_le (l := (l.drop K).take (N - K)) (by omega)]
  rw [e]
  refine ⟨by simp only [List.length_append, hX, hY]; omega, ?_⟩
  rw [List.take_append_of_le_length (by simp only [List.length_append, hX, hY]; omega), List.take_of_length_le (l := (l.drop K).take (N - K) ++ l.take K) (by simp only [List.length_append, hX, hY]; omega)]
  have e2 : l.take N = l.take K ++ (l.drop K).take (N - K) := by
    conv => lhs; rw [show N = K + (N - K) by omega]
    rw [List.take_add]
  rw [e2]
  exact List.perm_append_comm
theorem T1.fin {N : Nat} {x : List Blk × Nat} (hx : (T1 N).inv x) (hc : decide ((x.2 : Int) < (N : Int)) = false) : N ≤ x.1.length ∧ ∀ k, k < N → (x.1.getD k z0).1 = (k : Int) := by
  have hc := of_decide_eq_false hc
  obtain ⟨h1, h2, h3⟩ := hx
  exact ⟨h2, fun k hk => h3 k (by omega)⟩
theorem set_num {l : List Blk} {i : Nat} {b : Blk} (hi : i < l.length) (h : ∀ k, k < i → (l.getD k z0).1 = (k : Int)) (hb : b.1 = (i : Int)) : ∀ k, k < i + 1 → ((l.set i b).getD k z0).1 = (k : Int) := by
  intro k hk
  simp only [List.getD_eq_getElem?_getD, List.getElem?_set]
  by_cases e : i = k
  · rw [if_pos e, if_pos (by omega)]; rw [← e]; exact hb
  · rw [if_neg e]
    have := h k (by omega)
    simpa [List.getD_eq_getElem?_getD] using this
theorem T2.step {N : Nat} {x : Tx} {la' lb' : List Itm} (hx : (T2 N).inv x) (hc : decide ((x.i : Int) < (N : Int)) = true) (h1 : 0 < N - x.i ∧ cutPost x.la (N - x.i - 1) x.ca 0 la') (h2 : 0 < N - x.i ∧ cutPost x.lb (N - x.i - 1) x.cb 0 lb') :
    ∃ j, j < N ∧ (at_ la' (N - x.i - 1)).1.1 = (j : Int) ∧ (at_ lb' (N - x.i - 1)).1.1 = (j : Int) ∧ x.seen.getD j false = false ∧ x.seen.length = N ∧ x.i < N ∧
      (T2 N).inv ⟨la', x.ca, lb', x.cb, x.seen.set j true, x.i + 1, x.B ++ [(at_ la' (N - x.i - 1)).1]⟩ := by
  have hc := of_decide_eq_true hc
  obtain ⟨g1, g2, g3, g4⟩ := hx
  obtain ⟨e1, e2, ⟨j, hj, ej⟩, e4⟩ := g3.step h1.1 h1.2 h2.2
  refine ⟨j, hj, ej, by rw [← e1]; exact ej, ?_, g2, by omega, by show x.i + 1 ≤ N; omega, by show (x.seen.set j true).length = N; rw [List.length_set]; exact g2, e2, fun k hk hs => ?_⟩
  · cases hs : x.seen.getD j false with
    | false => rfl
    | true => exact absurd (ej ▸ g4 j hj hs) e4
  · show (k : Int) ∈ (x.B ++ [(at_ la' (N - x.i - 1)).1]).map (·.1)
    rw [List.map_append, List.mem_append]
    by_cases e : j = k
    · exact .inr (by simp only [List.map_cons, List.map_nil, List.mem_singleton]; rw [ej, e])
    · refine .inl (g4 k hk ?_)
      have hs : (x.seen.set j true).getD k false = true := hs
      simp only [List.getD_eq_getElem?_getD, List.getElem?_set] at hs ⊢
      rw [if_neg e] at hs
      exact hs
set_option maxHeartbeats 8000000 in
theorem turned_ok (b q : Nat) (bl : List Blk) (N m : Nat) (k : Int) (hN : N ≤ bl.length) :
    Tells (C := C1) Try.prog (.fn 3) [⟨b, q, 4, false, none, .rows 39 bl⟩] [.sl 0 0 N m, .int .i64 k] (.bool .t) := by
  refine loc_pc (P := Try.prog) (E := ⟨[fcFirst, fcMade, fcMade0, fcOf, fcOf0, fcNext, fcNext0], [pcQLen, pcQLen0], 136, [(10, [], [.p 1, .p 2, .p 3, .p 5, .p 6, .p 7, .e 0, .e 4, .e 8, .p 9])]⟩) (L := [T1 N, T2 N]) mix Try.func3 rfl (by kernel_rfl) (by kernel_rfl) rfl rfl ?_
  ((conv => (arg 1; reduce)); with_reducible repeat' (first | exact Tr.yes_h | refine Tr.and_h ?_ ?_ | refine Tr.imp_h fun _ => ?_ | refine Tr.all_h fun _ => ?_ | refine Tr.lf_h ?_))
  all_goals try first | (show Region.lexB _ _ = true; kernel_rfl) | (show planned _ _ = true; kernel_rfl) | exact rfl | exact True.intro
  all_goals have hL := lim ‹(decide ((60 : Int) < (N : Int)) || (SB.tm (decide ((N : Int) = 0))).val) = false›
  all_goals try (exfalso; have h0 : N = 0 := (by assumption : N = 0); omega)
  all_goals try (have hh := T1.bds ‹(T1 N).inv _› ‹decide (_ < (N : Int)) = true› hL.2; first | exact hh.2 | exact hh.1.1 | exact hh.1.2.1 | exact hh.1.2.2)
  all_goals try (have hk := kk_lt k hL.1; first | exact hk.1 | exact Int.le_of_lt hk.2)
  all_goals try (exfalso; have hk := kk_lt k hL.1; have h0 : N - (kk N k).toNat = 0 := (by assumption : N - (kk N k).toNat = 0); omega)
  all_goals try (exfalso; have hk := kk_lt k hL.1; have h0 : N - (kk N k).toNat + (kk N k).toNat = 0 := (by assumption : N - (kk N k).toNat + (kk N k).toNat = 0); omega)
  all_goals have hk := kk_lt k hL.1
  all_goals have eN : N - (kk N k).toNat + (kk N k).toNat = N := by omega
  all_goals try (exfalso; have h9 : _ < (N : Int) := of_decide_eq_true ‹decide (_ < (N : Int)) = true›; have h0 : N - _ = 0 := (by assumption : N - _ = 0); omega)
  · omega
  · have := tm_lt k hL.1
    exact inR64 (by omega) (by omega)
  · omega
  · exact ⟨hN, by omega⟩
  · refine Stands.one (_, 0) ⟨⟨Nat.zero_le _, Nat.le_trans (by assumption : 0 < N ∧ N ≤ _ ∧ _ ∧ _).2.1 (by assumption : 0 < N ∧ N ≤ _ ∧ _ ∧ _).2.2.1, fun k hk => absurd hk (Nat.not_lt_zero _)⟩, ?_⟩
    ((conv => (arg 1; reduce)); with_reducible repeat' (first | exact Tr.yes_h | refine Tr.and_h ?_ ?_ | refine Tr.imp_h fun _ => ?_ | refine Tr.all_h fun _ => ?_ | refine Tr.lf_h ?_))
    all_goals (first | first | (show Region.lexB _ _ = true; kernel_rfl) | (show planned _ _ = true; kernel_rfl) | exact rfl | exact True.intro | ((try dsimp only [imp, C1, cBlk, cItm] at *); (try refine inR64 ?_ ?_) <;> (try simp only [List.length_set, List.length_append, List.length_take, List.length_drop]) <;> omega))
  · rename_i u hu H y hy x hx hc
    have hd := of_decide_eq_true hc
    obtain ⟨h1, h2, h3⟩ := hx
    refine Stands.one (x.1.set x.2 ((x.2 : Int), (x.1.getD x.2 z0).2), x.2 + 1) ⟨⟨by show x.2 + 1 ≤ N; omega, by rw [List.length_set]; exact h2, set_num (by omega) h3 rfl⟩, ?_, ?_⟩
    · show N - (x.2 + 1) < N - x.2; omega
    ((conv => (arg 1; reduce)); with_reducible repeat' (first | exact Tr.yes_h | refine Tr.and_h ?_ ?_ | refine Tr.imp_h fun _ => ?_ | refine Tr.all_h fun _ => ?_ | refine Tr.lf_h ?_))
    all_goals (first | first | (show Region.lexB _ _ = true; kernel_rfl) | (show planned _ _ = true; kernel_rfl) | exact rfl | exact True.intro | ((try dsimp only [imp, C1, cBlk, cItm] at *); (try refine inR64 ?_ ?_) <;> (try simp only [List.length_set, List.length_append, List.length_take, List.length_drop]) <;> omega))
  · rename_i u hu H y hy x hx hc
    have := hy.2.1
    exact Int.le_trans (Int.le_of_lt hk.2) (by omega)
  · rename_i u hu H y hy x hx hc v hv
    obtain ⟨h1, h2⟩ := T1.fin hx hc
    have h3 := hy.2.1
    have hs : srow y.2.2.2 (kk N k).toNat 0 = (kk N k).toNat := by unfold srow; rw [if_neg (by omega)]; rfl
    rw [by27]
    show srow y.2.2.2 (kk N k).toNat 0 + (N - (kk N k).toNat) ≤ _ ∧ (N - (kk N k).toNat) * 32 ≤ _
    rw [hs]
    exact ⟨by omega, by omega⟩
  · rename_i u hu H y hy x hx hc v hv h0 b1 sp1
    obtain ⟨h1, h2⟩ := T1.fin hx hc
    have h3 := hy.2.1
    have hs : srow y.2.2.2 (kk N k).toNat 0 = (kk N k).toNat := by unfold srow; rw [if_neg (by omega)]; rfl
    rw [by27]
    refine ⟨by omega, ?_, ?_, ?_⟩
    · show 0 + (N - (kk N k).toNat + sp1.length) ≤ ((x.1.drop (srow y.2.2.2 (kk N k).toNat 0)).take (N - (kk N k).toNat) ++ sp1).length
      rw [hs]; simp; omega
    · show 0 + (kk N k).toNat ≤ _; omega
    · show (N - (kk N k).toNat + (kk N k).toNat) * 32 ≤ _; omega
  · rename_i u hu H y hy x hx hc v hv h0 b1 sp1 b2 base2 sp2 cap hc1 hc2
    exact ⟨(T1.fin hx hc).1, by omega⟩
  · rename_i u hu H y hy x hx hc v hv h0 b1 sp1 b2 base2 sp2 cap hc1 hc2 a ha
    have hr := rot_ok (sp1 := sp1) (sp2 := sp2) (K := (kk N k).toNat) (c := y.2.2.2) (by omega) hy.2.1 (T1.fin hx hc).1
    show N - (kk N k).toNat + (kk N k).toNat ≤ (rot x.1 sp1 sp2 N (kk N k).toNat y.2.2.2).length ∧ N - (kk N k).toNat + (kk N k).toNat < 1048576
    rw [eN]
    exact ⟨hr.1, by omega⟩
  · rw [show Try.prog.types[4].bytes = 1 by kernel_rfl]
    omega
  · rename_i u hu H y hy x hx hc v hv h0 b1 sp1 b2 base2 sp2 cap hc1 hc2 a ha e he sb
    have hr := rot_ok (sp1 := sp1) (sp2 := sp2) (K := (kk N k).toNat) (c := y.2.2.2) (by omega) hy.2.1 (T1.fin hx hc).1
    have he' : hOf (itms (rot x.1 sp1 sp2 N (kk N k).toNat y.2.2.2) (N - (kk N k).toNat + (kk N k).toNat)) e.2.2.2.2.2.2.1 (N - (kk N k).toNat + (kk N k).toNat) e.2.2.2.2.2.2.2 := he.2
    rw [eN] at he'
    refine Stands.one ⟨a.2.2.2.2.2.2.1, a.2.2.2.2.2.2.2, e.2.2.2.2.2.2.1, e.2.2.2.2.2.2.2, List.replicate N false, 0, []⟩ ⟨⟨Nat.zero_le _, by simp, Turn.start (T1.fin hx hc).1 hr.1 hr.2 (T1.fin hx hc).2 ha.2 he', fun j hj hs => ?_⟩, ?_⟩
    · exfalso
      simp [List.getD_eq_getElem?_getD, hj] at hs
    ((conv => (arg 1; reduce)); with_reducible repeat' (first | exact Tr.yes_h | refine Tr.and_h ?_ ?_ | refine Tr.imp_h fun _ => ?_ | refine Tr.all_h fun _ => ?_ | refine Tr.lf_h ?_))
    all_goals first | (first | first | (show Region.lexB _ _ = true; kernel_rfl) | (show planned _ _ = true; kernel_rfl) | exact rfl | exact True.intro | ((try dsimp only [imp, C1, cBlk, cItm] at *); (try refine inR64 ?_ ?_) <;> (try simp only [List.length_set, List.length_append, List.length_take, List.length_drop]) <;> omega)) | exact eN | exact eN.symm
  · rename_i u hu H y hy x hx hc v hv h0 b1 sp1 b2 base2 sp2 cap hc1 hc2 a ha e he sb z hz hd
    exact ⟨hz.2.2.1.hok.1, by omega⟩
  · rename_i u hu H y hy x hx hc v hv h0 b1 sp1 b2 base2 sp2 cap hc1 hc2 a ha e he sb z hz hd p hp c1
    exact ⟨hz.2.2.1.hok.2.1, by omega⟩
  all_goals try (rename_i u hu H y hy x hx hc v hv h0 b1 sp1 b2 base2 sp2 cap hc1 hc2 a ha e he sb z hz hd p hp c1 q2 hq c2 hg; obtain ⟨j, j1, j2, j3, j4, j5, j6, j7⟩ := T2.step hz hd hp hq; rw [j2]; omega)
  · rename_i u hu H y hy x hx hc v hv h0 b1 sp1 b2 base2 sp2 cap hc1 hc2 a ha e he sb z hz hd p hp c1 q2 hq c2 hg
    exfalso
    obtain ⟨j, j1, j2, j3, j4, j5, j6, j7⟩ := T2.step hz hd hp hq
    have j8 : z.seen.getD ((j : Int).toNat + 0) (C1 4).dflt = false := j4
    rw [j2, j3] at hg
    simp only [SB.val, Bool.or_eq_true, decide_eq_true_eq] at hg
    repeat' (obtain hg | hg := hg)
    all_goals first | omega | exact absurd (j8.symm.trans hg) (by decide)
  · rename_i u hu H y hy x hx hc v hv h0 b1 sp1 b2 base2 sp2 cap hc1 hc2 a ha e he sb z hz hd p hp c1 q2 hq c2 hg
    obtain ⟨j, j1, j2, j3, j4, j5, j6, j7⟩ := T2.step hz hd hp hq
    exact inR64 (by omega) (by omega)
  · rename_i u hu H y hy x hx hc v hv h0 b1 sp1 b2 base2 sp2 cap hc1 hc2 a ha e he sb z hz hd p hp c1 q2 hq c2 hg
    obtain ⟨j, j1, j2, j3, j4, j5, j6, j7⟩ := T2.step hz hd hp hq
    have ej : (at_ p (N - z.i - 1)).1.1.toNat = j := by rw [j2]; omega
    refine Stands.one ⟨p, z.ca, q2, z.cb, z.seen.set j true, z.i + 1, z.B ++ [(at_ p (N - z.i - 1)).1]⟩ ⟨j7, ?_, ?_⟩
    · show N - (z.i + 1) < N - z.i; omega
    ((conv => (arg 1; reduce)); with_reducible repeat' (first | exact Tr.yes_h | refine Tr.and_h ?_ ?_ | refine Tr.imp_h fun _ => ?_ | refine Tr.all_h fun _ => ?_ | refine Tr.lf_h ?_))
    all_goals first | (first | first | (show Region.lexB _ _ = true; kernel_rfl) | (show planned _ _ = true; kernel_rfl) | exact rfl | exact True.intro | ((try dsimp only [imp, C1, cBlk, cItm] at *); (try refine inR64 ?_ ?_) <;> (try simp only [List.length_set, List.length_append, List.length_take, List.length_drop]) <;> omega)) | exact (congrArg (fun t => z.seen.set t true) ej).symm | exact congrArg (fun t => z.seen.set t true) ej
  · rename_i u hu H y hy x hx hc v hv h0 b1 sp1 b2 base2 sp2 cap hc1 hc2 a ha e he sb z hz hd
    have hd := of_decide_eq_false hd
    have e0 : N - z.i = 0 := by omega
    rw [e0]; rfl
theorem turned_nil (k : Int) : Tells (C := C1) Try.prog (.fn 3) [] [.nils, .int .i64 k] (.bool .t) := by
  refine loc_pc (P := Try.prog) (E := ⟨[fcFirst], [], 136, []⟩) (L := [T1 0, T2 0]) mix Try.func3 rfl (by kernel_rfl) (by kernel_rfl) rfl rfl ?_
  ((conv => (arg 1; reduce)); with_reducible repeat' (first | exact Tr.yes_h | refine Tr.and_h ?_ ?_ | refine Tr.imp_h fun _ => ?_ | refine Tr.all_h fun _ => ?_ | refine Tr.lf_h ?_))
  all_goals try first | (show Region.lexB _ _ = true; kernel_rfl) | (show planned _ _ = true; kernel_rfl) | exact rfl | exact True.intro
  all_goals try (exfalso; exact absurd (by assumption : (decide ((60 : Int) < 0) || (SB.tm (decide ((0 : Int) = 0))).val) = false) (by decide))
end Go.Vi
