/-
  ScanMerges answers true for all two lists of pages, and turns nothing that was there: the card.
  Conditions: none.
-/
import Derived.Test.YtnihemjnhbickaaDoorM9
import Derived.Test.YtnihemjnhbickaaDoorCards
import Derived.Test.YtnihemjnhbickaaDoorTie
set_option linter.unusedVariables false
set_option linter.unusedSimpArgs false
set_option linter.unusedSectionVars false
set_option maxRecDepth 100000
namespace Go.Proofs.YtnihemjnhbickaaDoor.scanMerges
open Go.ChangeShapes Go.WideShapes Go.ChangeAt Go.RowKit Go.Vx
theorem own : ownKnob Tryd.prog.godebug = none := by kernel_rfl
theorem laidOut : laidOutB Tryd.prog = true := by kernel_rfl
theorem name7 : (Tryd.f7.name == "runtime.NumGoroutine") = false := by kernel_rfl
theorem laid_sent : SentL Tryd.prog "*errors.errorString" 30 Rows.scanMergesRow.laid [1, 0] := by
  refine ⟨⟨_, rfl⟩, by kernel_rfl, by kernel_rfl, ⟨_, rfl⟩, by kernel_rfl, by kernel_rfl, trivial⟩
theorem laid_plain (w : World) : laidMetH Tryd.prog Rows.scanMergesRow.laid w = laidMet Tryd.prog Rows.scanMergesRow.laid w := Go.MakeChecks.laidMetH_plain _ _ _ (by kernel_rfl)
theorem walk (a : Option Addr) (n c : Nat) (l : List Pg) (a2 : Option Addr) (n2 c2 : Nat) (l2 : List Pg) (w : World) (b1 : IsPart cPg w a n c l) (b2 : IsPart cPg w a2 n2 c2 l2) (hl : laidMetH Tryd.prog Rows.scanMergesRow.laid w) :
    Calls Tryd.prog 7 #[.slice a n c, .slice a2 n2 c2] w fun e w' => e = .returned (.bool true) ∧ Below w.heap.size w w' := by
  rw [laid_plain] at hl
  obtain ⟨G, hA, hG⟩ := gl_of laid_sent hl
  have b1 : IsPart (C0 42) w a n c l := b1
  have b2 : IsPart (C0 42) w a2 n2 c2 l2 := b2
  have hm := pages_mem2 b1 b2 hG
  have := (merges_ok (a.isSome, inB a, inQ a, l, n, c) (a2.isSome, inB a2, inQ a2, l2, n2, c2) b1.sq b2.sq).calls Tryd.func7 rfl name7 rfl hm
  have e1 : SV.va (ads (C := C0) [inCk 42 a l, inCk 42 a2 l2]) (.sl 0 0 n c) = .slice a n c := b1.va rfl
  have e2 : SV.va (ads (C := C0) [inCk 42 a l, inCk 42 a2 l2]) (.sl 1 0 n2 c2) = .slice a2 n2 c2 := b2.va rfl
  have e : SV.vas (ads (C := C0) [inCk 42 a l, inCk 42 a2 l2]) [.sl 0 0 n c, .sl 1 0 n2 c2] = [.slice a n c, .slice a2 n2 c2] := by
    rw [← e1, ← e2]
    rfl
  rw [← e]
  exact this
theorem door_met (os : Os) (args : Array Value) : laidMetH Tryd.prog Rows.scanMergesRow.laid ((World.doorLaid Tryd.prog 400 os).forCall (fun _ _ => 0) ⟨#[], args, []⟩).memory :=
  laidMetH_of_parts3 (fuel := 8) (laidMet_of_run' 8 (by kernel_rfl) (by kernel_rfl)) (by kernel_rfl) (by kernel_rfl)
theorem lifted (os : Os) (started : os.Started) (H : Type) (enc : TypeId × Value → H) :
    ReturnsInHanded {} Tryd.checked os 7 .any (fun w args => (Rows.scanMergesSpec.pre enc Tryd.prog Tryd.f7 [] false w args ∧ laidMetH Tryd.prog Rows.scanMergesRow.laid w) ∧ sizedMet enc Tryd.prog Tryd.f7 (OpenSpec.ofChange Rows.scanMergesSpec) false w args)
      (Rows.scanMergesSpec.post enc Tryd.prog Tryd.f7 false true false false) := by
  refine returnsInHanded_of_change_and (C := Tryd.checked) (X := fun w _ => laidMetH Tryd.prog Rows.scanMergesRow.laid w) (fun _ _ _ hh h => h.of_heap hh) own started (by kernel_rfl) Tryd.func7
    (ChangeSpec.witness_shaped (enc := enc) (C := Tryd.checked) (os := os) (X := fun w _ => laidMetH Tryd.prog Rows.scanMergesRow.laid w) false (World.doorLaid Tryd.prog 400 os) #[.slice none 0 0, .slice none 0 0] 8 rfl (World.shaped_of_RefB (by kernel_rfl) (by kernel_rfl)) (by kernel_rfl) (by kernel_rfl) (by kernel_rfl) (door_met os _)) ?_
  intro W base args ds gs before hval0 hW _ _ hX _
  have hval : ∀ (j : Nat) t v, Tryd.f7.params[j]? = some t → args[j]? = some v → Value.okWide Tryd.prog W .any base t v := hval0
  have hW' := hW
  obtain ⟨p, q, hA0, hV, rfl, hfz, hnd⟩ := hW
  have hA : DataW.TrodAll enc Tryd.prog W 0 (fun _ => true) true Tryd.f7.params.toList args.toList ds p := hA0
  rw [Tryd.params7] at hA hval
  obtain ⟨v0, vs0, d0, ds0, p0, q0, hargs, rfl, rfl, h0, r0⟩ := trodAll_cons hA
  obtain ⟨v1, vs1, d1, ds1, p1, q1, rfl, rfl, rfl, h1, r1⟩ := trodAll_cons r0
  obtain ⟨rfl, rfl, rfl⟩ := trodAll_nil r1
  obtain rfl : args = #[v0, v1] := by cases args; simp_all
  obtain ⟨rfl, rfl⟩ := trodVars_none hV
  have k0 := h0
  have lt0 : ∀ x ∈ p0, x.block < W.heap.size := by obtain ⟨m, hm⟩ := k0; exact DataW.trod_lt m _ _ _ hm
  obtain ⟨a0, len0, cap0, z0, rfl, w0⟩ := pages_open (hval 0 22 v0 rfl rfl) h0
  have k1 := h1
  have lt1 : ∀ x ∈ p1, x.block < W.heap.size := by obtain ⟨m, hm⟩ := k1; exact DataW.trod_lt m _ _ _ hm
  obtain ⟨a1, len1, cap1, z1, rfl, w1⟩ := pages_open (hval 1 22 v1 rfl rfl) h1
  clear hA0 hval0
  refine (walk a0 len0 cap0 z0 a1 len1 cap1 z1 W w0 w1 hX).mono fun e W' ⟨he, bel⟩ => ?_
  subst he
  exact ⟨_, rfl, _, _, _, [], _, [], hW', trodAll_mk1 (shut_bool Tryd.underlying4 _), (trodAll_cons_mk (Below.trod laidOut (by kernel_rfl) (of_decide_eq_true (by kernel_rfl)) k0 bel lt0) (trodAll_cons_mk (Below.trod laidOut (by kernel_rfl) (of_decide_eq_true (by kernel_rfl)) k1 bel lt1) trodAll_mk0)), rfl, bel.frame _, fun h => by cases h⟩
theorem over : Rows.ScanMergesSaid :=
  OpenClaim.holds_of_wide 7 Tryd.f7 rfl rfl rfl rfl rfl rfl rfl ⟨rfl, rfl, rfl, rfl, rfl⟩ rfl rfl rfl rfl rfl (by kernel_rfl) Tryd.func7 (by kernel_rfl)
    (of_decide_eq_true (by kernel_rfl)) (by unfold Func.isWrapper; first | (rw [if_pos (by decide +kernel)]; kernel_rfl) | (rw [if_neg (by decide +kernel)]; exact ⟨rfl, rfl⟩))
    (fun os started H enc _ => lifted os started H enc)
theorem card_holds : Rows.ScanMergesCardSaid :=
  Claim7.holds_tied_plain_at .later [] [.sentinel, .sentinel] true (true, "d8ff9ab9f7bc075cdb38c23597a0a72a3ae30115c27c0528f947e438f1559335") true
    over (fun _ h => by cases h) (by kernel_rfl) (fun _ h => by cases h) scanMerges_row_tie rfl ⟨rfl, rfl⟩ (by kernel_rfl) rfl
    (fun f fn hf hfn => by
      obtain rfl : f = 7 := Option.some.inj ((show Tryd.prog.funcNamed Rows.scanMergesRow.func = some 7 by kernel_rfl).symm.trans hf) |>.symm
      obtain rfl : fn = Tryd.f7 := (Option.some.inj (Tryd.func7.symm.trans hfn)).symm
      exact ⟨by kernel_rfl, fun j t ht => by
        rw [Tryd.params7] at ht
        have h3 : t = 22 := by
          rcases j with _ | _ | j
          · exact by simpa using ht.symm
          · exact by simpa using ht.symm
          · simp at ht
        rcases h3 with rfl
        · exact (show Tryd.prog.wantsStandIn 22 = false by kernel_rfl)⟩)
    (by kernel_rfl)
#print axioms card_holds
end Go.Proofs.YtnihemjnhbickaaDoor.scanMerges
