/-
  TableSums answers true for every two slices of things told, and turns nothing that was there: the card.
  Conditions: none.
-/
import Derived.Test.YtgbgfdmhmahonaaDoorTaV
import Derived.Test.YtgbgfdmhmahonaaDoorTaU
import Derived.Test.YtgbgfdmhmahonaaDoorTaW
import Derived.Test.YtgbgfdmhmahonaaDoorCards
import Derived.Test.YtgbgfdmhmahonaaDoorTie
import Derived.LaidMore
import Derived.ChangeOld
import Derived.Below
import Derived.Stop.Joined
set_option linter.unusedVariables false
set_option linter.unusedSimpArgs false
namespace Go.Proofs.YtgbgfdmhmahonaaDoor.tableSums
open Go.ChangeShapes Go.WideShapes Go.ChangeAt Go.RowKit Go.Vx

theorem own : ownKnob Tryd.prog.godebug = none := by kernel_rfl
theorem laidOut : laidOutB Tryd.prog = true := by kernel_rfl
theorem name5 : (Tryd.f5.name == "runtime.NumGoroutine") = false := by kernel_rfl
theorem laid_sent : SentL Tryd.prog "*errors.errorString" 26 Rows.tableSumsRow.laid gL3 := by
  refine ⟨⟨_, rfl⟩, by kernel_rfl, by kernel_rfl, ⟨_, rfl⟩, by kernel_rfl, by kernel_rfl, ⟨_, rfl⟩, by kernel_rfl, by kernel_rfl, trivial⟩
theorem laid_plain (w : World) : laidMetH Tryd.prog Rows.tableSumsRow.laid w = laidMet Tryd.prog Rows.tableSumsRow.laid w := Go.MakeChecks.laidMetH_plain _ _ _ (by kernel_rfl)
theorem at0 {x : Addr} (hx : x.spot = none) : (⟨x.block, x.off + (0 * 10 + 0), none⟩ : Addr) = x := by
  obtain ⟨b, o, s⟩ := x
  simp only at hx; subst hx; rfl

theorem walk (a0 : Option Addr) (len0 cap0 : Nat) (z0 : List Do) (a1 : Option Addr) (len1 cap1 : Nat) (z1 : List Do) (w : World) (w0 : IsRows cDo w a0 len0 cap0 z0) (w1 : IsRows cDo w a1 len1 cap1 z1) (hl : laidMetH Tryd.prog Rows.tableSumsRow.laid w) :
    Calls Tryd.prog 5 #[.slice a0 len0 cap0, .slice a1 len1 cap1] w fun e w' => e = .returned (.bool true) ∧ Below w.heap.size w w' := by
  rw [laid_plain] at hl
  obtain ⟨G, hA, hG⟩ := gl3_of laid_sent hl
  have hall : @Gl.all G = true → 19 ≤ 3 := fun h => by rw [hA] at h; cases h
  rcases w0 with ⟨rfl, rfl, rfl, rfl⟩ | ⟨x, rfl, hx, hxb, hl, hz, hc⟩ <;> rcases w1 with ⟨rfl, rfl, rfl, rfl⟩ | ⟨x', rfl, hx', hxb', hl', hz', hc'⟩
  · have hm : MemOK (C := C0) (wrS []) w w [] := memRo rfl (fun _ h => by cases h) (fun _ h => by cases h) (fun _ h => by cases h) (more_of (Nat.le_refl 3) hall hG rfl)
    exact sums_nn.calls Tryd.func5 rfl name5 rfl hm
  · have hm : MemOK (C := C0) (wrS (C := C0) [⟨x'.block, x'.off, 10, false, none, .rows 48 z1⟩]) w w [⟨x'.block, x'.off, 10, false, none, .rows 48 z1⟩] := by
      refine memRo rfl (fun c h => ?_) (fun c h => ?_) (fun c h => ?_) (more_of (Nat.le_refl 3) hall hG rfl)
      · rw [List.mem_singleton.1 h]
        exact rows_ok (C := C0) (t := 48) hx' (by rw [hz']; exact hc')
      · rw [List.mem_singleton.1 h]; exact hxb'
      · rw [List.mem_singleton.1 h]
    have := (sums_ns x'.block x'.off z1 len1 cap1 (by omega)).calls Tryd.func5 rfl name5 rfl hm
    simpa only [SV.vas, SV.va, SB.val, Ad.at, ads, nth, Ck.ad, at0 hx'] using this
  · have hm : MemOK (C := C0) (wrS (C := C0) [⟨x.block, x.off, 10, false, none, .rows 48 z0⟩]) w w [⟨x.block, x.off, 10, false, none, .rows 48 z0⟩] := by
      refine memRo rfl (fun c h => ?_) (fun c h => ?_) (fun c h => ?_) (more_of (Nat.le_refl 3) hall hG rfl)
      · rw [List.mem_singleton.1 h]
        exact rows_ok (C := C0) (t := 48) hx (by rw [hz]; exact hc)
      · rw [List.mem_singleton.1 h]; exact hxb
      · rw [List.mem_singleton.1 h]
    have := (sums_sn x.block x.off z0 len0 cap0 (by omega)).calls Tryd.func5 rfl name5 rfl hm
    simpa only [SV.vas, SV.va, SB.val, Ad.at, ads, nth, Ck.ad, at0 hx] using this
  · have hm : MemOK (C := C0) (wrS (C := C0) [⟨x.block, x.off, 10, false, none, .rows 48 z0⟩, ⟨x'.block, x'.off, 10, false, none, .rows 48 z1⟩]) w w [⟨x.block, x.off, 10, false, none, .rows 48 z0⟩, ⟨x'.block, x'.off, 10, false, none, .rows 48 z1⟩] := by
      refine memRo rfl (fun c h => ?_) (fun c h => ?_) (fun c h => ?_) (more_of (Nat.le_refl 3) hall hG rfl)
      · simp only [List.mem_cons, List.not_mem_nil, or_false] at h
        rcases h with rfl | rfl
        · exact rows_ok (C := C0) (t := 48) hx (by rw [hz]; exact hc)
        · exact rows_ok (C := C0) (t := 48) hx' (by rw [hz']; exact hc')
      · simp only [List.mem_cons, List.not_mem_nil, or_false] at h
        rcases h with rfl | rfl
        · exact hxb
        · exact hxb'
      · simp only [List.mem_cons, List.not_mem_nil, or_false] at h
        rcases h with rfl | rfl <;> rfl
    have := (sums_ok x.block x.off z0 len0 cap0 x'.block x'.off z1 len1 cap1 (by omega) (by omega)).calls Tryd.func5 rfl name5 rfl hm
    simpa only [SV.vas, SV.va, SB.val, Ad.at, ads, nth, Ck.ad, at0 hx, at0 hx'] using this

/-- The heap that the program's own start leaves meets the condition. -/
theorem door_met (os : Os) (args : Array Value) : laidMetH Tryd.prog Rows.tableSumsRow.laid ((World.doorLaid Tryd.prog 400 os).forCall (fun _ _ => 0) ⟨#[], args, []⟩).memory :=
  laidMetH_of_parts3 (fuel := 8) (laidMet_of_run' 8 (by kernel_rfl) (by kernel_rfl)) (by kernel_rfl) (by kernel_rfl)

set_option maxRecDepth 100000 in
theorem lifted (os : Os) (started : os.Started) (H : Type) (enc : TypeId × Value → H) :
    ReturnsInHanded {} Tryd.checked os 5 .any (fun w args => (Rows.tableSumsSpec.pre enc Tryd.prog Tryd.f5 [] false w args ∧ laidMetH Tryd.prog Rows.tableSumsRow.laid w) ∧ sizedMet enc Tryd.prog Tryd.f5 (OpenSpec.ofChange Rows.tableSumsSpec) false w args)
      (Rows.tableSumsSpec.post enc Tryd.prog Tryd.f5 false true false false) := by
  refine returnsInHanded_of_change_and (C := Tryd.checked) (X := fun w _ => laidMetH Tryd.prog Rows.tableSumsRow.laid w) (fun _ _ _ hh h => h.of_heap hh) own started (by kernel_rfl) Tryd.func5
    (ChangeSpec.witness_shaped (enc := enc) (C := Tryd.checked) (os := os) (X := fun w _ => laidMetH Tryd.prog Rows.tableSumsRow.laid w) false (World.doorLaid Tryd.prog 400 os) #[.slice none 0 0, .slice none 0 0] 8 rfl (World.shaped_of_RefB (by kernel_rfl) (by kernel_rfl)) (by kernel_rfl) (by kernel_rfl) (by kernel_rfl) (door_met os _)) ?_
  intro W base args ds gs before hval0 hW _ _ hX _
  have hval : ∀ (j : Nat) t v, Tryd.f5.params[j]? = some t → args[j]? = some v → Value.okWide Tryd.prog W .any base t v := hval0
  have hW' := hW
  obtain ⟨p, q, hA0, hV, rfl, hfz, hnd⟩ := hW
  have hA : DataW.TrodAll enc Tryd.prog W 0 (fun _ => true) true Tryd.f5.params.toList args.toList ds p := hA0
  rw [Tryd.params5] at hA hval
  obtain ⟨v0, vs0, d0, ds0, p0, q0, hargs, rfl, rfl, h0, r0⟩ := trodAll_cons hA
  obtain ⟨v1, vs1, d1, ds1, p1, q1, rfl, rfl, rfl, h1, r1⟩ := trodAll_cons r0
  obtain ⟨rfl, rfl, rfl⟩ := trodAll_nil r1
  obtain rfl : args = #[v0, v1] := by cases args; simp_all
  obtain ⟨rfl, rfl⟩ := trodVars_none hV
  have hv0 := hval 0 42 v0 rfl rfl
  obtain ⟨a0, len0, cap0, rfl⟩ := okWide_slice Tryd.underlying42 hv0
  have k0 := h0
  have lt0 : ∀ x ∈ p0, x.block < W.heap.size := by obtain ⟨m, hm⟩ := k0; exact DataW.trod_lt m _ _ _ hm
  obtain ⟨z0, w0⟩ : ∃ zs, IsRows cDo W a0 len0 cap0 zs := dos_open hv0 h0
  have hv1 := hval 1 42 v1 rfl rfl
  obtain ⟨a1, len1, cap1, rfl⟩ := okWide_slice Tryd.underlying42 hv1
  have k1 := h1
  have lt1 : ∀ x ∈ p1, x.block < W.heap.size := by obtain ⟨m, hm⟩ := k1; exact DataW.trod_lt m _ _ _ hm
  obtain ⟨z1, w1⟩ : ∃ zs, IsRows cDo W a1 len1 cap1 zs := dos_open hv1 h1
  clear hA0 hval0
  refine (walk a0 len0 cap0 z0 a1 len1 cap1 z1 W w0 w1 hX).mono fun e W' ⟨he, bel⟩ => ?_
  subst he
  exact ⟨_, rfl, _, _, _, [], _, [], hW', trodAll_mk1 (shut_bool Tryd.underlying4 _), (trodAll_cons_mk (Below.trod laidOut (by kernel_rfl) (of_decide_eq_true (by kernel_rfl)) k0 bel lt0) (trodAll_cons_mk (Below.trod laidOut (by kernel_rfl) (of_decide_eq_true (by kernel_rfl)) k1 bel lt1) trodAll_mk0)), rfl, bel.frame _, fun h => by cases h⟩

theorem over : Rows.TableSumsSaid :=
  OpenClaim.holds_of_wide 5 Tryd.f5 rfl rfl rfl rfl rfl rfl rfl ⟨rfl, rfl, rfl, rfl, rfl⟩ rfl rfl rfl rfl rfl (by kernel_rfl) Tryd.func5 (by kernel_rfl)
    (of_decide_eq_true (by kernel_rfl)) (by unfold Func.isWrapper; first | (rw [if_pos (by decide +kernel)]; kernel_rfl) | (rw [if_neg (by decide +kernel)]; exact ⟨rfl, rfl⟩))
    (fun os started H enc _ => lifted os started H enc)

theorem card_holds : Rows.TableSumsCardSaid :=
  Claim7.holds_tied_plain_at .later [] [.sentinel, .sentinel, .sentinel] true (true, "165b40a259ee6db34bb2f4fe40b1139cf811547beb90f739cc3b423efa3bbbb6") true
    over (fun _ h => by cases h) (by kernel_rfl) (fun _ h => by cases h) tableSums_row_tie rfl ⟨rfl, rfl⟩ (by kernel_rfl) rfl
    (fun f fn hf hfn => by
      obtain rfl : f = 5 := Option.some.inj ((show Tryd.prog.funcNamed Rows.tableSumsRow.func = some 5 by kernel_rfl).symm.trans hf) |>.symm
      obtain rfl : fn = Tryd.f5 := (Option.some.inj (Tryd.func5.symm.trans hfn)).symm
      exact ⟨by kernel_rfl, fun j t ht => by
        rw [Tryd.params5] at ht
        have h3 : t = 42 := by
          rcases j with _ | _ | j
          · simpa using ht.symm
          · simpa using ht.symm
          · simp at ht
        rw [h3]
        exact (show Tryd.prog.wantsStandIn 42 = false by kernel_rfl)⟩)
    (by kernel_rfl)
#print axioms card_holds
end Go.Proofs.YtgbgfdmhmahonaaDoor.tableSums
