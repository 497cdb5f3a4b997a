/-
  TablePlays answers true for every two ints, every slice of things told, every int, every place and every int, and turns nothing that was there: the card.
  Conditions: none.
-/
import Derived.Test.YtgbgfdmhmahonaaDoorM10
import Derived.Test.YtgbgfdmhmahonaaDoorM11
import Derived.Test.YtgbgfdmhmahonaaDoorCards
import Derived.Test.YtgbgfdmhmahonaaDoorTie
import Derived.LaidMore
import Derived.ChangeOld
import Derived.Below
import Derived.Stop.Joined
import Derived.Lib.SmallJoins
set_option linter.unusedVariables false
set_option linter.unusedSimpArgs false
namespace Go.Proofs.YtgbgfdmhmahonaaDoor.tablePlays
open Go.ChangeShapes Go.WideShapes Go.ChangeAt Go.RowKit Go.Vx

theorem own : ownKnob Tryd.prog.godebug = none := by kernel_rfl
theorem laidOut : laidOutB Tryd.prog = true := by kernel_rfl
theorem name4 : (Tryd.f4.name == "runtime.NumGoroutine") = false := by kernel_rfl
theorem at0 {x : Addr} (hx : x.spot = none) : (⟨x.block, x.off + (0 * 10 + 0), none⟩ : Addr) = x := by
  obtain ⟨b, o, s⟩ := x
  simp only at hx; subst hx; rfl

theorem walk (bs ps : Int) (a0 : Option Addr) (len0 cap0 : Nat) (z0 : List Do) (key pb pp stop : Int) (w : World) (w0 : IsRows cDo w a0 len0 cap0 z0) (hl : laidMetH Tryd.prog Rows.tablePlaysRow.laid w) :
    Calls Tryd.prog 4 #[.int .i64 bs, .int .i64 ps, .slice a0 len0 cap0, .int .i64 key, .agg #[.int .i64 pb, .int .i64 pp], .int .i64 stop] w fun e w' => e = .returned (.bool true) ∧ Below w.heap.size w w' := by
  obtain ⟨G, hA, hG⟩ := glP_of hl
  rcases w0 with ⟨rfl, rfl, rfl, rfl⟩ | ⟨x, rfl, hx, hxb, hl, hz, hc⟩
  · have hm : MemOK (C := C0) (wrS []) w w [] := memRo rfl (fun _ h => by cases h) (fun _ h => by cases h) (fun _ h => by cases h) (more_of (n := 19) (by decide) (fun _ => Nat.le_refl 19) hG rfl)
    exact (plays_nil bs ps key (pb, pp) stop).calls Tryd.func4 rfl name4 rfl hm
  · have hm : MemOK (C := C0) (wrS (C := C0) [⟨x.block, x.off, 10, false, none, .rows 48 z0⟩]) w w [⟨x.block, x.off, 10, false, none, .rows 48 z0⟩] := by
      refine memRo rfl (fun c h => ?_) (fun c h => ?_) (fun c h => ?_) (more_of (n := 19) (by decide) (fun _ => Nat.le_refl 19) hG rfl)
      · rw [List.mem_singleton.1 h]
        exact rows_ok (C := C0) (t := 48) hx (by rw [hz]; exact hc)
      · rw [List.mem_singleton.1 h]; exact hxb
      · rw [List.mem_singleton.1 h]
    have := (plays_s hA x.block x.off z0 len0 cap0 bs ps key (pb, pp) stop (by omega)).calls Tryd.func4 rfl name4 rfl hm
    simpa only [SV.vas, SV.va, SB.val, Ad.at, ads, nth, Ck.ad, at0 hx] using this

/-- The heap that the program's own start leaves meets the condition. -/
theorem door_met (os : Os) (args : Array Value) : laidMetH Tryd.prog Rows.tablePlaysRow.laid ((World.doorLaid Tryd.prog 400 os).forCall (fun _ _ => 0) ⟨#[], args, []⟩).memory :=
  laidMetH_of_parts3 (fuel := 8) (laidMet_of_run' 8 (by kernel_rfl) (by kernel_rfl)) (by kernel_rfl) (by kernel_rfl)

set_option maxRecDepth 100000 in
theorem lifted (os : Os) (started : os.Started) (H : Type) (enc : TypeId × Value → H) :
    ReturnsInHanded {} Tryd.checked os 4 .any (fun w args => (Rows.tablePlaysSpec.pre enc Tryd.prog Tryd.f4 [] false w args ∧ laidMetH Tryd.prog Rows.tablePlaysRow.laid w) ∧ sizedMet enc Tryd.prog Tryd.f4 (OpenSpec.ofChange Rows.tablePlaysSpec) false w args)
      (Rows.tablePlaysSpec.post enc Tryd.prog Tryd.f4 false true false false) := by
  refine returnsInHanded_of_change_and (C := Tryd.checked) (X := fun w _ => laidMetH Tryd.prog Rows.tablePlaysRow.laid w) (fun _ _ _ hh h => h.of_heap hh) own started (by kernel_rfl) Tryd.func4
    (ChangeSpec.witness_shaped (enc := enc) (C := Tryd.checked) (os := os) (X := fun w _ => laidMetH Tryd.prog Rows.tablePlaysRow.laid w) false (World.doorLaid Tryd.prog 400 os) #[.int .i64 0, .int .i64 0, .slice none 0 0, .int .i64 0, .agg #[.int .i64 0, .int .i64 0], .int .i64 0] 8 rfl (World.shaped_of_RefB (by kernel_rfl) (by kernel_rfl)) (by kernel_rfl) (by kernel_rfl) (by kernel_rfl) (door_met os _)) ?_
  intro W base args ds gs before hval0 hW _ _ hX _
  have hval : ∀ (j : Nat) t v, Tryd.f4.params[j]? = some t → args[j]? = some v → Value.okWide Tryd.prog W .any base t v := hval0
  have hW' := hW
  obtain ⟨p, q, hA0, hV, rfl, hfz, hnd⟩ := hW
  have hA : DataW.TrodAll enc Tryd.prog W 0 (fun _ => true) true Tryd.f4.params.toList args.toList ds p := hA0
  rw [Tryd.params4] at hA hval
  obtain ⟨v0, vs0, d0, ds0, p0, q0, hargs, rfl, rfl, h0, r0⟩ := trodAll_cons hA
  obtain ⟨v1, vs1, d1, ds1, p1, q1, rfl, rfl, rfl, h1, r1⟩ := trodAll_cons r0
  obtain ⟨v2, vs2, d2, ds2, p2, q2, rfl, rfl, rfl, h2, r2⟩ := trodAll_cons r1
  obtain ⟨v3, vs3, d3, ds3, p3, q3, rfl, rfl, rfl, h3, r3⟩ := trodAll_cons r2
  obtain ⟨v4, vs4, d4, ds4, p4, q4, rfl, rfl, rfl, h4, r4⟩ := trodAll_cons r3
  obtain ⟨v5, vs5, d5, ds5, p5, q5, rfl, rfl, rfl, h5, r5⟩ := trodAll_cons r4
  obtain ⟨rfl, rfl, rfl⟩ := trodAll_nil r5
  obtain rfl : args = #[v0, v1, v2, v3, v4, v5] := by cases args; simp_all
  obtain ⟨rfl, rfl⟩ := trodVars_none hV
  obtain ⟨n0, rfl, rfl, rfl, wf0⟩ := open_int Tryd.underlying3 (hval 0 3 v0 rfl rfl) h0
  obtain ⟨n1, rfl, rfl, rfl, wf1⟩ := open_int Tryd.underlying3 (hval 1 3 v1 rfl rfl) h1
  have hv2 := hval 2 42 v2 rfl rfl
  obtain ⟨a2, len2, cap2, rfl⟩ := okWide_slice Tryd.underlying42 hv2
  have k2 := h2
  have lt2 : ∀ x ∈ p2, x.block < W.heap.size := by obtain ⟨m, hm⟩ := k2; exact DataW.trod_lt m _ _ _ hm
  obtain ⟨z2, w2⟩ : ∃ zs, IsRows cDo W a2 len2 cap2 zs := dos_open hv2 h2
  obtain ⟨n3, rfl, rfl, rfl, wf3⟩ := open_int Tryd.underlying3 (hval 3 3 v3 rfl rfl) h3
  have k4 := h4
  have lt4 : ∀ x ∈ p4, x.block < W.heap.size := by obtain ⟨m, hm⟩ := k4; exact DataW.trod_lt m _ _ _ hm
  obtain ⟨c0, c1, y0, y1, n4, rfl, _, _, e0, e1⟩ := Go.Joins.open_agg2 Tryd.underlying30 (by kernel_rfl) c30 (hval 4 30 v4 rfl rfl) h4
  obtain ⟨m0, g0, _, _⟩ := DataW.trod_int Tryd.underlying3 e0
  obtain ⟨m1, g1, _, _⟩ := DataW.trod_int Tryd.underlying3 e1
  obtain rfl : c0 = .int .i64 m0 := by simpa using g0
  obtain rfl : c1 = .int .i64 m1 := by simpa using g1
  obtain ⟨n5, rfl, rfl, rfl, wf5⟩ := open_int Tryd.underlying3 (hval 5 3 v5 rfl rfl) h5
  clear hA0 hval0
  refine (walk n0 n1 a2 len2 cap2 z2 n3 m0 m1 n5 W w2 hX).mono fun e W' ⟨he, bel⟩ => ?_
  subst he
  exact ⟨_, rfl, _, _, _, [], _, [], hW', trodAll_mk1 (shut_bool Tryd.underlying4 _), (trodAll_cons_mk (shut_int Tryd.underlying3 wf0) (trodAll_cons_mk (shut_int Tryd.underlying3 wf1) (trodAll_cons_mk (Below.trod laidOut (by kernel_rfl) (of_decide_eq_true (by kernel_rfl)) k2 bel lt2) (trodAll_cons_mk (shut_int Tryd.underlying3 wf3) (trodAll_cons_mk (Below.trod laidOut (by kernel_rfl) (of_decide_eq_true (by kernel_rfl)) k4 bel lt4) (trodAll_cons_mk (shut_int Tryd.underlying3 wf5) trodAll_mk0)))))), rfl, bel.frame _, fun h => by cases h⟩

theorem over : Rows.TablePlaysSaid :=
  OpenClaim.holds_of_wide 4 Tryd.f4 rfl rfl rfl rfl rfl rfl rfl ⟨rfl, rfl, rfl, rfl, rfl⟩ rfl rfl rfl rfl rfl (by kernel_rfl) Tryd.func4 (by kernel_rfl)
    (of_decide_eq_true (by kernel_rfl)) (by unfold Func.isWrapper; first | (rw [if_pos (by decide +kernel)]; kernel_rfl) | (rw [if_neg (by decide +kernel)]; exact ⟨rfl, rfl⟩))
    (fun os started H enc _ => lifted os started H enc)

theorem card_holds : Rows.TablePlaysCardSaid :=
  Claim7.holds_tied_plain_at .later [] [.sentinel, .sentinel, .sentinel, .sentinel, .sentinel, .sentinel, .sentinel, .sentinel, .sentinel, .sentinel, .sentinel, .sentinel, .sentinel, .sentinel, .sentinel, .sentinel, .sentinel, .sentinel, .sentinel] true (true, "165b40a259ee6db34bb2f4fe40b1139cf811547beb90f739cc3b423efa3bbbb6") true
    over (fun _ h => by cases h) (by kernel_rfl) (fun _ h => by cases h) tablePlays_row_tie rfl ⟨rfl, rfl⟩ (by kernel_rfl) rfl
    (fun f fn hf hfn => by
      obtain rfl : f = 4 := Option.some.inj ((show Tryd.prog.funcNamed Rows.tablePlaysRow.func = some 4 by kernel_rfl).symm.trans hf) |>.symm
      obtain rfl : fn = Tryd.f4 := (Option.some.inj (Tryd.func4.symm.trans hfn)).symm
      exact ⟨by kernel_rfl, fun j t ht => by
        rw [Tryd.params4] at ht
        have h3 : t = 42 ∨ t = 3 ∨ t = 30 := by
          rcases j with _ | _ | _ | _ | _ | _ | j
          · exact .inr (.inl (by simpa using ht.symm))
          · exact .inr (.inl (by simpa using ht.symm))
          · exact .inl (by simpa using ht.symm)
          · exact .inr (.inl (by simpa using ht.symm))
          · exact .inr (.inr (by simpa using ht.symm))
          · exact .inr (.inl (by simpa using ht.symm))
          · simp at ht
        rcases h3 with rfl | rfl | rfl
        · exact (show Tryd.prog.wantsStandIn 42 = false by kernel_rfl)
        · exact (show Tryd.prog.wantsStandIn 3 = false by kernel_rfl)
        · exact (show Tryd.prog.wantsStandIn 30 = false by kernel_rfl)⟩)
    (by kernel_rfl)
#print axioms card_holds
end Go.Proofs.YtgbgfdmhmahonaaDoor.tablePlays
