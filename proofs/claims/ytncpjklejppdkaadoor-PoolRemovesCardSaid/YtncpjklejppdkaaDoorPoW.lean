/-
  PoolRemoves answers true for every two slices of ints, and turns nothing that was there: the card.
  Conditions: none.
-/
import Derived.Test.YtncpjklejppdkaaDoorPoV
import Derived.Test.YtncpjklejppdkaaDoorVxU
import Derived.Test.YtncpjklejppdkaaDoorRows
import Derived.Test.YtncpjklejppdkaaDoorCards
import Derived.Test.YtncpjklejppdkaaDoorTie
import Derived.ProofKit
import Derived.LaidMore
import Derived.OpenShut
import Derived.ChangeOld
import Derived.Below
import Derived.Stop.Joined
set_option linter.unusedVariables false
set_option linter.unusedSimpArgs false
namespace Go.Proofs.YtncpjklejppdkaaDoor.poolRemoves
open Go.ChangeShapes Go.WideShapes Go.ChangeAt Go.RowKit Go.Vx

theorem own : ownKnob Tryd.prog.godebug = none := by kernel_rfl
theorem laidOut : laidOutB Tryd.prog = true := by kernel_rfl

/-- What the walk is told of a slice of integers that came in. -/
def IsRow (k : IntKind) (w : World) (a : Option Addr) (len cap : Nat) (zs : List Int) : Prop :=
  (a = none ∧ len = 0 ∧ cap = 0 ∧ zs = []) ∨
  ∃ x, a = some x ∧ x.spot = none ∧ x.block < w.heap.size ∧ len ≤ cap ∧ zs.length = cap ∧ (∀ i, i < zs.length → w.cell? (x.add i) = some (.int k (zs.getD i 0)))

theorem name4 : (Tryd.f4.name == "runtime.NumGoroutine") = false := by kernel_rfl

theorem row_ck {w : World} {x : Addr} {z : List Int} (hx : x.spot = none) (hc : ∀ i, i < z.length → w.cell? (x.add i) = some (.int .i64 (z.getD i 0))) (ad : Nat → Ad) : Ck.ok ad w (⟨x.block, x.off, 1, false, none, .rows 3 z⟩ : Ck C0) :=
  intRow_ok (t := 3) hx hc C0 rfl z rfl (fun i hi => rfl)
theorem at0 {x : Addr} (hx : x.spot = none) : (⟨x.block, x.off + (0 * 1 + 0), none⟩ : Addr) = x := by
  obtain ⟨b, o, s⟩ := x
  simp only at hx; subst hx; rfl
theorem walk (a0 : Option Addr) (len0 cap0 : Nat) (z0 : List Int) (a1 : Option Addr) (len1 cap1 : Nat) (z1 : List Int) (w : World) (w0 : IsRow .i64 w a0 len0 cap0 z0) (w1 : IsRow .i64 w a1 len1 cap1 z1) :
    Calls Tryd.prog 4 #[.slice a0 len0 cap0, .slice a1 len1 cap1] w fun e w' => e = .returned (.bool true) ∧ Below w.heap.size w w' := by
  rcases w0 with ⟨rfl, rfl, rfl, rfl⟩ | ⟨x, rfl, hx, hxb, hl, hz, hc⟩
  · rcases w1 with ⟨rfl, rfl, rfl, rfl⟩ | ⟨y, rfl, hy, hyb, hl', hz', hc'⟩
    · have hm : MemOK (C := C0) (wrS []) w w [] := memRo rfl (fun _ h => by cases h) (fun _ h => by cases h) (fun _ h => by cases h)
      exact rems_nn.calls Tryd.func4 rfl name4 rfl hm
    · have hm : MemOK (C := C0) (wrS (C := C0) [⟨y.block, y.off, 1, false, none, .rows 3 z1⟩]) w w [⟨y.block, y.off, 1, false, none, .rows 3 z1⟩] := by
        refine memRo rfl (fun c h => ?_) (fun c h => ?_) (fun c h => ?_)
        · rw [List.mem_singleton.1 h]; exact row_ck hy hc' _
        · rw [List.mem_singleton.1 h]; exact hyb
        · rw [List.mem_singleton.1 h]
      have := (rems_ns y.block y.off z1 len1 cap1 (by omega)).calls Tryd.func4 rfl name4 rfl hm
      simpa only [SV.vas, SV.va, SB.val, Ad.at, ads, nth, Ck.ad, at0 hy] using this
  · rcases w1 with ⟨rfl, rfl, rfl, rfl⟩ | ⟨y, rfl, hy, hyb, hl', hz', hc'⟩
    · have hm : MemOK (C := C0) (wrS (C := C0) [⟨x.block, x.off, 1, false, none, .rows 3 z0⟩]) w w [⟨x.block, x.off, 1, false, none, .rows 3 z0⟩] := by
        refine memRo rfl (fun c h => ?_) (fun c h => ?_) (fun c h => ?_)
        · rw [List.mem_singleton.1 h]; exact row_ck hx hc _
        · rw [List.mem_singleton.1 h]; exact hxb
        · rw [List.mem_singleton.1 h]
      have := (rems_sn x.block x.off z0 len0 cap0 (by omega)).calls Tryd.func4 rfl name4 rfl hm
      simpa only [SV.vas, SV.va, SB.val, Ad.at, ads, nth, Ck.ad, at0 hx] using this
    · have hm : MemOK (C := C0) (wrS (C := C0) [⟨x.block, x.off, 1, false, none, .rows 3 z0⟩, ⟨y.block, y.off, 1, false, none, .rows 3 z1⟩]) w w [⟨x.block, x.off, 1, false, none, .rows 3 z0⟩, ⟨y.block, y.off, 1, false, none, .rows 3 z1⟩] := by
        refine memRo rfl (fun c h => ?_) (fun c h => ?_) (fun c h => ?_)
        · rcases List.mem_cons.1 h with h | h
          · rw [h]; exact row_ck hx hc _
          · rw [List.mem_singleton.1 h]; exact row_ck hy hc' _
        · rcases List.mem_cons.1 h with h | h
          · rw [h]; exact hxb
          · rw [List.mem_singleton.1 h]; exact hyb
        · rcases List.mem_cons.1 h with h | h
          · rw [h]
          · rw [List.mem_singleton.1 h]
      have := (rems_ss x.block x.off y.block y.off z0 z1 len0 cap0 len1 cap1 (by omega) (by omega)).calls Tryd.func4 rfl name4 rfl hm
      simpa only [SV.vas, SV.va, SB.val, Ad.at, ads, nth, Ck.ad, at0 hx, at0 hy] using this

/-- The heap that the program's own start leaves meets the condition. -/
theorem door_met (os : Os) (args : Array Value) : laidMetH Tryd.prog Rows.poolRemovesRow.laid ((World.doorLaid Tryd.prog 400 os).forCall (fun _ _ => 0) ⟨#[], args, []⟩).memory :=
  laidMetH_of_parts3 (fuel := 8) (laidMet_of_run' 8 (by kernel_rfl) (by kernel_rfl)) (by kernel_rfl) (by kernel_rfl)

set_option maxRecDepth 100000 in
theorem lifted (os : Os) (started : os.Started) (H : Type) (enc : TypeId × Value → H) :
    ReturnsInHanded {} Tryd.checked os 4 .any (fun w args => (Rows.poolRemovesSpec.pre enc Tryd.prog Tryd.f4 [] false w args ∧ laidMetH Tryd.prog Rows.poolRemovesRow.laid w) ∧ sizedMet enc Tryd.prog Tryd.f4 (OpenSpec.ofChange Rows.poolRemovesSpec) false w args)
      (Rows.poolRemovesSpec.post enc Tryd.prog Tryd.f4 false true false false) := by
  refine returnsInHanded_of_change_and (C := Tryd.checked) (X := fun w _ => laidMetH Tryd.prog Rows.poolRemovesRow.laid w) (fun _ _ _ hh h => h.of_heap hh) own started (by kernel_rfl) Tryd.func4
    (ChangeSpec.witness_shaped (enc := enc) (C := Tryd.checked) (os := os) (X := fun w _ => laidMetH Tryd.prog Rows.poolRemovesRow.laid w) false (World.doorLaid Tryd.prog 400 os) #[.slice none 0 0, .slice none 0 0] 8 rfl (World.shaped_of_RefB (by kernel_rfl) (by kernel_rfl)) (by kernel_rfl) (by kernel_rfl) (by kernel_rfl) (door_met os _)) ?_
  intro W base args ds gs before hval0 hW _ _ _ _
  have hval : ∀ (j : Nat) t v, Tryd.f4.params[j]? = some t → args[j]? = some v → Value.okWide Tryd.prog W .any base t v := hval0
  have hW' := hW
  obtain ⟨p, q, hA0, hV, rfl, hfz, hnd⟩ := hW
  have hA : DataW.TrodAll enc Tryd.prog W 0 (fun _ => true) true Tryd.f4.params.toList args.toList ds p := hA0
  rw [Tryd.params4] at hA hval
  obtain ⟨v0, vs0, d0, ds0, p0, q0, hargs, rfl, rfl, h0, r0⟩ := trodAll_cons hA
  obtain ⟨v1, vs1, d1, ds1, p1, q1, rfl, rfl, rfl, h1, r1⟩ := trodAll_cons r0
  obtain ⟨rfl, rfl, rfl⟩ := trodAll_nil r1
  obtain rfl : args = #[v0, v1] := by cases args; simp_all
  obtain ⟨rfl, rfl⟩ := trodVars_none hV
  have hv0 := hval 0 22 v0 rfl rfl
  obtain ⟨a0, len0, cap0, rfl⟩ := okWide_slice Tryd.underlying22 hv0
  have k0 := h0
  have lt0 : ∀ x ∈ p0, x.block < W.heap.size := by obtain ⟨m, hm⟩ := k0; exact DataW.trod_lt m _ _ _ hm
  obtain ⟨z0, w0⟩ : ∃ zs, IsRow .i64 W a0 len0 cap0 zs := by
    obtain ⟨fuel, hf⟩ := h0
    rcases open_ints Tryd.underlying22 Tryd.underlying3 (by kernel_rfl) hf with ⟨hcs, _⟩ | ⟨x, l, c, zs, hcs, _, hl, hm, hz, _, hcell, hwz⟩
    · simp [Value.cells] at hcs
      obtain ⟨rfl, rfl, rfl⟩ := hcs
      exact ⟨[], .inl ⟨rfl, rfl, rfl, rfl⟩⟩
    · simp [Value.cells] at hcs
      obtain ⟨rfl, rfl, rfl⟩ := hcs
      obtain ⟨hs, hb⟩ := okWide_at Tryd.underlying22 hv0
      exact ⟨zs, .inr ⟨_, rfl, hs, hb, hl, by simpa using hz, hcell⟩⟩
  have hv1 := hval 1 22 v1 rfl rfl
  obtain ⟨a1, len1, cap1, rfl⟩ := okWide_slice Tryd.underlying22 hv1
  have k1 := h1
  have lt1 : ∀ x ∈ p1, x.block < W.heap.size := by obtain ⟨m, hm⟩ := k1; exact DataW.trod_lt m _ _ _ hm
  obtain ⟨z1, w1⟩ : ∃ zs, IsRow .i64 W a1 len1 cap1 zs := by
    obtain ⟨fuel, hf⟩ := h1
    rcases open_ints Tryd.underlying22 Tryd.underlying3 (by kernel_rfl) hf with ⟨hcs, _⟩ | ⟨x, l, c, zs, hcs, _, hl, hm, hz, _, hcell, hwz⟩
    · simp [Value.cells] at hcs
      obtain ⟨rfl, rfl, rfl⟩ := hcs
      exact ⟨[], .inl ⟨rfl, rfl, rfl, rfl⟩⟩
    · simp [Value.cells] at hcs
      obtain ⟨rfl, rfl, rfl⟩ := hcs
      obtain ⟨hs, hb⟩ := okWide_at Tryd.underlying22 hv1
      exact ⟨zs, .inr ⟨_, rfl, hs, hb, hl, by simpa using hz, hcell⟩⟩
  clear hA0 hval0
  refine (walk a0 len0 cap0 z0 a1 len1 cap1 z1 W w0 w1).mono fun e W' ⟨he, bel⟩ => ?_
  subst he
  exact ⟨_, rfl, _, _, _, [], _, [], hW', trodAll_mk1 (shut_bool Tryd.underlying4 _), (trodAll_cons_mk (Below.trod laidOut (by kernel_rfl) (of_decide_eq_true (by kernel_rfl)) k0 bel lt0) (trodAll_cons_mk (Below.trod laidOut (by kernel_rfl) (of_decide_eq_true (by kernel_rfl)) k1 bel lt1) trodAll_mk0)), rfl, bel.frame _, fun h => by cases h⟩

theorem over : Rows.PoolRemovesSaid :=
  OpenClaim.holds_of_wide 4 Tryd.f4 rfl rfl rfl rfl rfl rfl rfl ⟨rfl, rfl, rfl, rfl, rfl⟩ rfl rfl rfl rfl rfl (by kernel_rfl) Tryd.func4 (by kernel_rfl)
    (of_decide_eq_true (by kernel_rfl)) (by unfold Func.isWrapper; first | (rw [if_pos (by decide +kernel)]; kernel_rfl) | (rw [if_neg (by decide +kernel)]; exact ⟨rfl, rfl⟩))
    (fun os started H enc _ => lifted os started H enc)

theorem card_holds : Rows.PoolRemovesCardSaid :=
  Claim7.holds_tied_plain_at .later [] [.sentinel, .sentinel] true (true, "3ca28262a08c47b27327bec84bef6ba3f54c567307650afae8b755503507ebe8") true
    over (fun _ h => by cases h) (by kernel_rfl) (fun _ h => by cases h) poolRemoves_row_tie rfl ⟨rfl, rfl⟩ (by kernel_rfl) rfl
    (fun f fn hf hfn => by
      obtain rfl : f = 4 := Option.some.inj ((show Tryd.prog.funcNamed Rows.poolRemovesRow.func = some 4 by kernel_rfl).symm.trans hf) |>.symm
      obtain rfl : fn = Tryd.f4 := (Option.some.inj (Tryd.func4.symm.trans hfn)).symm
      exact ⟨by kernel_rfl, fun j t ht => by
        rw [Tryd.params4] at ht
        have h3 : t = 22 := by
          rcases j with _ | _ | j
          · simpa using ht.symm
          · simpa using ht.symm
          · simp at ht
        subst h3
        exact (show Tryd.prog.wantsStandIn 22 = false by kernel_rfl)⟩)
    (by kernel_rfl)
#print axioms card_holds
end Go.Proofs.YtncpjklejppdkaaDoor.poolRemoves
