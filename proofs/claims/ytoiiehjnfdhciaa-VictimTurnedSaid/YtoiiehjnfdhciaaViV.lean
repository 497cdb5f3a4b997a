/-
  VictimTurned answers true for every slice of blocks and every integer, and turns nothing that was there: the row.
  Conditions: none.
-/
import Derived.Test.YtoiiehjnfdhciaaViS
import Derived.Test.YtoiiehjnfdhciaaViU
import Derived.Test.YtoiiehjnfdhciaaRows
import Derived.WalkKit
import Derived.ProofKit
import Derived.OpenShut
import Derived.ChangeOld
import Derived.Below
set_option linter.unusedVariables false
set_option linter.unusedSimpArgs false
namespace Go.Proofs.Ytoiiehjnfdhciaa.victimTurned
open Go.ChangeShapes Go.WideShapes Go.ChangeAt Go.RowKit Go.Vx Go.Vi

theorem own : ownKnob Try.prog.godebug = none := by kernel_rfl
theorem laidOut : laidOutB Try.prog = true := by kernel_rfl
theorem name3 : (Try.f3.name == "runtime.NumGoroutine") = false := by kernel_rfl

theorem walk (a0 : Option Addr) (len0 cap0 : Nat) (z0 : List Blk) (a1 : Int) (w : World) (w0 : IsBlks w a0 len0 cap0 z0) :
    Calls Try.prog 3 #[.slice a0 len0 cap0, .int .i64 a1] w fun e w' => e = .returned (.bool true) ∧ Below w.heap.size w w' := by
  rcases w0 with ⟨rfl, rfl, rfl, rfl⟩ | ⟨x, rfl, hx, hxb, hl, hz, hc⟩
  · have hm : MemOK (C := C1) (wrS []) w w [] := memRo rfl (fun _ h => by cases h) (fun _ h => by cases h) (fun _ h => by cases h)
    exact (turned_nil a1).calls Try.func3 rfl name3 rfl hm
  · have hm : MemOK (C := C1) (wrS (C := C1) [⟨x.block, x.off, 4, false, none, .rows 39 z0⟩]) w w [⟨x.block, x.off, 4, false, none, .rows 39 z0⟩] := by
      refine memRo rfl (fun c h => ?_) (fun c h => ?_) (fun c h => ?_)
      · rw [List.mem_singleton.1 h]
        exact blkRow_ok hx (by rw [hz]; exact hc)
      · rw [List.mem_singleton.1 h]; exact hxb
      · rw [List.mem_singleton.1 h]
    have ha : (⟨x.block, x.off + (0 * 4 + 0), none⟩ : Addr) = x := by
      obtain ⟨b, o, s⟩ := x
      simp only at hx; subst hx; rfl
    have := (turned_ok x.block x.off z0 len0 cap0 a1 (by omega)).calls Try.func3 rfl name3 rfl hm
    simpa only [SV.vas, SV.va, SB.val, Ad.at, ads, nth, Ck.ad, ha] using this

set_option maxRecDepth 100000 in
theorem lifted (os : Os) (started : os.Started) (H : Type) (enc : TypeId × Value → H) :
    ReturnsInHanded {} Try.checked os 3 .any (Rows.victimTurnedSpec.pre6 enc Try.prog Try.f3 Rows.victimTurnedRow.domain false) (Rows.victimTurnedSpec.post enc Try.prog Try.f3 false true false false) := by
  refine returnsInHanded_of_change (C := Try.checked) own started (by kernel_rfl) Try.func3
    (ChangeSpec.witness6 (enc := enc) (C := Try.checked) false ⟨#[], #[.slice none 0 0, .int .i64 0], []⟩ 8 (by kernel_rfl) (by kernel_rfl) (by kernel_rfl) (by kernel_rfl)) ?_
  intro W base args ds gs before hval0 hW hcnd _
  have hval : ∀ (j : Nat) t v, Try.f3.params[j]? = some t → args[j]? = some v → Value.okWide Try.prog W .any base t v := hval0
  have hW' := hW
  obtain ⟨p, q, hA0, hV, rfl, hfz, hnd⟩ := hW
  have hA : DataW.TrodAll enc Try.prog W 0 (fun _ => true) true Try.f3.params.toList args.toList ds p := hA0
  rw [Try.params3] at hA hval
  obtain ⟨v0, vs0, d0, ds0, p0, q0, hargs, rfl, rfl, h0, r0⟩ := trodAll_cons hA
  obtain ⟨v1, vs1, d1, ds1, p1, q1, rfl, rfl, rfl, h1, r1⟩ := trodAll_cons r0
  obtain ⟨rfl, rfl, rfl⟩ := trodAll_nil r1
  obtain rfl : args = #[v0, v1] := by cases args; simp_all
  obtain ⟨rfl, rfl⟩ := trodVars_none hV
  have hv0 := hval 0 22 v0 rfl rfl
  obtain ⟨a0, len0, cap0, rfl⟩ := okWide_slice Try.underlying22 hv0
  have k0 := h0
  have lt0 : ∀ x ∈ p0, x.block < W.heap.size := by obtain ⟨m, hm⟩ := k0; exact DataW.trod_lt m _ _ _ hm
  obtain ⟨z0, w0⟩ : ∃ zs, IsBlks W a0 len0 cap0 zs := blks_open hv0 h0
  obtain ⟨a1, rfl, rfl, rfl, w1⟩ := open_int Try.underlying3 (hval 1 3 v1 rfl rfl) h1
  clear hA0 hval0
  refine (walk a0 len0 cap0 z0 a1 W w0).mono fun e W' ⟨he, bel⟩ => ?_
  subst he
  exact ⟨_, rfl, _, _, _, [], _, [], hW', trodAll_mk1 (shut_bool Try.underlying4 _), (trodAll_cons_mk (Below.trod laidOut (by kernel_rfl) (of_decide_eq_true (by kernel_rfl)) k0 bel lt0) (trodAll_cons_mk (shut_int Try.underlying3 w1) trodAll_mk0)), rfl, bel.frame _, fun h => by cases h⟩

theorem over : Rows.victimTurnedRow.holds Try.pinned (OpenSpec.ofChange Rows.victimTurnedSpec) :=
  OpenClaim.holds_of_wide 3 Try.f3 rfl rfl rfl rfl rfl rfl rfl ⟨rfl, rfl, rfl, rfl, rfl⟩ rfl rfl rfl rfl rfl (by kernel_rfl) Try.func3 (by kernel_rfl)
    (of_decide_eq_true (by kernel_rfl)) (by unfold Func.isWrapper; first | (rw [if_pos (by decide +kernel)]; kernel_rfl) | (rw [if_neg (by decide +kernel)]; exact ⟨rfl, rfl⟩))
    (fun os started H enc _ => lifted os started H enc)

theorem proved : Rows.VictimTurnedSaid := over
#print axioms proved
end Go.Proofs.Ytoiiehjnfdhciaa.victimTurned
