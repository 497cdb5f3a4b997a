/-
  VictimOrders answers true for every slice of blocks and every slice of integers, and turns nothing that was there: the row.
  Conditions: none.
-/
import Derived.Test.YtoiiehjnfdhciaaViS
import Derived.Test.YtoiiehjnfdhciaaViAE
import Derived.Test.YtoiiehjnfdhciaaRows
import Derived.WalkKit
import Derived.ProofKit
import Derived.OpenShut
import Derived.ChangeOld
import Derived.Below
set_option linter.unusedVariables false
set_option linter.unusedSimpArgs false
namespace Go.Proofs.Ytoiiehjnfdhciaa.victimOrders
open Go.ChangeShapes Go.WideShapes Go.ChangeAt Go.RowKit Go.Vx Go.Vi

theorem own : ownKnob Try.prog.godebug = none := by kernel_rfl
theorem laidOut : laidOutB Try.prog = true := by kernel_rfl
theorem name4 : (Try.f4.name == "runtime.NumGoroutine") = false := by kernel_rfl

/-- What the walk is told of a slice of integers that came in. -/
def IsRow (k : IntKind) (w : World) (a : Option Addr) (len cap : Nat) (zs : List Int) : Prop :=
  (a = none ∧ len = 0 ∧ cap = 0 ∧ zs = []) ∨
  ∃ x, a = some x ∧ x.spot = none ∧ x.block < w.heap.size ∧ len ≤ cap ∧ zs.length = cap ∧ (∀ i, i < zs.length → w.cell? (x.add i) = some (.int k (zs.getD i 0)))
theorem at_x {x : Addr} (hx : x.spot = none) (n : Nat) : (⟨x.block, x.off + (0 * n + 0), none⟩ : Addr) = x := by
  obtain ⟨b, o, s⟩ := x
  simp only at hx; subst hx
  simp

theorem walk (a0 : Option Addr) (len0 cap0 : Nat) (z0 : List Blk) (a1 : Option Addr) (len1 cap1 : Nat) (z1 : List Int) (w : World) (w0 : IsBlks w a0 len0 cap0 z0) (w1 : IsRow .i64 w a1 len1 cap1 z1) :
    Calls Try.prog 4 #[.slice a0 len0 cap0, .slice a1 len1 cap1] w fun e w' => e = .returned (.bool true) ∧ Below w.heap.size w w' := by
  rcases w0 with ⟨rfl, rfl, rfl, rfl⟩ | ⟨x, rfl, hx, hxb, hl, hz, hc⟩
  · rcases w1 with ⟨rfl, rfl, rfl, rfl⟩ | ⟨y, rfl, hy, hyb, hm1, hy1, hd⟩
    · have hm : MemOK (C := C1) (wrS []) w w [] := memRo rfl (fun _ h => by cases h) (fun _ h => by cases h) (fun _ h => by cases h)
      exact (orders_0n).calls Try.func4 rfl name4 rfl hm
    · have hm : MemOK (C := C1) (wrS (C := C1) [⟨y.block, y.off, 1, false, none, .rows 3 z1⟩]) w w [⟨y.block, y.off, 1, false, none, .rows 3 z1⟩] := by
        refine memRo rfl (fun c h => ?_) (fun c h => ?_) (fun c h => ?_)
        · rw [List.mem_singleton.1 h]
          exact intRow_ok (t := 3) hy hd C1 rfl z1 rfl (fun i hi => rfl)
        · rw [List.mem_singleton.1 h]; exact hyb
        · rw [List.mem_singleton.1 h]
      have := (orders_0 y.block y.off z1 len1 cap1 (by omega)).calls Try.func4 rfl name4 rfl hm
      simpa only [SV.vas, SV.va, SB.val, Ad.at, ads, nth, Ck.ad, at_x hy] using this
  · rcases w1 with ⟨rfl, rfl, rfl, rfl⟩ | ⟨y, rfl, hy, hyb, hm1, hy1, hd⟩
    · have hm : MemOK (C := C1) (wrS (C := C1) [⟨x.block, x.off, 4, false, none, .rows 39 z0⟩]) w w [⟨x.block, x.off, 4, false, none, .rows 39 z0⟩] := by
        refine memRo rfl (fun c h => ?_) (fun c h => ?_) (fun c h => ?_)
        · rw [List.mem_singleton.1 h]
          exact blkRow_ok hx (by rw [hz]; exact hc)
        · rw [List.mem_singleton.1 h]; exact hxb
        · rw [List.mem_singleton.1 h]
      cases len0 with
      | zero =>
        have := (orders_En x.block x.off z0 cap0).calls Try.func4 rfl name4 rfl hm
        simpa only [SV.vas, SV.va, SB.val, Ad.at, ads, nth, Ck.ad, at_x hx] using this
      | succ n =>
        have := (orders_Sn x.block x.off z0 (n + 1) cap0 (Nat.succ_pos n) (by omega)).calls Try.func4 rfl name4 rfl hm
        simpa only [SV.vas, SV.va, SB.val, Ad.at, ads, nth, Ck.ad, at_x hx] using this
    · have hm : MemOK (C := C1) (wrS (C := C1) [⟨x.block, x.off, 4, false, none, .rows 39 z0⟩, ⟨y.block, y.off, 1, false, none, .rows 3 z1⟩]) w w [⟨x.block, x.off, 4, false, none, .rows 39 z0⟩, ⟨y.block, y.off, 1, false, none, .rows 3 z1⟩] := by
        refine memRo rfl (fun c h => ?_) (fun c h => ?_) (fun c h => ?_)
        · rcases List.mem_cons.1 h with rfl | h
          · exact blkRow_ok hx (by rw [hz]; exact hc)
          · rw [List.mem_singleton.1 h]
            exact intRow_ok (t := 3) hy hd C1 rfl z1 rfl (fun i hi => rfl)
        · rcases List.mem_cons.1 h with rfl | h
          · exact hxb
          · rw [List.mem_singleton.1 h]; exact hyb
        · rcases List.mem_cons.1 h with rfl | h
          · rfl
          · rw [List.mem_singleton.1 h]
      cases len0 with
      | zero =>
        have := (orders_E x.block x.off z0 cap0 y.block y.off z1 len1 cap1 (by omega)).calls Try.func4 rfl name4 rfl hm
        simpa only [SV.vas, SV.va, SB.val, Ad.at, ads, nth, Ck.ad, at_x hx, at_x hy] using this
      | succ n =>
        have := (orders_S x.block x.off z0 (n + 1) cap0 (Nat.succ_pos n) (by omega) y.block y.off z1 len1 cap1 (by omega)).calls Try.func4 rfl name4 rfl hm
        simpa only [SV.vas, SV.va, SB.val, Ad.at, ads, nth, Ck.ad, at_x hx, at_x hy] using this

set_option maxRecDepth 100000 in
theorem lifted (os : Os) (started : os.Started) (H : Type) (enc : TypeId × Value → H) :
    ReturnsInHanded {} Try.checked os 4 .any (Rows.victimOrdersSpec.pre6 enc Try.prog Try.f4 Rows.victimOrdersRow.domain false) (Rows.victimOrdersSpec.post enc Try.prog Try.f4 false true false false) := by
  refine returnsInHanded_of_change (C := Try.checked) own started (by kernel_rfl) Try.func4
    (ChangeSpec.witness6 (enc := enc) (C := Try.checked) false ⟨#[], #[.slice none 0 0, .slice none 0 0], []⟩ 8 (by kernel_rfl) (by kernel_rfl) (by kernel_rfl) (by kernel_rfl)) ?_
  intro W base args ds gs before hval0 hW hcnd _
  have hval : ∀ (j : Nat) t v, Try.f4.params[j]? = some t → args[j]? = some v → Value.okWide Try.prog W .any base t v := hval0
  have hW' := hW
  obtain ⟨p, q, hA0, hV, rfl, hfz, hnd⟩ := hW
  have hA : DataW.TrodAll enc Try.prog W 0 (fun _ => true) true Try.f4.params.toList args.toList ds p := hA0
  rw [Try.params4] at hA hval
  obtain ⟨v0, vs0, d0, ds0, p0, q0, hargs, rfl, rfl, h0, r0⟩ := trodAll_cons hA
  obtain ⟨v1, vs1, d1, ds1, p1, q1, rfl, rfl, rfl, h1, r1⟩ := trodAll_cons r0
  obtain ⟨rfl, rfl, rfl⟩ := trodAll_nil r1
  obtain rfl : args = #[v0, v1] := by cases args; simp_all
  obtain ⟨rfl, rfl⟩ := trodVars_none hV
  have hv0 := hval 0 22 v0 rfl rfl
  have hv1 := hval 1 35 v1 rfl rfl
  obtain ⟨a0, len0, cap0, rfl⟩ := okWide_slice Try.underlying22 hv0
  obtain ⟨a1, len1, cap1, rfl⟩ := okWide_slice Try.underlying35 hv1
  have k0 := h0
  have k1 := h1
  have lt0 : ∀ x ∈ p0, x.block < W.heap.size := by obtain ⟨m, hm⟩ := k0; exact DataW.trod_lt m _ _ _ hm
  have lt1 : ∀ x ∈ p1, x.block < W.heap.size := by obtain ⟨m, hm⟩ := k1; exact DataW.trod_lt m _ _ _ hm
  obtain ⟨z0, w0⟩ : ∃ zs, IsBlks W a0 len0 cap0 zs := blks_open hv0 h0
  obtain ⟨z1, w1⟩ : ∃ zs, IsRow .i64 W a1 len1 cap1 zs := by
    obtain ⟨fuel, hf⟩ := h1
    rcases open_ints Try.underlying35 Try.underlying3 (by kernel_rfl) hf with ⟨hcs, _⟩ | ⟨x, l, c, zs, hcs, _, hl, hm, hz, _, hcell, hwz⟩
    · simp [Value.cells] at hcs
      obtain ⟨rfl, rfl, rfl⟩ := hcs
      exact ⟨[], .inl ⟨rfl, rfl, rfl, rfl⟩⟩
    · simp [Value.cells] at hcs
      obtain ⟨rfl, rfl, rfl⟩ := hcs
      obtain ⟨hs, hb⟩ := okWide_at Try.underlying35 hv1
      exact ⟨zs, .inr ⟨_, rfl, hs, hb, hl, by simpa using hz, hcell⟩⟩
  clear hA0 hval0
  refine (walk a0 len0 cap0 z0 a1 len1 cap1 z1 W w0 w1).mono fun e W' ⟨he, bel⟩ => ?_
  subst he
  exact ⟨_, rfl, _, _, _, [], _, [], hW', trodAll_mk1 (shut_bool Try.underlying4 _), (trodAll_cons_mk (Below.trod laidOut (by kernel_rfl) (of_decide_eq_true (by kernel_rfl)) k0 bel lt0) (trodAll_cons_mk (Below.trod laidOut (by kernel_rfl) (of_decide_eq_true (by kernel_rfl)) k1 bel lt1) trodAll_mk0)), rfl, bel.frame _, fun h => by cases h⟩

theorem over : Rows.victimOrdersRow.holds Try.pinned (OpenSpec.ofChange Rows.victimOrdersSpec) :=
  OpenClaim.holds_of_wide 4 Try.f4 rfl rfl rfl rfl rfl rfl rfl ⟨rfl, rfl, rfl, rfl, rfl⟩ rfl rfl rfl rfl rfl (by kernel_rfl) Try.func4 (by kernel_rfl)
    (of_decide_eq_true (by kernel_rfl)) (by unfold Func.isWrapper; first | (rw [if_pos (by decide +kernel)]; kernel_rfl) | (rw [if_neg (by decide +kernel)]; exact ⟨rfl, rfl⟩))
    (fun os started H enc _ => lifted os started H enc)

theorem proved : Rows.VictimOrdersSaid := over
#print axioms proved
end Go.Proofs.Ytoiiehjnfdhciaa.victimOrders
