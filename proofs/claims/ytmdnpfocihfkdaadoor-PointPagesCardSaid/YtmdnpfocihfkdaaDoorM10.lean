/-
  PointPages answers true for every point, and turns nothing that was there: the card.
  Conditions: none.
-/
import Derived.Test.YtmdnpfocihfkdaaDoorM9
import Derived.Test.YtmdnpfocihfkdaaDoorCards
import Derived.Test.YtmdnpfocihfkdaaDoorTie
open List renaming mem_cons → we, mem_of_mem_take → xu, not_mem_nil → ww
open Nat renaming le_refl → zy
set_option linter.unusedVariables false
set_option linter.unusedSimpArgs false
set_option linter.unusedSectionVars false
set_option maxRecDepth 100000
namespace Go.Proofs.YtmdnpfocihfkdaaDoor.pointPages
open Go.ChangeShapes Go.WideShapes Go.ChangeAt Go.RowKit Go.Vx
theorem own : ownKnob Tryd.prog.godebug = none := by kernel_rfl
theorem laidOut : laidOutB Tryd.prog = true := by kernel_rfl
theorem name7 : (Tryd.f7.name == "runtime.NumGoroutine") = false := by kernel_rfl
def pos5 (g : Nat) : Nat := match g with
 | 0 => 1
 | 1 => 0
 | 2 => 4
 | 3 => 2
 | 4 => 3
 | g => g
theorem pos5_ok : ∀ g, g < 5 → pos5 g < [1, 0, 3, 4, 2].length ∧ [1, 0, 3, 4, 2].getD (pos5 g) 0 = g := by decide
theorem laid_sent : SentL Tryd.prog "*errors.errorString" 30 Rows.pointPagesRow.laid [1, 0, 3, 4, 2] := by
 refine ⟨⟨_, rfl⟩, by kernel_rfl, by kernel_rfl, ⟨_, rfl⟩, by kernel_rfl, by kernel_rfl, ⟨_, rfl⟩, by kernel_rfl, by kernel_rfl, ⟨_, rfl⟩, by kernel_rfl, by kernel_rfl, ⟨_, rfl⟩, by kernel_rfl, by kernel_rfl, trivial⟩
theorem laid_plain (w : World) : laidMetH Tryd.prog Rows.pointPagesRow.laid w = laidMet Tryd.prog Rows.pointPagesRow.laid w := Go.MakeChecks.laidMetH_plain _ _ _ (by kernel_rfl)
theorem mem_ok [Gl] {w : World} {t : Nat} {a : Option Addr} {n c : Nat} {l : List (C0 t).α} {a2 : Option Addr} {n2 c2 : Nat} {l2 : List Slot} (b1 : IsPart (C0 t) w a n c l) (b2 : IsPart (C0 74) w a2 n2 c2 l2)
 (hr : ∀ r ∈ l, (C0 t).good w r ∧ ∀ b ∈ (C0 t).blks r, b < w.heap.size) (hlv : Gl.lv = 5) (hG : ∀ g, g < 5 → w.cell? ⟨g, 0, none⟩ = some (.iface 195 (.pointer (some (Gl.A g)))) ∧ w.heap[(Gl.A g).block]? = some (.cells (Gl.c g) (Gl.t g) (0, 0))) :
 MemOK (C := C0) (wrS (C := C0) [inCk t a l, inCk 74 a2 l2]) w w [inCk t a l, inCk 74 a2 l2] := by
 refine memRo rfl (fun x hx ho => ?_) (fun x hx ho => ?_) (more_of (n := 5) (zy 5) (by rw [hlv]; exact zy 5) hG rfl fun x hx t' y hy => ?_)
 · simp only [we, ww, or_false] at hx
   rcases hx with rfl | rfl
   · exact b1.ok _ ho
   · exact b2.ok _ ho
 · simp only [we, ww, or_false] at hx
   rcases hx with rfl | rfl
   · exact b1.lt ho
   · exact b2.lt ho
 · simp only [we, ww, or_false] at hx
   rcases hx with rfl | rfl
   · obtain ⟨e, hm⟩ := Cells.Has.inv hy
     subst e
     exact hr _ hm
   · obtain ⟨e, _⟩ := Cells.Has.inv hy
     subst e
     exact ⟨trivial, fun b hb => by cases hb⟩
theorem walk (h : Hd) (a : Option Addr) (n c : Nat) (R : List Raw) (a2 : Option Addr) (n2 c2 : Nat) (l2 : List Slot) (w : World) (hs : IsPart cSlot w a2 n2 c2 l2) (hR : R.length = n) (hraw : IsPart cRaw w a n c R)
 (hp : (∀ r ∈ R, r.2.1 = 2) → ∃ l : List (Rw Int), (∀ r ∈ l, r.l.length = 2) ∧ PtIn w a n c l a2 n2 c2 l2) (hl : laidMetH Tryd.prog Rows.pointPagesRow.laid w) :
 Calls Tryd.prog 7 #[.agg #[.int .i64 h.1, .int .i64 h.2.1, .int .i64 h.2.2.1, .int .i64 h.2.2.2, .slice a n c, .slice a2 n2 c2]] w fun e w' => e = .returned (.bool true) ∧ Below w.heap.size w w' := by
 rw [laid_plain] at hl
 obtain ⟨G, hlv, hA, hG⟩ := gl_of pos5 pos5_ok laid_sent hl
 have b2 : IsPart (C0 74) w a2 n2 c2 l2 := hs
 by_cases h2 : ∀ r ∈ R, r.2.1 = 2
 · obtain ⟨l, hl2, hp⟩ := hp h2
   have b1 : IsPart (C0 71) w a n c l := hp.bl
   have hm := mem_ok (t := 71) b1 b2 (fun r hr => ⟨(hp.rw r hr).good, (hp.rw r hr).lt⟩) hlv hG
   have := (pagesL_ok h a.isSome (inB a) (inQ a) l n c a2.isSome (inB a2) (inQ a2) l2 n2 c2 b1.sq b2.sq (fun r hr => ⟨(hp.rw r (xu hr)).nil, (hp.rw r (xu hr)).cap, by rw [hl2 r (xu hr)]; decide⟩)).calls Tryd.func7 rfl name7 rfl hm
   have e1 : SV.va (ads (C := C0) [inCk 71 a l, inCk 74 a2 l2]) (.sl 0 0 n c) = .slice a n c := b1.va rfl
   have e2 : SV.va (ads (C := C0) [inCk 71 a l, inCk 74 a2 l2]) (.sl 1 0 n2 c2) = .slice a2 n2 c2 := b2.va rfl
   have e : SV.vas (ads (C := C0) [inCk 71 a l, inCk 74 a2 l2]) [ptv h (.sl 0 0 n c) (.sl 1 0 n2 c2)] = [.agg #[.int .i64 h.1, .int .i64 h.2.1, .int .i64 h.2.2.1, .int .i64 h.2.2.2, .slice a n c, .slice a2 n2 c2]] := by
    rw [← e1, ← e2]
    rfl
   rw [← e]
   exact this
 · have b1 : IsPart (C0 1071) w a n c R := hraw
   have hm := mem_ok (t := 1071) b1 b2 (fun r hr => ⟨trivial, fun b hb => by cases hb⟩) hlv hG
   have hno : ∃ r ∈ R.take n, r.2.1 ≠ 2 := by
    rw [List.take_of_length_le (by omega)]
    exact Classical.byContradiction fun hc => h2 fun r hr => Classical.byContradiction fun h3 => hc ⟨r, hr, h3⟩
   have := (pagesO_ok h a.isSome (inB a) (inQ a) R n c a2.isSome (inB a2) (inQ a2) l2 n2 c2 b1.sq.2.1 b1.sq.2.2 hno).calls Tryd.func7 rfl name7 rfl hm
   have e1 : SV.va (ads (C := C0) [inCk 1071 a R, inCk 74 a2 l2]) (.sl 0 0 n c) = .slice a n c := b1.va rfl
   have e2 : SV.va (ads (C := C0) [inCk 1071 a R, inCk 74 a2 l2]) (.sl 1 0 n2 c2) = .slice a2 n2 c2 := b2.va rfl
   have e : SV.vas (ads (C := C0) [inCk 1071 a R, inCk 74 a2 l2]) [ptv h (.sl 0 0 n c) (.sl 1 0 n2 c2)] = [.agg #[.int .i64 h.1, .int .i64 h.2.1, .int .i64 h.2.2.1, .int .i64 h.2.2.2, .slice a n c, .slice a2 n2 c2]] := by
    rw [← e1, ← e2]
    rfl
   rw [← e]
   exact this
theorem door_met (os : Os) (args : Array Value) : laidMetH Tryd.prog Rows.pointPagesRow.laid ((World.doorLaid Tryd.prog 400 os).forCall (fun _ _ => 0) ⟨#[], args, []⟩).memory :=
 laidMetH_of_parts3 (fuel := 8) (laidMet_of_run' 8 (by kernel_rfl) (by kernel_rfl)) (by kernel_rfl) (by kernel_rfl)
theorem lifted (os : Os) (started : os.Started) (H : Type) (enc : TypeId × Value → H) :
 ReturnsInHanded {} Tryd.checked os 7 .any (fun w args => (Rows.pointPagesSpec.pre enc Tryd.prog Tryd.f7 [] false w args ∧ laidMetH Tryd.prog Rows.pointPagesRow.laid w) ∧ sizedMet enc Tryd.prog Tryd.f7 (OpenSpec.ofChange Rows.pointPagesSpec) false w args)
  (Rows.pointPagesSpec.post enc Tryd.prog Tryd.f7 false true false false) := by
 refine returnsInHanded_of_change_and (C := Tryd.checked) (X := fun w _ => laidMetH Tryd.prog Rows.pointPagesRow.laid w) (fun _ _ _ hh h => h.of_heap hh) own started (by kernel_rfl) Tryd.func7
  (ChangeSpec.witness_shaped (enc := enc) (C := Tryd.checked) (os := os) (X := fun w _ => laidMetH Tryd.prog Rows.pointPagesRow.laid w) false (World.doorLaid Tryd.prog 400 os) #[.agg #[.int .i64 0, .int .i64 0, .int .i64 0, .int .i64 0, .slice none 0 0, .slice none 0 0]] 8 rfl (World.shaped_of_RefB (by kernel_rfl) (by kernel_rfl)) (by kernel_rfl) (by kernel_rfl) (by kernel_rfl) (door_met os _)) ?_
 intro W base args ds gs before hval0 hW _ _ hX _
 have hval : ∀ (j : Nat) t v, Tryd.f7.params[j]? = some t → args[j]? = some v → Value.okWide Tryd.prog W .any base t v := hval0
 have hW' := hW
 obtain ⟨p, q, hA0, hV, rfl, hfz, hnd⟩ := hW
 have hA : DataW.TrodAll enc Tryd.prog W 0 (fun _ => true) true Tryd.f7.params.toList args.toList ds p := hA0
 rw [Tryd.params7] at hA hval
 obtain ⟨v0, vs0, d0, ds0, p0, q0, hargs, rfl, rfl, h0, r0⟩ := trodAll_cons hA
 obtain ⟨rfl, rfl, rfl⟩ := trodAll_nil r0
 obtain rfl : args = #[v0] := by cases args; simp_all
 obtain ⟨rfl, rfl⟩ := trodVars_none hV
 have k0 := h0
 have lt0 : ∀ x ∈ p0, x.block < W.heap.size := by obtain ⟨m, hm⟩ := k0; exact DataW.trod_lt m _ _ _ hm
 obtain ⟨hd, a, n, c, a2, n2, c2, l2, R, rfl, q1, q2, q3, q4⟩ := point_open (hval 0 25 v0 rfl rfl) h0
 clear hA0 hval0
 refine (walk hd a n c R a2 n2 c2 l2 W q1 q2 q3 q4 hX).mono fun e W' ⟨he, bel⟩ => ?_
 subst he
 exact ⟨_, rfl, _, _, _, [], _, [], hW', trodAll_mk1 (shut_bool Tryd.underlying4 _), (trodAll_cons_mk (Below.trod laidOut (by kernel_rfl) (ow (by kernel_rfl)) k0 bel lt0) trodAll_mk0), rfl, bel.frame _, fun h => by cases h⟩
theorem over : Rows.PointPagesSaid :=
 OpenClaim.holds_of_wide 7 Tryd.f7 rfl rfl rfl rfl rfl rfl rfl ⟨rfl, rfl, rfl, rfl, rfl⟩ rfl rfl rfl rfl rfl (by kernel_rfl) Tryd.func7 (by kernel_rfl)
  (ow (by kernel_rfl)) (by unfold Func.isWrapper; first | (rw [if_pos (by decide +kernel)]; kernel_rfl) | (rw [if_neg (by decide +kernel)]; exact ⟨rfl, rfl⟩))
  (fun os started H enc _ => lifted os started H enc)
theorem card_holds : Rows.PointPagesCardSaid :=
 Claim7.holds_tied_plain_at .later [] [.sentinel, .sentinel, .sentinel, .sentinel, .sentinel] true (true, "02831cecd5ca578600f3df96b52a4a485e9098fc428204953626da66e4b9418f") true
  over (fun _ h => by cases h) (by kernel_rfl) (fun _ h => by cases h) pointPages_row_tie rfl ⟨rfl, rfl⟩ (by kernel_rfl) rfl
  (fun f fn hf hfn => by
    obtain rfl : f = 7 := Option.some.inj ((show Tryd.prog.funcNamed Rows.pointPagesRow.func = some 7 by kernel_rfl).symm.trans hf) |>.symm
    obtain rfl : fn = Tryd.f7 := (Option.some.inj (Tryd.func7.symm.trans hfn)).symm
    exact ⟨by kernel_rfl, fun j t ht => by
     rw [Tryd.params7] at ht
     have h3 : t = 25 := by
      rcases j with _ | j
      · simpa using ht.symm
      · simp at ht
     subst h3
     exact (show Tryd.prog.wantsStandIn 25 = false by kernel_rfl)⟩)
  (by kernel_rfl)
#print axioms card_holds
end Go.Proofs.YtmdnpfocihfkdaaDoor.pointPages
