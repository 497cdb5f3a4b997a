/-
  PointUnlike answers true for every two points, every int and every byte, and turns nothing that was there: the card.
  Conditions: none.
-/
import Derived.Test.YtmdnpfocihfkdaaDoorM8
import Derived.Test.YtmdnpfocihfkdaaDoorCards
import Derived.Test.YtmdnpfocihfkdaaDoorTie
set_option linter.unusedVariables false
set_option linter.unusedSimpArgs false
set_option maxRecDepth 100000
namespace Go.Proofs.YtmdnpfocihfkdaaDoor.pointUnlike
open Go.ChangeShapes Go.WideShapes Go.ChangeAt Go.RowKit Go.Vx

theorem own : ownKnob Tryd.prog.godebug = none := by kernel_rfl
theorem laidOut : laidOutB Tryd.prog = true := by kernel_rfl
theorem name6 : (Tryd.f6.name == "runtime.NumGoroutine") = false := by kernel_rfl
def pos3 (g : Nat) : Nat := match g with
  | 0 => 1
  | 1 => 0
  | g => g
theorem pos3_ok : ∀ g, g < 3 → pos3 g < [1, 0, 2].length ∧ [1, 0, 2].getD (pos3 g) 0 = g := by decide
theorem laid_sent : SentL Tryd.prog "*errors.errorString" 30 Rows.pointUnlikeRow.laid [1, 0, 2] := by
  refine ⟨⟨_, rfl⟩, by kernel_rfl, by kernel_rfl, ⟨_, rfl⟩, by kernel_rfl, by kernel_rfl, ⟨_, rfl⟩, by kernel_rfl, by kernel_rfl, trivial⟩
theorem laid_plain (w : World) : laidMetH Tryd.prog Rows.pointUnlikeRow.laid w = laidMet Tryd.prog Rows.pointUnlikeRow.laid w := Go.MakeChecks.laidMetH_plain _ _ _ (by kernel_rfl)

theorem mem_ok [Gl] {w : World} {t : Nat} {a : Option Addr} {n c : Nat} {l : List (C0 t).α} {a2 : Option Addr} {n2 c2 : Nat} {l2 : List Slot} {t' : Nat} {a' : Option Addr} {n' c' : Nat} {l' : List (C0 t').α} {a2' : Option Addr} {n2' c2' : Nat} {l2' : List Slot}
    (b1 : IsPart (C0 t) w a n c l) (b2 : IsPart (C0 74) w a2 n2 c2 l2) (b1' : IsPart (C0 t') w a' n' c' l') (b2' : IsPart (C0 74) w a2' n2' c2' l2')
    (hr : ∀ r ∈ l, (C0 t).good w r ∧ ∀ b ∈ (C0 t).blks r, b < w.heap.size) (hr' : ∀ r ∈ l', (C0 t').good w r ∧ ∀ b ∈ (C0 t').blks r, b < w.heap.size) (hlv : Gl.lv = 3) (hG : ∀ g, g < 3 → w.cell? ⟨g, 0, none⟩ = some (.iface 195 (.pointer (some (Gl.A g)))) ∧ w.heap[(Gl.A g).block]? = some (.cells (Gl.c g) (Gl.t g) (0, 0))) :
    MemOK (C := C0) (wrS (C := C0) [inCk t a l, inCk 74 a2 l2, inCk t' a' l', inCk 74 a2' l2']) w w [inCk t a l, inCk 74 a2 l2, inCk t' a' l', inCk 74 a2' l2'] := by
  refine memRo rfl (fun x hx ho => ?_) (fun x hx ho => ?_) (more_of (n := 3) (Nat.le_refl 3) (by rw [hlv]; exact Nat.le_refl 3) hG rfl fun x hx t' L he r hx2 => ?_)
  · simp only [List.mem_cons, List.not_mem_nil, or_false] at hx
    rcases hx with rfl | rfl | rfl | rfl
    · exact b1.ok _ ho
    · exact b2.ok _ ho
    · exact b1'.ok _ ho
    · exact b2'.ok _ ho
  · simp only [List.mem_cons, List.not_mem_nil, or_false] at hx
    rcases hx with rfl | rfl | rfl | rfl
    · exact b1.lt ho
    · exact b2.lt ho
    · exact b1'.lt ho
    · exact b2'.lt ho
  · simp only [List.mem_cons, List.not_mem_nil, or_false] at hx
    rcases hx with rfl | rfl | rfl | rfl
    · cases he
      exact hr r hx2
    · cases he
      exact ⟨trivial, fun b hb => by cases hb⟩
    · cases he
      exact hr' r hx2
    · cases he
      exact ⟨trivial, fun b hb => by cases hb⟩
theorem vals [Gl] {w : World} {t : Nat} {a : Option Addr} {n c : Nat} {l : List (C0 t).α} {a2 : Option Addr} {n2 c2 : Nat} {l2 : List Slot} {t' : Nat} {a' : Option Addr} {n' c' : Nat} {l' : List (C0 t').α} {a2' : Option Addr} {n2' c2' : Nat} {l2' : List Slot}
    (b1 : IsPart (C0 t) w a n c l) (b2 : IsPart (C0 74) w a2 n2 c2 l2) (b1' : IsPart (C0 t') w a' n' c' l') (b2' : IsPart (C0 74) w a2' n2' c2' l2') (h h' : Hd) (at' by' : Int) :
    SV.vas (ads (C := C0) [inCk t a l, inCk 74 a2 l2, inCk t' a' l', inCk 74 a2' l2']) [ptv h (.sl 0 0 n c) (.sl 1 0 n2 c2), ptv h' (.sl 2 0 n' c') (.sl 3 0 n2' c2'), .int .i64 at', .int .u8 by'] =
      [.agg #[.int .i64 h.1, .int .i64 h.2.1, .int .i64 h.2.2.1, .int .i64 h.2.2.2, .slice a n c, .slice a2 n2 c2], .agg #[.int .i64 h'.1, .int .i64 h'.2.1, .int .i64 h'.2.2.1, .int .i64 h'.2.2.2, .slice a' n' c', .slice a2' n2' c2'], .int .i64 at', .int .u8 by'] := by
  have e1 : SV.va (ads (C := C0) [inCk t a l, inCk 74 a2 l2, inCk t' a' l', inCk 74 a2' l2']) (.sl 0 0 n c) = .slice a n c := b1.va rfl
  have e2 : SV.va (ads (C := C0) [inCk t a l, inCk 74 a2 l2, inCk t' a' l', inCk 74 a2' l2']) (.sl 1 0 n2 c2) = .slice a2 n2 c2 := b2.va rfl
  have e3 : SV.va (ads (C := C0) [inCk t a l, inCk 74 a2 l2, inCk t' a' l', inCk 74 a2' l2']) (.sl 2 0 n' c') = .slice a' n' c' := b1'.va rfl
  have e4 : SV.va (ads (C := C0) [inCk t a l, inCk 74 a2 l2, inCk t' a' l', inCk 74 a2' l2']) (.sl 3 0 n2' c2') = .slice a2' n2' c2' := b2'.va rfl
  rw [← e1, ← e2, ← e3, ← e4]
  rfl
theorem some_no {R : List Raw} {n : Nat} (hn : R.length = n) (h2 : ¬ ∀ r ∈ R, r.2.1 = 2) : ∃ r ∈ R.take n, r.2.1 ≠ 2 := by
  rw [List.take_of_length_le (by omega)]
  exact Classical.byContradiction fun hc => h2 fun r hr => Classical.byContradiction fun h3 => hc ⟨r, hr, h3⟩
theorem rok_of {w : World} {l : List (Rw Int)} {a : Option Addr} {n c : Nat} {a2 : Option Addr} {n2 c2 : Nat} {l2 : List Slot} (hp : PtIn w a n c l a2 n2 c2 l2) (hl2 : ∀ r ∈ l, r.l.length = 2) : ∀ r ∈ l.take n, Rok r := fun r hr =>
  ⟨(hp.rw r (List.mem_of_mem_take hr)).nil, (hp.rw r (List.mem_of_mem_take hr)).cap, by rw [hl2 r (List.mem_of_mem_take hr)]; decide⟩
theorem walk (h : Hd) (a : Option Addr) (n c : Nat) (R : List Raw) (a2 : Option Addr) (n2 c2 : Nat) (l2 : List Slot) (h' : Hd) (a' : Option Addr) (n' c' : Nat) (R' : List Raw) (a2' : Option Addr) (n2' c2' : Nat) (l2' : List Slot) (at' by' : Int) (w : World) (hs : IsPart cSlot w a2 n2 c2 l2) (hR : R.length = n) (hraw : IsPart cRaw w a n c R)
    (hp : (∀ r ∈ R, r.2.1 = 2) → ∃ l : List (Rw Int), (∀ r ∈ l, r.l.length = 2) ∧ PtIn w a n c l a2 n2 c2 l2) (hs' : IsPart cSlot w a2' n2' c2' l2') (hR' : R'.length = n') (hraw' : IsPart cRaw w a' n' c' R')
    (hp' : (∀ r ∈ R', r.2.1 = 2) → ∃ l : List (Rw Int), (∀ r ∈ l, r.l.length = 2) ∧ PtIn w a' n' c' l a2' n2' c2' l2') (hby : 0 ≤ by' ∧ by' < 256) (hl : laidMetH Tryd.prog Rows.pointUnlikeRow.laid w) :
    Calls Tryd.prog 6 #[.agg #[.int .i64 h.1, .int .i64 h.2.1, .int .i64 h.2.2.1, .int .i64 h.2.2.2, .slice a n c, .slice a2 n2 c2], .agg #[.int .i64 h'.1, .int .i64 h'.2.1, .int .i64 h'.2.2.1, .int .i64 h'.2.2.2, .slice a' n' c', .slice a2' n2' c2'], .int .i64 at', .int .u8 by'] w
      fun e w' => e = .returned (.bool true) ∧ Below w.heap.size w w' := by
  rw [laid_plain] at hl
  obtain ⟨G, hlv, hA, hG⟩ := gl_of pos3 pos3_ok laid_sent hl
  have b2 : IsPart (C0 74) w a2 n2 c2 l2 := hs
  have b2' : IsPart (C0 74) w a2' n2' c2' l2' := hs'
  by_cases g : ∀ r ∈ R, r.2.1 = 2
  · obtain ⟨l, hl2, hp⟩ := hp g
    have b1 : IsPart (C0 71) w a n c l := hp.bl
    have d1 : ∀ r ∈ l, (C0 71).good w r ∧ ∀ b ∈ (C0 71).blks r, b < w.heap.size := fun r hr => ⟨(hp.rw r hr).good, (hp.rw r hr).lt⟩
    by_cases g' : ∀ r ∈ R', r.2.1 = 2
    · obtain ⟨l', hl2', hp'⟩ := hp' g'
      have b1' : IsPart (C0 71) w a' n' c' l' := hp'.bl
      have hm := mem_ok (t := 71) (t' := 71) b1 b2 b1' b2' d1 (fun r hr => ⟨(hp'.rw r hr).good, (hp'.rw r hr).lt⟩) hlv hG
      have := (unlike_ok h a.isSome (inB a) (inQ a) l n c a2.isSome (inB a2) (inQ a2) l2 n2 c2 h' a'.isSome (inB a') (inQ a') l' n' c' a2'.isSome (inB a2') (inQ a2') l2' n2' c2' at' by' b1.sq b2.sq (rok_of hp hl2) b1'.sq b2'.sq (rok_of hp' hl2') hby).calls Tryd.func6 rfl name6 rfl hm
      rw [← vals (t := 71) (t' := 71) b1 b2 b1' b2' h h' at' by']
      exact this
    · have b1' : IsPart (C0 1071) w a' n' c' R' := hraw'
      have hm := mem_ok (t := 71) (t' := 1071) b1 b2 b1' b2' d1 (fun r hr => ⟨trivial, fun b hb => by cases hb⟩) hlv hG
      have := (unlikeO2_ok h a.isSome (inB a) (inQ a) l n c a2.isSome (inB a2) (inQ a2) l2 n2 c2 h' a'.isSome (inB a') (inQ a') R' n' c' a2'.isSome (inB a2') (inQ a2') l2' n2' c2' at' by' b1.sq.2.1 b1.sq.2.2 b1'.sq.2.1 b1'.sq.2.2 (some_no hR' g')).calls Tryd.func6 rfl name6 rfl hm
      rw [← vals (t := 71) (t' := 1071) b1 b2 b1' b2' h h' at' by']
      exact this
  · have b1 : IsPart (C0 1071) w a n c R := hraw
    have b1' : IsPart (C0 1071) w a' n' c' R' := hraw'
    have hm := mem_ok (t := 1071) (t' := 1071) b1 b2 b1' b2' (fun r hr => ⟨trivial, fun b hb => by cases hb⟩) (fun r hr => ⟨trivial, fun b hb => by cases hb⟩) hlv hG
    have := (unlikeO_ok h a.isSome (inB a) (inQ a) R n c a2.isSome (inB a2) (inQ a2) l2 n2 c2 h' a'.isSome (inB a') (inQ a') R' n' c' a2'.isSome (inB a2') (inQ a2') l2' n2' c2' at' by' b1.sq.2.1 b1.sq.2.2 (some_no hR g)).calls Tryd.func6 rfl name6 rfl hm
    rw [← vals (t := 1071) (t' := 1071) b1 b2 b1' b2' h h' at' by']
    exact this

/-- The heap that the program's own start leaves meets the condition. -/
theorem door_met (os : Os) (args : Array Value) : laidMetH Tryd.prog Rows.pointUnlikeRow.laid ((World.doorLaid Tryd.prog 400 os).forCall (fun _ _ => 0) ⟨#[], args, []⟩).memory :=
  laidMetH_of_parts3 (fuel := 8) (laidMet_of_run' 8 (by kernel_rfl) (by kernel_rfl)) (by kernel_rfl) (by kernel_rfl)

theorem lifted (os : Os) (started : os.Started) (H : Type) (enc : TypeId × Value → H) :
    ReturnsInHanded {} Tryd.checked os 6 .any (fun w args => (Rows.pointUnlikeSpec.pre enc Tryd.prog Tryd.f6 [] false w args ∧ laidMetH Tryd.prog Rows.pointUnlikeRow.laid w) ∧ sizedMet enc Tryd.prog Tryd.f6 (OpenSpec.ofChange Rows.pointUnlikeSpec) false w args)
      (Rows.pointUnlikeSpec.post enc Tryd.prog Tryd.f6 false true false false) := by
  refine returnsInHanded_of_change_and (C := Tryd.checked) (X := fun w _ => laidMetH Tryd.prog Rows.pointUnlikeRow.laid w) (fun _ _ _ hh h => h.of_heap hh) own started (by kernel_rfl) Tryd.func6
    (ChangeSpec.witness_shaped (enc := enc) (C := Tryd.checked) (os := os) (X := fun w _ => laidMetH Tryd.prog Rows.pointUnlikeRow.laid w) false (World.doorLaid Tryd.prog 400 os) #[.agg #[.int .i64 0, .int .i64 0, .int .i64 0, .int .i64 0, .slice none 0 0, .slice none 0 0], .agg #[.int .i64 0, .int .i64 0, .int .i64 0, .int .i64 0, .slice none 0 0, .slice none 0 0], .int .i64 0, .int .u8 0] 8 rfl (World.shaped_of_RefB (by kernel_rfl) (by kernel_rfl)) (by kernel_rfl) (by kernel_rfl) (by kernel_rfl) (door_met os _)) ?_
  intro W base args ds gs before hval0 hW _ _ hX _
  have hval : ∀ (j : Nat) t v, Tryd.f6.params[j]? = some t → args[j]? = some v → Value.okWide Tryd.prog W .any base t v := hval0
  have hW' := hW
  obtain ⟨p, q, hA0, hV, rfl, hfz, hnd⟩ := hW
  have hA : DataW.TrodAll enc Tryd.prog W 0 (fun _ => true) true Tryd.f6.params.toList args.toList ds p := hA0
  rw [Tryd.params6] at hA hval
  obtain ⟨v0, vs0, d0, ds0, p0, q0, hargs, rfl, rfl, h0, r0⟩ := trodAll_cons hA
  obtain ⟨v1, vs1, d1, ds1, p1, q1, rfl, rfl, rfl, h1, r1⟩ := trodAll_cons r0
  obtain ⟨v2, vs2, d2, ds2, p2, q2, rfl, rfl, rfl, h2, r2⟩ := trodAll_cons r1
  obtain ⟨v3, vs3, d3, ds3, p3, q3, rfl, rfl, rfl, h3, r3⟩ := trodAll_cons r2
  obtain ⟨rfl, rfl, rfl⟩ := trodAll_nil r3
  obtain rfl : args = #[v0, v1, v2, v3] := by cases args; simp_all
  obtain ⟨rfl, rfl⟩ := trodVars_none hV
  have k0 := h0
  have k1 := h1
  have lt0 : ∀ x ∈ p0, x.block < W.heap.size := by obtain ⟨m, hm⟩ := k0; exact DataW.trod_lt m _ _ _ hm
  have lt1 : ∀ x ∈ p1, x.block < W.heap.size := by obtain ⟨m, hm⟩ := k1; exact DataW.trod_lt m _ _ _ hm
  obtain ⟨hd, a, n, c, a2, n2, c2, l2, R, rfl, q1, q2, q3, q4⟩ := point_open (hval 0 25 v0 rfl rfl) h0
  obtain ⟨hd', a', n', c', a2', n2', c2', l2', R', rfl, s1, s2, s3, s4⟩ := point_open (hval 1 25 v1 rfl rfl) h1
  obtain ⟨at', rfl, rfl, rfl, wf2⟩ := open_int Tryd.underlying3 (hval 2 3 v2 rfl rfl) h2
  obtain ⟨by', rfl, rfl, rfl, wf3⟩ := open_int Tryd.underlying5 (hval 3 5 v3 rfl rfl) h3
  have hby : 0 ≤ by' ∧ by' < 256 := by
    have := wf3
    simp [Lit.wf, IntKind.min, IntKind.max, IntKind.signed, IntKind.bits] at this
    omega
  clear hA0 hval0
  refine (walk hd a n c R a2 n2 c2 l2 hd' a' n' c' R' a2' n2' c2' l2' at' by' W q1 q2 q3 q4 s1 s2 s3 s4 hby hX).mono fun e W' ⟨he, bel⟩ => ?_
  subst he
  exact ⟨_, rfl, _, _, _, [], _, [], hW', trodAll_mk1 (shut_bool Tryd.underlying4 _), (trodAll_cons_mk (Below.trod laidOut (by kernel_rfl) (of_decide_eq_true (by kernel_rfl)) k0 bel lt0) (trodAll_cons_mk (Below.trod laidOut (by kernel_rfl) (of_decide_eq_true (by kernel_rfl)) k1 bel lt1) (trodAll_cons_mk (shut_int Tryd.underlying3 wf2) (trodAll_cons_mk (shut_int Tryd.underlying5 wf3) trodAll_mk0)))), rfl, bel.frame _, fun h => by cases h⟩

theorem over : Rows.PointUnlikeSaid :=
  OpenClaim.holds_of_wide 6 Tryd.f6 rfl rfl rfl rfl rfl rfl rfl ⟨rfl, rfl, rfl, rfl, rfl⟩ rfl rfl rfl rfl rfl (by kernel_rfl) Tryd.func6 (by kernel_rfl)
    (of_decide_eq_true (by kernel_rfl)) (by unfold Func.isWrapper; first | (rw [if_pos (by decide +kernel)]; kernel_rfl) | (rw [if_neg (by decide +kernel)]; exact ⟨rfl, rfl⟩))
    (fun os started H enc _ => lifted os started H enc)

theorem card_holds : Rows.PointUnlikeCardSaid :=
  Claim7.holds_tied_plain_at .later [] [.sentinel, .sentinel, .sentinel] true (true, "02831cecd5ca578600f3df96b52a4a485e9098fc428204953626da66e4b9418f") true
    over (fun _ h => by cases h) (by kernel_rfl) (fun _ h => by cases h) pointUnlike_row_tie rfl ⟨rfl, rfl⟩ (by kernel_rfl) rfl
    (fun f fn hf hfn => by
      obtain rfl : f = 6 := Option.some.inj ((show Tryd.prog.funcNamed Rows.pointUnlikeRow.func = some 6 by kernel_rfl).symm.trans hf) |>.symm
      obtain rfl : fn = Tryd.f6 := (Option.some.inj (Tryd.func6.symm.trans hfn)).symm
      exact ⟨by kernel_rfl, fun j t ht => by
        rw [Tryd.params6] at ht
        have h3 : t = 25 ∨ t = 5 ∨ t = 3 := by
          rcases j with _ | _ | _ | _ | j
          · exact .inl (by simpa using ht.symm)
          · exact .inl (by simpa using ht.symm)
          · exact .inr (.inr (by simpa using ht.symm))
          · exact .inr (.inl (by simpa using ht.symm))
          · simp at ht
        rcases h3 with rfl | rfl | rfl
        · exact (show Tryd.prog.wantsStandIn 25 = false by kernel_rfl)
        · exact (show Tryd.prog.wantsStandIn 5 = false by kernel_rfl)
        · exact (show Tryd.prog.wantsStandIn 3 = false by kernel_rfl)⟩)
    (by kernel_rfl)
#print axioms card_holds
end Go.Proofs.YtmdnpfocihfkdaaDoor.pointUnlike
