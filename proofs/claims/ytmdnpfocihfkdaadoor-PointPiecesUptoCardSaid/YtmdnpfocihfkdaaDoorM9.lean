/-
  PointPieces, where what it reads is of bulk at most 1048576: true, and nothing that was there is turned: the card.
  Conditions: none.
-/
import Derived.Test.YtmdnpfocihfkdaaDoorM8
import Derived.Deep.DeepHandedRow
import Derived.Deep.DeepWitnessRowRef
import Derived.Test.YtmdnpfocihfkdaaDoorCards
import Derived.Test.YtmdnpfocihfkdaaDoorTie
set_option linter.unusedVariables false
set_option linter.unusedSimpArgs false
set_option maxRecDepth 100000
namespace Go.Proofs.YtmdnpfocihfkdaaDoor.pointPieces
open Go.ChangeShapes Go.WideShapes Go.ChangeAt Go.RowKit Go.Vx

theorem own : ownKnob Tryd.prog.godebug = none := by kernel_rfl
theorem laidOut : laidOutB Tryd.prog = true := by kernel_rfl
theorem name4 : (Tryd.f4.name == "runtime.NumGoroutine") = false := by kernel_rfl
abbrev Gs : List Nat := [5, 6, 7, 8, 9, 1, 0, 3, 10, 4, 11, 12, 13, 14, 15, 2, 16, 17, 18]
def pos19 (g : Nat) : Nat := Gs.findIdx (· == g)
theorem pos19_ok : ∀ g, g < 19 → pos19 g < Gs.length ∧ Gs.getD (pos19 g) 0 = g := by decide
theorem laid_sent : SentL Tryd.prog "*errors.errorString" 30 Rows.pointPiecesUptoRow.laid Gs := by
  refine ⟨⟨_, rfl⟩, by kernel_rfl, by kernel_rfl, ⟨_, rfl⟩, by kernel_rfl, by kernel_rfl, ⟨_, rfl⟩, by kernel_rfl, by kernel_rfl, ⟨_, rfl⟩, by kernel_rfl, by kernel_rfl, ⟨_, rfl⟩, by kernel_rfl, by kernel_rfl, ⟨_, rfl⟩, by kernel_rfl, by kernel_rfl, ⟨_, rfl⟩, by kernel_rfl, by kernel_rfl, ⟨_, rfl⟩, by kernel_rfl, by kernel_rfl, ⟨_, rfl⟩, by kernel_rfl, by kernel_rfl, ⟨_, rfl⟩, by kernel_rfl, by kernel_rfl,
    ⟨_, rfl⟩, by kernel_rfl, by kernel_rfl, ⟨_, rfl⟩, by kernel_rfl, by kernel_rfl, ⟨_, rfl⟩, by kernel_rfl, by kernel_rfl, ⟨_, rfl⟩, by kernel_rfl, by kernel_rfl, ⟨_, rfl⟩, by kernel_rfl, by kernel_rfl, ⟨_, rfl⟩, by kernel_rfl, by kernel_rfl, ⟨_, rfl⟩, by kernel_rfl, by kernel_rfl, ⟨_, rfl⟩, by kernel_rfl, by kernel_rfl, ⟨_, rfl⟩, by kernel_rfl, by kernel_rfl, trivial⟩
theorem laid_plain (w : World) : laidMetH Tryd.prog Rows.pointPiecesUptoRow.laid w = laidMet Tryd.prog Rows.pointPiecesUptoRow.laid w := Go.MakeChecks.laidMetH_plain _ _ _ (by kernel_rfl)
theorem c26 : Tryd.prog.cellsOf 26 = 1 := by kernel_rfl
theorem c5 : Tryd.prog.cellsOf 5 = 1 := by kernel_rfl

/-- What rows of bytes hold, that came in. -/
structure LsIn (W : World) (a : Option Addr) (n c N : Nat) (l : List (Rw Int)) : Prop where
  len : l.length = n
  bl : IsPart (rwCodec (cInt .u8)) W a n c l
  rw : ∀ r ∈ l, RwIn (cInt .u8) W r
  by' : ∀ r ∈ l, Bys r.l
  le : ∀ r ∈ l, r.l.length ≤ N
theorem lists_open {H : Type} {enc : TypeId × Value → H} {W : World} {base b0 : Nat} {r : Reach} {v : Value} {d : DataW H} {p : List MemPlace} (hv : Value.okWide Tryd.prog W r b0 48 v)
    (h : DataW.Trod enc Tryd.prog W base (fun _ => true) true 48 v d p) : ∃ (a : Option Addr) (n c : Nat) (R : List Raw), v = .slice a n c ∧ R.length = n ∧ IsPart cRaw W a n c R ∧ (∀ i, i < n → rr R i ≤ Rows.uptoBulk d) ∧
      ((∀ r ∈ R, 0 < r.2.1) → ∃ l, LsIn W a n c (Rows.uptoBulk d) l) := by
  obtain ⟨a, n, c, rfl⟩ := okWide_slice Tryd.underlying48 hv
  obtain ⟨fuel, hf⟩ := h
  have hf : DataW.trod enc Tryd.prog W base (fun _ => true) true fuel 48 [.slice a n c] = some (d, p) := by simpa [Value.cells] using hf
  obtain ⟨R, r1, r2, r3⟩ := rws_open (b0 := 0) Tryd.underlying48 Tryd.underlying26 Tryd.underlying5 c26 c5 (fun x hx => by subst hx; exact okWide_at Tryd.underlying48 hv) hf
  have hle := rows_le Tryd.underlying48 Tryd.underlying26 Tryd.underlying5 c26 c5 hf r1 r2
  refine ⟨a, n, c, R, rfl, r1, r2, hle, fun hpos => ?_⟩
  obtain ⟨zs, z1, z2, z3, z4⟩ := r3 hpos
  refine ⟨zs, z1, z3, fun r hr => (z4 r hr).1, fun r hr x hx => ?_, fun r hr => ?_⟩
  · have := (z4 r hr).2 x hx
    simp [Lit.wf, IntKind.min, IntKind.max, IntKind.signed, IntKind.bits] at this
    omega
  · obtain ⟨i, hi, rfl⟩ := List.getElem_of_mem hr
    have h2 := z2 i (by omega)
    have h3 := hle i (by omega)
    rw [List.getD_eq_getElem?_getD, List.getElem?_eq_getElem hi, Option.getD_some] at h2
    omega
theorem mem_ok [Gl] {w : World} {a : Option Addr} {n c : Nat} {l : List Int} {t : Nat} {a' : Option Addr} {n' c' : Nat} {l' : List (C0 t).α} (b1 : IsPart (C0 5) w a n c l) (b2 : IsPart (C0 t) w a' n' c' l')
    (hr : ∀ r ∈ l', (C0 t).good w r ∧ ∀ b ∈ (C0 t).blks r, b < w.heap.size) (hlv : Gl.lv = 19) (hG : ∀ g, g < 19 → w.cell? ⟨g, 0, none⟩ = some (.iface 195 (.pointer (some (Gl.A g)))) ∧ w.heap[(Gl.A g).block]? = some (.cells (Gl.c g) (Gl.t g) (0, 0))) :
    MemOK (C := C0) (wrS (C := C0) [inCk 5 a l, inCk t a' l']) w w [inCk 5 a l, inCk t a' l'] := by
  refine memRo rfl (fun x hx ho => ?_) (fun x hx ho => ?_) (more_of (n := 19) (by decide) (by rw [hlv]; exact Nat.le_refl 19) hG rfl fun x hx t' L he r hx2 => ?_)
  · simp only [List.mem_cons, List.not_mem_nil, or_false] at hx
    rcases hx with rfl | rfl
    · exact b1.ok _ ho
    · exact b2.ok _ ho
  · simp only [List.mem_cons, List.not_mem_nil, or_false] at hx
    rcases hx with rfl | rfl
    · exact b1.lt ho
    · exact b2.lt ho
  · simp only [List.mem_cons, List.not_mem_nil, or_false] at hx
    rcases hx with rfl | rfl
    · cases he
      exact ⟨trivial, fun b hb => by cases hb⟩
    · cases he
      exact hr r hx2
theorem vals [Gl] {w : World} {a : Option Addr} {n c : Nat} {l : List Int} {t : Nat} {a' : Option Addr} {n' c' : Nat} {l' : List (C0 t).α} (b1 : IsPart (C0 5) w a n c l) (b2 : IsPart (C0 t) w a' n' c' l') (s num : Int) :
    SV.vas (ads (C := C0) [inCk 5 a l, inCk t a' l']) [.sl 0 0 n c, .int .i64 s, .int .i64 num, .sl 1 0 n' c'] = [.slice a n c, .int .i64 s, .int .i64 num, .slice a' n' c'] := by
  have e1 : SV.va (ads (C := C0) [inCk 5 a l, inCk t a' l']) (.sl 0 0 n c) = .slice a n c := b1.va rfl
  have e2 : SV.va (ads (C := C0) [inCk 5 a l, inCk t a' l']) (.sl 1 0 n' c') = .slice a' n' c' := b2.va rfl
  rw [← e1, ← e2]
  rfl
theorem zero_of {R : List Raw} {n : Nat} (hn : R.length = n) (h : ¬ ∀ r ∈ R, 0 < r.2.1) : ∃ v, v < n ∧ rr R v = 0 := by
  refine Classical.byContradiction fun hc => h fun r hr => ?_
  obtain ⟨i, hi, rfl⟩ := List.getElem_of_mem hr
  refine Nat.pos_of_ne_zero fun h0 => hc ⟨i, by omega, ?_⟩
  show (R.getD i (none, 0, 0)).2.1 = 0
  rw [List.getD_eq_getElem?_getD, List.getElem?_eq_getElem hi, Option.getD_some]
  exact h0
theorem walk0 [Gl0] (a : Option Addr) (n c : Nat) (l : List Int) (s num : Int) (a' : Option Addr) (n' c' : Nat) (R : List Raw) (N : Nat) (hN : N ≤ 2000000) (w : World) (hl : IsRows (cInt .u8) w a n c l) (hb : Bys l) (hR : R.length = n') (hraw : IsPart cRaw w a' n' c' R) (hle : ∀ i, i < n' → rr R i ≤ N)
    (hp : (∀ r ∈ R, 0 < r.2.1) → ∃ l', LsIn w a' n' c' N l') (hA : Apart)
    (hG : ∀ g, g < 19 → w.cell? ⟨g, 0, none⟩ = some (.iface 195 (.pointer (some (Gl.A g)))) ∧ w.heap[(Gl.A g).block]? = some (.cells (Gl.c g) (Gl.t g) (0, 0))) :
    Calls Tryd.prog 4 #[.slice a n c, .int .i64 s, .int .i64 num, .slice a' n' c'] w fun e w' => e = .returned (.bool true) ∧ Below w.heap.size w w' := by
  have b1 : IsPart (C0 5) w a n c l := hl.part
  by_cases g : ∀ r ∈ R, 0 < r.2.1
  · obtain ⟨l', hp⟩ := hp g
    have b2 : IsPart (C0 26) w a' n' c' l' := hp.bl
    have hm := mem_ok (t := 26) b1 b2 (fun r hr => ⟨(hp.rw r hr).good, (hp.rw r hr).lt⟩) rfl hG
    have := (pieces4_ok hA a.isSome (inB a) (inQ a) l n c s num a'.isSome (inB a') (inQ a') l' n' c' b1.sq (hb.take n) b2.sq.2.1 b2.sq.2.2
      (fun r hr => ⟨⟨(hp.rw r (List.mem_of_mem_take hr)).nil, (hp.rw r (List.mem_of_mem_take hr)).cap, by have := hp.le r (List.mem_of_mem_take hr); omega⟩, hp.by' r (List.mem_of_mem_take hr)⟩)
      (fun r hr => Nat.le_trans (hp.le r (List.mem_of_mem_take hr)) hN)).calls Tryd.func4 rfl name4 rfl hm
    rw [← vals (t := 26) b1 b2 s num]
    exact this
  · have b2 : IsPart (C0 1071) w a' n' c' R := hraw
    have hm := mem_ok (t := 1071) b1 b2 (fun r hr => ⟨trivial, fun b hb => by cases hb⟩) rfl hG
    have := (pieces4O_ok hA a.isSome (inB a) (inQ a) l n c s num a'.isSome (inB a') (inQ a') R n' c' b1.sq (hb.take n) b2.sq.2.1 b2.sq.2.2 (zero_of hR g)
      (fun v hv => Nat.le_trans (hle v hv) hN)).calls Tryd.func4 rfl name4 rfl hm
    rw [← vals (t := 1071) b1 b2 s num]
    exact this
theorem walk (a : Option Addr) (n c : Nat) (l : List Int) (s num : Int) (a' : Option Addr) (n' c' : Nat) (R : List Raw) (N : Nat) (hN : N ≤ 2000000) (w : World) (hl : IsRows (cInt .u8) w a n c l) (hb : Bys l) (hR : R.length = n') (hraw : IsPart cRaw w a' n' c' R) (hle : ∀ i, i < n' → rr R i ≤ N)
    (hp : (∀ r ∈ R, 0 < r.2.1) → ∃ l', LsIn w a' n' c' N l') (hL : laidMetH Tryd.prog Rows.pointPiecesUptoRow.laid w) :
    Calls Tryd.prog 4 #[.slice a n c, .int .i64 s, .int .i64 num, .slice a' n' c'] w fun e w' => e = .returned (.bool true) ∧ Below w.heap.size w w' := by
  rw [laid_plain] at hL
  obtain ⟨G, hlv, hA, hG⟩ := gl_of pos19 pos19_ok laid_sent hL
  exact @walk0 ⟨@Gl.A G, @Gl.c G, @Gl.t G⟩ a n c l s num a' n' c' R N hN w hl hb hR hraw hle hp hA hG

theorem door_met (os : Os) (args : Array Value) : laidMetH Tryd.prog Rows.pointPiecesUptoRow.laid ((World.doorLaid Tryd.prog 400 os).forCall (fun _ _ => 0) ⟨#[], args, []⟩).memory :=
  laidMetH_of_parts3 (fuel := 8) (laidMet_of_run' 8 (by kernel_rfl) (by kernel_rfl)) (by kernel_rfl) (by kernel_rfl)
theorem reads (os : Os) {H : Type} (enc : TypeId × Value → H) : ∃ places, DataW.whole enc Tryd.prog ((World.doorLaid Tryd.prog 400 os).forCall (fun _ _ => 0) ⟨#[], #[.slice none 0 0, .int .i64 0, .int .i64 0, .slice none 0 0], []⟩).memory Tryd.f4.params.toList Rows.pointPiecesSpec.vars false #[Value.slice none 0 0, .int .i64 0, .int .i64 0, .slice none 0 0].toList 8 = some ([.nil, .lit (.int .i64 0), .lit (.int .i64 0), .nil], [], places) :=
  ⟨[], by kernel_rfl⟩

theorem liftedUpto (os : Os) (started : os.Started) (H : Type) (enc : TypeId × Value → H) (F : Stop.Interp) :
    ReturnsInHanded {} Tryd.checked os 4 .any ((Rows.OpenSpec.upto Rows.pointPiecesSpec).preRow enc Tryd.prog Tryd.f4 Rows.pointPiecesUptoRow.domain false Rows.pointPiecesUptoRow.laid) (((Rows.OpenSpec.upto Rows.pointPiecesSpec).at F).post enc Tryd.prog Tryd.f4 false true false false) := by
  obtain ⟨places, hx⟩ := reads os enc
  refine returnsInHanded_of_row (C := Tryd.checked) (s := Rows.OpenSpec.upto Rows.pointPiecesSpec) own started (by kernel_rfl) Tryd.func4
    (witness_row_atRef (enc := enc) (C := Tryd.checked) false (World.doorLaid Tryd.prog 400 os) #[.slice none 0 0, .int .i64 0, .int .i64 0, .slice none 0 0] rfl (by kernel_rfl) (by kernel_rfl) (by kernel_rfl)
      (OpenSpec.preRow_of_cond 8 hx (by kernel_rfl) (fun k hk => by cases hk; kernel_rfl) (by kernel_rfl) (door_met os _))) ?_
  intro W base args ds gs before hval0 hW _ hcond _ hX _ _
  have hval : ∀ (j : Nat) t v, Tryd.f4.params[j]? = some t → args[j]? = some v → Value.okWide Tryd.prog W .any base t v := hval0
  have hcd := hcond _ rfl
  have hW' := hW
  obtain ⟨p, q, hA0, hV, rfl, hfz, hnd⟩ := hW
  have hA : DataW.TrodAll enc Tryd.prog W 0 (fun _ => true) true Tryd.f4.params.toList args.toList ds p := hA0
  rw [Tryd.params4] at hA hval
  obtain ⟨v0, vs0, d0, ds0, p0, q0, hargs, rfl, rfl, h0, r0⟩ := trodAll_cons hA
  obtain ⟨v1, vs1, d1, ds1, p1, q1, rfl, rfl, rfl, h1, r1⟩ := trodAll_cons r0
  obtain ⟨v2, vs2, d2, ds2, p2, q2, rfl, rfl, rfl, h2, r2⟩ := trodAll_cons r1
  obtain ⟨v3, vs3, d3, ds3, p3, q3, rfl, rfl, rfl, h3, r3⟩ := trodAll_cons r2
  obtain ⟨rfl, rfl, rfl⟩ := trodAll_nil r3
  obtain rfl : args = #[v0, v1, v2, v3] := by cases args; simp_all
  obtain ⟨rfl, rfl⟩ := trodVars_none hV
  have k0 := h0
  have k3 := h3
  have lt0 : ∀ x ∈ p0, x.block < W.heap.size := by obtain ⟨m, hm⟩ := k0; exact DataW.trod_lt m _ _ _ hm
  have lt3 : ∀ x ∈ p3, x.block < W.heap.size := by obtain ⟨m, hm⟩ := k3; exact DataW.trod_lt m _ _ _ hm
  obtain ⟨a, n, c, l, rfl, q1, q2⟩ := bytes_open (hval 0 26 v0 rfl rfl) h0
  obtain ⟨s, rfl, rfl, rfl, wf1⟩ := open_int Tryd.underlying3 (hval 1 3 v1 rfl rfl) h1
  obtain ⟨num, rfl, rfl, rfl, wf2⟩ := open_int Tryd.underlying3 (hval 2 3 v2 rfl rfl) h2
  obtain ⟨a', n', c', R, rfl, s1, s2, s3, s4⟩ := lists_open (hval 3 48 v3 rfl rfl) h3
  have hN : Rows.uptoBulk d3 ≤ 2000000 := by
    have h : Rows.uptoBulkAll ([d0, .lit (.int .i64 s), .lit (.int .i64 num), d3] ++ []) ≤ 1048576 := of_decide_eq_true hcd
    have := bulk_mem (d := d3) (l := [d0, .lit (.int .i64 s), .lit (.int .i64 num), d3] ++ []) (by simp)
    omega
  clear hA0 hval0
  refine (walk a n c l s num a' n' c' R _ hN W q1 q2 s1 s2 s3 s4 hX).mono fun e W' ⟨he, bel⟩ => ?_
  subst he
  exact ⟨_, rfl, _, _, _, [], _, [], hW', trodAll_mk1 (shut_bool Tryd.underlying4 _), (trodAll_cons_mk (Below.trod laidOut (by kernel_rfl) (of_decide_eq_true (by kernel_rfl)) k0 bel lt0) (trodAll_cons_mk (shut_int Tryd.underlying3 wf1) (trodAll_cons_mk (shut_int Tryd.underlying3 wf2) (trodAll_cons_mk (Below.trod laidOut (by kernel_rfl) (of_decide_eq_true (by kernel_rfl)) k3 bel lt3) trodAll_mk0)))), rfl, bel.frame _, fun h => by cases h⟩

theorem saidUpto : Rows.PointPiecesUptoSaid :=
  OpenClaim.holds_of_cond 4 Tryd.f4 rfl rfl rfl rfl rfl rfl rfl ⟨rfl, rfl, rfl, rfl, rfl⟩ rfl rfl rfl rfl rfl (by kernel_rfl) Tryd.func4 (by kernel_rfl)
    (of_decide_eq_true (by kernel_rfl)) (by unfold Func.isWrapper; first | (rw [if_pos (by decide +kernel)]; kernel_rfl) | (rw [if_neg (by decide +kernel)]; exact ⟨rfl, rfl⟩))
    (fun os started H enc _ F => by rw [OpenClaim.pre_eq_preRow]; exact liftedUpto os started H enc F)

theorem card_holds : Rows.PointPiecesUptoCardSaid :=
  Claim7.holds_tied_plain_at .later [] _ _ _ _ saidUpto (fun _ h => by cases h) (by kernel_rfl) (fun _ h => by cases h) pointPiecesUpto_row_tie rfl ⟨rfl, rfl⟩ (by kernel_rfl) rfl
    (fun f fn hf hfn => by
      obtain rfl : f = 4 := Option.some.inj ((show Tryd.prog.funcNamed Rows.pointPiecesUptoRow.func = some 4 by kernel_rfl).symm.trans hf) |>.symm
      obtain rfl : fn = Tryd.f4 := (Option.some.inj (Tryd.func4.symm.trans hfn)).symm
      exact ⟨by kernel_rfl, fun j t ht => by
        rw [Tryd.params4] at ht
        have h3 : t = 26 ∨ t = 3 ∨ t = 48 := by
          rcases j with _ | _ | _ | _ | j
          · exact .inl (by simpa using ht.symm)
          · exact .inr (.inl (by simpa using ht.symm))
          · exact .inr (.inl (by simpa using ht.symm))
          · exact .inr (.inr (by simpa using ht.symm))
          · simp at ht
        rcases h3 with rfl | rfl | rfl
        · exact (show Tryd.prog.wantsStandIn 26 = false by kernel_rfl)
        · exact (show Tryd.prog.wantsStandIn 3 = false by kernel_rfl)
        · exact (show Tryd.prog.wantsStandIn 48 = false by kernel_rfl)⟩)
    (by kernel_rfl)
#print axioms card_holds
end Go.Proofs.YtmdnpfocihfkdaaDoor.pointPieces
