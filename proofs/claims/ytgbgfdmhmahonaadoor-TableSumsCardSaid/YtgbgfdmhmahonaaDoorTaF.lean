/-
  Round 20: slices.SortFunc's contracts.
  Conditions: none.
-/
import Derived.Test.YtgbgfdmhmahonaaDoorTaE
import Derived.Test.YtgbgfdmhmahonaaDoorVxAB
set_option linter.unusedSectionVars false
set_option maxRecDepth 100000
set_option linter.unusedVariables false
set_option linter.unusedSimpArgs false
namespace Go.Proofs
open Go.Shelf
def Tryd.sortSlots_ren : Go.Shelf.Ren := ⟨fun | 6 => 39 | 15 => 44 | 14 => 43 | 28 => 55 | 29 => 56 | 20 => 47 | 21 => 48 | 22 => 49 | 23 => 50 | 24 => 51 | 25 => 52 | 26 => 53 | 27 => 54 | 46 => 59 | 47 => 60 | 48 => 61 | 49 => 62 | 50 => 63 | 57 => 64 | n => n, fun | 22 => 59 | 24 => 53 | 25 => 81 | 3 => 3 | 39 => 94 | 0 => 0 | 53 => 108 | 55 => 110 | 4 => 4 | 46 => 102 | 45 => 101 | 50 => 36 | 5 => 5 | 9 => 9 | 66 => 114 | 70 => 118 | 76 => 120 | 77 => 121 | n => n, fun | n => n⟩
theorem Tryd.sortSlots : Go.Proofs.SlLaysF0.n6 Tryd.prog Tryd.sortSlots_ren := {
  mixed := by kernel_rfl
  f6 := ⟨Tryd.f39.name, by decide, Tryd.func39.trans (congrArg some (by kernel_rfl))⟩
  f14 := ⟨Tryd.f43.name, by decide, Tryd.func43.trans (congrArg some (by kernel_rfl))⟩
  f15 := Tryd.func44.trans (congrArg some (by kernel_rfl))
  f20 := ⟨Tryd.f47.name, by decide, Tryd.func47.trans (congrArg some (by kernel_rfl))⟩
  f21 := ⟨Tryd.f48.name, by decide, Tryd.func48.trans (congrArg some (by kernel_rfl))⟩
  f22 := ⟨Tryd.f49.name, by decide, Tryd.func49.trans (congrArg some (by kernel_rfl))⟩
  f23 := ⟨Tryd.f50.name, by decide, Tryd.func50.trans (congrArg some (by kernel_rfl))⟩
  f24 := ⟨Tryd.f51.name, by decide, Tryd.func51.trans (congrArg some (by kernel_rfl))⟩
  f25 := ⟨Tryd.f52.name, by decide, Tryd.func52.trans (congrArg some (by kernel_rfl))⟩
  f26 := ⟨Tryd.f53.name, by decide, Tryd.func53.trans (congrArg some (by kernel_rfl))⟩
  f27 := ⟨Tryd.f54.name, by decide, Tryd.func54.trans (congrArg some (by kernel_rfl))⟩
  f28 := Tryd.func55.trans (congrArg some (by kernel_rfl))
  f29 := Tryd.func56.trans (congrArg some (by kernel_rfl))
  f46 := ⟨Tryd.f59.name, by decide, Tryd.func59.trans (congrArg some (by kernel_rfl))⟩
  f47 := Tryd.func60.trans (congrArg some (by kernel_rfl))
  f48 := Tryd.func61.trans (congrArg some (by kernel_rfl))
  f49 := ⟨Tryd.f62.name, by decide, Tryd.func62.trans (congrArg some (by kernel_rfl))⟩
  f50 := ⟨Tryd.f63.name, by decide, Tryd.func63.trans (congrArg some (by kernel_rfl))⟩
  f57 := ⟨Tryd.f64.name, by decide, Tryd.func64.trans (congrArg some (by kernel_rfl))⟩
  t0 := Tryd.underlying0
  a0 := Tryd.isAgg0
  z0 := Tryd.sizeOf0
  v0 := Tryd.zeroValue0
  t3 := Tryd.underlying3
  a3 := Tryd.isAgg3
  z3 := Tryd.sizeOf3
  v3 := Tryd.zeroValue3
  t4 := Tryd.underlying4
  a4 := Tryd.isAgg4
  z4 := Tryd.sizeOf4
  v4 := Tryd.zeroValue4
  t5 := Tryd.underlying5
  a5 := Tryd.isAgg5
  z5 := Tryd.sizeOf5
  v5 := Tryd.zeroValue5
  t9 := Tryd.underlying9
  a9 := Tryd.isAgg9
  z9 := Tryd.sizeOf9
  v9 := Tryd.zeroValue9
  t22 := Tryd.underlying59
  a22 := Tryd.isAgg59
  z22 := Tryd.sizeOf59
  v22 := Tryd.zeroValue59
  t25 := Tryd.underlying81
  a25 := Tryd.isAgg81
  z25 := Tryd.sizeOf81
  v25 := Tryd.zeroValue81
  t39 := Tryd.underlying94
  a39 := Tryd.isAgg94
  z39 := Tryd.sizeOf94
  v39 := Tryd.zeroValue94
  t45 := Tryd.underlying101
  a45 := Tryd.isAgg101
  z45 := Tryd.sizeOf101
  v45 := Tryd.zeroValue101
  t46 := Tryd.underlying102
  a46 := Tryd.isAgg102
  z46 := Tryd.sizeOf102
  v46 := Tryd.zeroValue102
  t50 := Tryd.underlying36
  a50 := Tryd.isAgg36
  z50 := Tryd.sizeOf36
  v50 := Tryd.zeroValue36
  t53 := Tryd.underlying108
  a53 := Tryd.isAgg108
  z53 := Tryd.sizeOf108
  v53 := Tryd.zeroValue108
  t55 := Tryd.underlying110
  a55 := Tryd.isAgg110
  z55 := Tryd.sizeOf110
  v55 := Tryd.zeroValue110
  t66 := Tryd.underlying114
  a66 := Tryd.isAgg114
  z66 := Tryd.sizeOf114
  v66 := Tryd.zeroValue114
  t70 := Tryd.underlying118
  a70 := Tryd.isAgg118
  z70 := Tryd.sizeOf118
  v70 := Tryd.zeroValue118
  t76 := Tryd.underlying120
  a76 := Tryd.isAgg120
  z76 := Tryd.sizeOf120
  v76 := Tryd.zeroValue120
  t77 := Tryd.underlying121
  a77 := Tryd.isAgg121
  z77 := Tryd.sizeOf121
  v77 := Tryd.zeroValue121 }
end Go.Proofs
namespace Go.Vx
open Go Go.Proofs
section
open Go.Sort Go.Shelf
theorem wrap_in {n : Int} (h1 : -9223372036854775808 ≤ n) (h2 : n ≤ 9223372036854775807) : RowKit.wrap64 n = n := by
  unfold RowKit.wrap64
  omega
set_option maxHeartbeats 1000000 in
theorem cmpK (x y : Slot) (hx : Sm x) (hy : Sm y) (W : World) : Calls Tryd.prog 33 #[.agg #[.int .i64 x.key, .int .i64 x.pl.1, .int .i64 x.pl.2, .int .i64 x.me.kind, .int .i64 x.me.key, .int .i64 x.me.seq, .int .i64 x.me.stamp, .int .i64 x.me.batch, .int .i64 x.me.floor], .agg #[.int .i64 y.key, .int .i64 y.pl.1, .int .i64 y.pl.2, .int .i64 y.me.kind, .int .i64 y.me.key, .int .i64 y.me.seq, .int .i64 y.me.stamp, .int .i64 y.me.batch, .int .i64 y.me.floor]] W fun e w' => e = .returned (.int .i64 (cfKey x y)) ∧ ∃ q os', w' = grow (W.drewN q) os' := by
  obtain ⟨kx, ⟨bx, px⟩, mx⟩ := x
  obtain ⟨ky, ⟨by', py⟩, my⟩ := y
  go_enter Tryd.func33, Tryd.ntmps33
  go_wp2_with fail
  go_ret
  refine ⟨?_, 0, _, by rw [alloc_eq_grow, alloc_eq_grow, grow_grow]; rfl⟩
  have := hx.k0; have := hx.k1; have := hy.k0; have := hy.k1
  simp only at *
  show Ending.returned (.int .i64 (RowKit.wrap64 (kx - ky))) = _
  rw [wrap_in (by omega) (by omega)]
  rfl
set_option maxHeartbeats 1000000 in
theorem cmpP (x y : Slot) (hx : Sm x) (hy : Sm y) (W : World) : Calls Tryd.prog 31 #[.agg #[.int .i64 x.key, .int .i64 x.pl.1, .int .i64 x.pl.2, .int .i64 x.me.kind, .int .i64 x.me.key, .int .i64 x.me.seq, .int .i64 x.me.stamp, .int .i64 x.me.batch, .int .i64 x.me.floor], .agg #[.int .i64 y.key, .int .i64 y.pl.1, .int .i64 y.pl.2, .int .i64 y.me.kind, .int .i64 y.me.key, .int .i64 y.me.seq, .int .i64 y.me.stamp, .int .i64 y.me.batch, .int .i64 y.me.floor]] W fun e w' => e = .returned (.int .i64 (cfPage x y)) ∧ ∃ q os', w' = grow (W.drewN q) os' := by
  obtain ⟨kx, ⟨bx, px⟩, mx⟩ := x
  obtain ⟨ky, ⟨by', py⟩, my⟩ := y
  have h1 := hx.b0; have h2 := hx.b1; have h3 := hy.b0; have h4 := hy.b1
  have h5 := hx.p0; have h6 := hx.p1; have h7 := hy.p0; have h8 := hy.p1
  simp only at h1 h2 h3 h4 h5 h6 h7 h8
  go_enter Tryd.func31, Tryd.ntmps31
  go_wp2_with fail
  all_goals (
    go_ret
    refine ⟨?_, 0, _, by rw [alloc_eq_grow, alloc_eq_grow, grow_grow]; rfl⟩
    rename_i hc)
  · have hc : ¬ bx = by' := by simpa using hc
    first
      | (show Ending.returned (.int .i64 (bx - by')) = _; exact congrArg (fun n => Ending.returned (.int .i64 n)) (if_pos hc).symm)
      | (show Ending.returned (.int .i64 (RowKit.wrap64 (bx - by'))) = _; rw [wrap_in (by omega) (by omega)]; exact congrArg (fun n => Ending.returned (.int .i64 n)) (if_pos hc).symm)
  · have hc : bx = by' := by simpa using hc
    first
      | (show Ending.returned (.int .i64 (px - py)) = _; exact congrArg (fun n => Ending.returned (.int .i64 n)) (if_neg (fun h => h hc)).symm)
      | (show Ending.returned (.int .i64 (RowKit.wrap64 (px - py))) = _; rw [wrap_in (by omega) (by omega)]; exact congrArg (fun n => Ending.returned (.int .i64 n)) (if_neg (fun h => h hc)).symm)
end
variable [Gl]
abbrev leKey (a b : Slot) : Prop := a.key ≤ b.key
abbrev lePage (a b : Slot) : Prop := a.pl.1 < b.pl.1 ∨ (a.pl.1 = b.pl.1 ∧ a.pl.2 ≤ b.pl.2)
structure Srt (le : Slot → Slot → Prop) (l l' : List Slot) : Prop where
  perm : l'.Perm l
  ord : l'.Pairwise le
theorem sm0 : Sm slot0 := ⟨by decide, by decide, by decide, by decide, by decide, by decide⟩
theorem cells1 (x : Slot) : ∀ v ∈ encC (C0 53) x, v.oneCell' = true := by
  intro v hv
  have hv : v ∈ (slotE x).map (SV.va noAd) := hv
  simp only [slotE, List.map_cons, List.map_nil, List.mem_cons, List.not_mem_nil, or_false] at hv
  rcases hv with rfl | rfl | rfl | rfl | rfl | rfl | rfl | rfl | rfl <;> rfl
theorem swoK : Go.Sort.SWO (ltOf fun x y : Subtype Sm => cfKey x.1 y.1) where
  irrefl x := by simp [ltOf, cfKey]
  trans x y z h1 h2 := by
    have h1 : x.1.key - y.1.key < 0 := of_decide_eq_true h1
    have h2 : y.1.key - z.1.key < 0 := of_decide_eq_true h2
    exact decide_eq_true (show x.1.key - z.1.key < 0 by omega)
  ntrans x y z h1 h2 := by
    have h1 : ¬ x.1.key - y.1.key < 0 := of_decide_eq_false h1
    have h2 : ¬ y.1.key - z.1.key < 0 := of_decide_eq_false h2
    exact decide_eq_false (show ¬ x.1.key - z.1.key < 0 by omega)
theorem cfPage_lt {x y : Slot} : cfPage x y < 0 ↔ x.pl.1 < y.pl.1 ∨ (x.pl.1 = y.pl.1 ∧ x.pl.2 < y.pl.2) := by
  unfold cfPage
  split <;> omega
theorem swoP : Go.Sort.SWO (ltOf fun x y : Subtype Sm => cfPage x.1 y.1) where
  irrefl x := by simp only [ltOf, cfPage_lt, decide_eq_false_iff_not]; omega
  trans x y z h1 h2 := by simp only [ltOf, cfPage_lt, decide_eq_true_eq] at *; omega
  ntrans x y z h1 h2 := by simp only [ltOf, cfPage_lt, decide_eq_false_iff_not] at *; omega
theorem enters39 : ∀ args w, (callFunc 39 args).run Tryd.prog w = .ok (.enter 39 args) w := enters_of Tryd.func39 (by kernel_rfl) rfl
theorem enters33 : ∀ args w, (callFunc 33 args).run Tryd.prog w = .ok (.enter 33 args) w := enters_of Tryd.func33 (by kernel_rfl) rfl
theorem enters31 : ∀ args w, (callFunc 31 args).run Tryd.prog w = .ok (.enter 31 args) w := enters_of Tryd.func31 (by kernel_rfl) rfl
theorem sortK_ok (b q : Nat) (l : List Slot) (n c : Nat) (h : n ≤ l.length) (hs : ∀ s ∈ l.take n, Sm s) (hn : n < 1048576) :
    Does (C := C0) Tryd.prog (.fn 39) [⟨b, q, 9, true, none, .rows 53 l⟩] [.sl 0 0 n c, .fn (.func 33) [] []] [⟨List Slot, fun l' => Srt leKey (l.take n) l', fun _ => .tup [], fun l' => [⟨b, q, 9, true, none, .rows 53 (l' ++ l.drop n)⟩]⟩] := by
  have := sort_gen (C := C0) Tryd.sortSlots 53 Sm sm0 cfKey swoK 33 (by show 0 < 9; omega) Tryd.isAgg53 Tryd.sizeOf53 enters39 enters33 cells1 cmpK b q l n c h hs (by omega)
  intro w hm
  obtain ⟨f, vals, h1, h2⟩ := this w hm
  refine ⟨f, vals, h1, h2.mono ?_⟩
  rintro e w' ⟨r, m', g1, g2, g3, g4⟩
  refine ⟨r, m', g1, g2, g3, ?_⟩
  obtain ⟨A, hA, y, hy, hr⟩ := g4
  rw [List.mem_singleton] at hA
  subst hA
  refine Ends.one y ⟨hy.1, hy.2.imp fun {a b} hab => ?_⟩ hr
  show a.key ≤ b.key
  unfold cfKey at hab
  omega
theorem sortP_ok (b q : Nat) (l : List Slot) (n c : Nat) (h : n ≤ l.length) (hs : ∀ s ∈ l.take n, Sm s) (hn : n < 1048576) :
    Does (C := C0) Tryd.prog (.fn 39) [⟨b, q, 9, true, none, .rows 53 l⟩] [.sl 0 0 n c, .fn (.func 31) [] []] [⟨List Slot, fun l' => Srt lePage (l.take n) l', fun _ => .tup [], fun l' => [⟨b, q, 9, true, none, .rows 53 (l' ++ l.drop n)⟩]⟩] := by
  have := sort_gen (C := C0) Tryd.sortSlots 53 Sm sm0 cfPage swoP 31 (by show 0 < 9; omega) Tryd.isAgg53 Tryd.sizeOf53 enters39 enters31 cells1 cmpP b q l n c h hs (by omega)
  intro w hm
  obtain ⟨f, vals, h1, h2⟩ := this w hm
  refine ⟨f, vals, h1, h2.mono ?_⟩
  rintro e w' ⟨r, m', g1, g2, g3, g4⟩
  refine ⟨r, m', g1, g2, g3, ?_⟩
  obtain ⟨A, hA, y, hy, hr⟩ := g4
  rw [List.mem_singleton] at hA
  subst hA
  refine Ends.one y ⟨hy.1, hy.2.imp fun {a b} hab => ?_⟩ hr
  rw [cfPage_lt] at hab
  show a.pl.1 < b.pl.1 ∨ (a.pl.1 = b.pl.1 ∧ a.pl.2 ≤ b.pl.2)
  omega
theorem sortN_ok (g : Nat) : Does (C := C0) Tryd.prog (.fn 39) [] [.nils, .fn (.func g) [] []] [⟨Unit, fun _ => True, fun _ => .tup [], fun _ => []⟩] := sort_nil Tryd.sortSlots enters39 g
noncomputable def fcSortK : Fc Tryd.prog C0 where
  tg := .fn 39
  X := Nat × Nat × List Slot × Nat × Nat
  args := fun (b, q, l, n, c) => [.sl 0 0 n c, .fn (.func 33) [] []]
  mem := fun (b, q, l, n, c) => [⟨b, q, 9, true, none, .rows 53 l⟩]
  pre := fun (b, q, l, n, c) => n ≤ l.length ∧ (∀ s ∈ l.take n, Sm s) ∧ n < 1048576
  alts := fun (b, q, l, n, c) => [⟨List Slot, fun l' => Srt leKey (l.take n) l', fun _ => .tup [], fun l' => [⟨b, q, 9, true, none, .rows 53 (l' ++ l.drop n)⟩]⟩]
  mat vs m := match vs with
    | [.sl r 0 n c, .fn (.func 33) [] []] => match nth m r with
      | ⟨b, q, _, _, _, .rows 53 l⟩ => some ((b, q, l, n, c), [r])
      | _ => none
    | _ => none
  ok := fun (b, q, l, n, c) h => sortK_ok b q l n c h.1 h.2.1 h.2.2
noncomputable def fcSortP : Fc Tryd.prog C0 where
  tg := .fn 39
  X := Nat × Nat × List Slot × Nat × Nat
  args := fun (b, q, l, n, c) => [.sl 0 0 n c, .fn (.func 31) [] []]
  mem := fun (b, q, l, n, c) => [⟨b, q, 9, true, none, .rows 53 l⟩]
  pre := fun (b, q, l, n, c) => n ≤ l.length ∧ (∀ s ∈ l.take n, Sm s) ∧ n < 1048576
  alts := fun (b, q, l, n, c) => [⟨List Slot, fun l' => Srt lePage (l.take n) l', fun _ => .tup [], fun l' => [⟨b, q, 9, true, none, .rows 53 (l' ++ l.drop n)⟩]⟩]
  mat vs m := match vs with
    | [.sl r 0 n c, .fn (.func 31) [] []] => match nth m r with
      | ⟨b, q, _, _, _, .rows 53 l⟩ => some ((b, q, l, n, c), [r])
      | _ => none
    | _ => none
  ok := fun (b, q, l, n, c) h => sortP_ok b q l n c h.1 h.2.1 h.2.2
noncomputable def fcSortN : Fc Tryd.prog C0 where
  tg := .fn 39
  X := Nat
  args g := [.nils, .fn (.func g) [] []]
  mem _ := []
  pre _ := True
  alts _ := [⟨Unit, fun _ => True, fun _ => .tup [], fun _ => []⟩]
  mat vs m := match vs with
    | [.nils, .fn (.func g) [] []] => some (g, [])
    | _ => none
  ok g _ := sortN_ok g
end Go.Vx
