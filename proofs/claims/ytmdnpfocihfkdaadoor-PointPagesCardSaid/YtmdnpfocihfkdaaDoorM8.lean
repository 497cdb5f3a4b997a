/-
  Round 23: slices.Sort of numbers: the shelf's contract, laid here.
  Round 23: the keys of a map, rising.
  Round 23: what a scan says, plainly.
  Round 23: rows by their blocks; how many keys there may be: plain facts.
  Round 23: the order of the great regions (the print of tools/bigplan.py).
  Round 23: the order of the great regions (the print of tools/bigplan.py).
  Round 23: what is bad, and the numbers.
  Round 23: the pages of each key, plainly; the map in which they are gathered.
  Round 23: fresh blocks; how many pages there may be.
  Round 23: how many keys and slots there may be.
  Round 23: the winners.
  Round 23: which blocks are free, and which are dirty, plainly.
  Round 23: the rest: which blocks are free, and which are dirty.
  Round 23: the contracts of the chip's three ways.
  Round 23: the pages by their blocks, az they are gathered; which lists may be scanned.
  Conditions: none.
-/
import Derived.Test.YtmdnpfocihfkdaaDoorM4
import Derived.Test.YtmdnpfocihfkdaaDoorM7
import Derived.Shelf.SortM.SortNone
import Derived.Sort.EveryDepth
open Array renaming replicate → xw
open Bool renaming and_eq_true → zx, false_ne_true → xg
open Int renaming le_refl → ui
open List renaming append_nil → zk, filter_append → ze, filter_cons_of_neg → yj, filter_cons_of_pos → yw, filter_nil → yg, getD → yd, getD_eq_getElem?_getD → zz, getElem?_eq_getElem → zv, getElem?_eq_none → ya, getElem?_map → zh, getElem_map → ru, getElem_mem → xk, getElem_of_mem → td, length_append → zw, length_drop → zj, length_filter_le → xa, length_map → zt, length_take_le' → rj, map_append → yy, mem_filter → qn, range → vh, range_succ → vw, replicate → zq, take_of_length_le → zu
open Nat renaming le_refl → zy, le_trans → yz, lt_of_lt_of_le → za, lt_succ_self → wi, sub_lt_sub_left → vy, succ_mul → yk, zero_le → zn
set_option linter.unusedVariables false
set_option linter.unusedSimpArgs false
set_option linter.unusedSectionVars false
set_option maxRecDepth 100000
namespace Go.Proofs
open Go.Shelf
def Tryd.sortInts_ren : Go.Shelf.Ren := ⟨fun | 5 => 95 | 7 => 106 | 8 => 107 | 10 => 112 | 11 => 113 | 12 => 114 | 13 => 115 | 14 => 116 | 15 => 117 | 16 => 118 | 17 => 119 | 18 => 120 | 19 => 121 | 20 => 122 | 30 => 123 | 31 => 124 | 32 => 125 | 33 => 126 | 34 => 127 | 35 => 93 | 40 => 128 | n => n, fun | 0 => 0 | 3 => 3 | 4 => 4 | 5 => 5 | 9 => 9 | 22 => 71 | 23 => 71 | 25 => 3 | 32 => 116 | 35 => 177 | 36 => 178 | 41 => 142 | 44 => 129 | 46 => 186 | 53 => 187 | 57 => 128 | 63 => 192 | 64 => 193 | n => n, fun | n => n⟩
theorem Tryd.sortInts : Go.Proofs.SlLaysM.n5 Tryd.prog Tryd.sortInts_ren := {
 mixed := by kernel_rfl
 f5 := ⟨Tryd.f95.name, by decide, Tryd.func95.trans (congrArg some (by kernel_rfl))⟩
 f7 := ⟨Tryd.f106.name, by decide, Tryd.func106.trans (congrArg some (by kernel_rfl))⟩
 f8 := Tryd.func107.trans (congrArg some (by kernel_rfl))
 f10 := ⟨Tryd.f112.name, by decide, Tryd.func112.trans (congrArg some (by kernel_rfl))⟩
 f11 := ⟨Tryd.f113.name, by decide, Tryd.func113.trans (congrArg some (by kernel_rfl))⟩
 f12 := ⟨Tryd.f114.name, by decide, Tryd.func114.trans (congrArg some (by kernel_rfl))⟩
 f13 := ⟨Tryd.f115.name, by decide, Tryd.func115.trans (congrArg some (by kernel_rfl))⟩
 f14 := ⟨Tryd.f116.name, by decide, Tryd.func116.trans (congrArg some (by kernel_rfl))⟩
 f15 := ⟨Tryd.f117.name, by decide, Tryd.func117.trans (congrArg some (by kernel_rfl))⟩
 f16 := ⟨Tryd.f118.name, by decide, Tryd.func118.trans (congrArg some (by kernel_rfl))⟩
 f17 := ⟨Tryd.f119.name, by decide, Tryd.func119.trans (congrArg some (by kernel_rfl))⟩
 f18 := ⟨Tryd.f120.name, by decide, Tryd.func120.trans (congrArg some (by kernel_rfl))⟩
 f19 := Tryd.func121.trans (congrArg some (by kernel_rfl))
 f20 := Tryd.func122.trans (congrArg some (by kernel_rfl))
 f30 := ⟨Tryd.f123.name, by decide, Tryd.func123.trans (congrArg some (by kernel_rfl))⟩
 f31 := Tryd.func124.trans (congrArg some (by kernel_rfl))
 f32 := Tryd.func125.trans (congrArg some (by kernel_rfl))
 f33 := ⟨Tryd.f126.name, by decide, Tryd.func126.trans (congrArg some (by kernel_rfl))⟩
 f34 := ⟨Tryd.f127.name, by decide, Tryd.func127.trans (congrArg some (by kernel_rfl))⟩
 f35 := ⟨Tryd.f93.name, by decide, Tryd.func93.trans (congrArg some (by kernel_rfl))⟩
 f40 := ⟨Tryd.f128.name, by decide, Tryd.func128.trans (congrArg some (by kernel_rfl))⟩
 t0 := Tryd.underlying0
 a0 := Tryd.isAgg0
 z0 := Tryd.sizeOf0
 v0 := Tryd.zeroValue0
 t3 := Tryd.underlying3
 a3 := Tryd.isAgg3
 z3 := Tryd.sizeOf3
 v3 := Tryd.zeroValue3
 t4 := Tryd.underlying4
 a4 := Tryd.isAgg4
 z4 := Tryd.sizeOf4
 v4 := Tryd.zeroValue4
 t5 := Tryd.underlying5
 a5 := Tryd.isAgg5
 z5 := Tryd.sizeOf5
 v5 := Tryd.zeroValue5
 t9 := Tryd.underlying9
 a9 := Tryd.isAgg9
 z9 := Tryd.sizeOf9
 v9 := Tryd.zeroValue9
 t22 := Tryd.underlying71
 a22 := Tryd.isAgg71
 z22 := Tryd.sizeOf71
 v22 := Tryd.zeroValue71
 t23 := Tryd.underlying71
 a23 := Tryd.isAgg71
 z23 := Tryd.sizeOf71
 v23 := Tryd.zeroValue71
 t25 := Tryd.underlying3
 a25 := Tryd.isAgg3
 z25 := Tryd.sizeOf3
 v25 := Tryd.zeroValue3
 t32 := Tryd.underlying116
 a32 := Tryd.isAgg116
 z32 := Tryd.sizeOf116
 v32 := Tryd.zeroValue116
 t35 := Tryd.underlying177
 a35 := Tryd.isAgg177
 z35 := Tryd.sizeOf177
 v35 := Tryd.zeroValue177
 t36 := Tryd.underlying178
 a36 := Tryd.isAgg178
 z36 := Tryd.sizeOf178
 v36 := Tryd.zeroValue178
 t41 := Tryd.underlying142
 a41 := Tryd.isAgg142
 z41 := Tryd.sizeOf142
 v41 := Tryd.zeroValue142
 t44 := Tryd.underlying129
 a44 := Tryd.isAgg129
 z44 := Tryd.sizeOf129
 v44 := Tryd.zeroValue129
 t46 := Tryd.underlying186
 a46 := Tryd.isAgg186
 z46 := Tryd.sizeOf186
 v46 := Tryd.zeroValue186
 t53 := Tryd.underlying187
 a53 := Tryd.isAgg187
 z53 := Tryd.sizeOf187
 v53 := Tryd.zeroValue187
 t57 := Tryd.underlying128
 a57 := Tryd.isAgg128
 z57 := Tryd.sizeOf128
 v57 := Tryd.zeroValue128
 t63 := Tryd.underlying192
 a63 := Tryd.isAgg192
 z63 := Tryd.sizeOf192
 v63 := Tryd.zeroValue192
 t64 := Tryd.underlying193
 a64 := Tryd.isAgg193
 z64 := Tryd.sizeOf193
 v64 := Tryd.zeroValue193
}
end Go.Proofs
namespace Go.Vx.Sc
open Go Go.Proofs Go.Shelf Go.Sort
variable [Gl]
@[irreducible] def srt (l : List Int) : List Int := l.mergeSort fun x y => decide (x ≤ y)
theorem srt_perm (l : List Int) : (srt l).Perm l := by unfold srt; exact List.mergeSort_perm _ _
theorem srt_len (l : List Int) : (srt l).length = l.length := (srt_perm l).length_eq
theorem srt_nil : srt [] = [] := by unfold srt; simp
theorem srt_le (l : List Int) : (srt l).Pairwise (· ≤ ·) := by
 unfold srt
 have := List.pairwise_mergeSort (le := fun x y : Int => decide (x ≤ y)) (fun a b c h1 h2 => by simp at *; omega) (fun a b => by simp; omega) l
 exact this.imp fun h => by simpa using h
theorem sortOn_ok (b q : Nat) (l : List Int) (n c : Nat) (hn : n ≤ l.length) (hbig : n < 4611686018427387904) :
 Does (C := C0) Tryd.prog (.fn 95) [⟨b, q, 1, true, some true, .rows 3 l⟩] [.sl 0 0 n c]
  [⟨Unit, fun _ => True, fun _ => .tup [], fun _ => [⟨b, q, 1, true, some true, .rows 3 (srt (l.take n) ++ l.drop n)⟩]⟩] := by
 intro w hm
 have hN : (l.take n).length = n := tk_len hn
 have hrow := hm.ok _ (List.mem_singleton.2 rfl) rfl
 simp only [Ck.ok] at hrow
 obtain ⟨_, hrow⟩ := hrow
 have hblk : b < w.heap.size := hm.lt _ (List.mem_singleton.2 rfl) rfl
 have hfr : ∀ a : Addr, a.block = b → w.frozen? a = false := hm.wrok _ (List.mem_singleton.2 rfl) rfl rfl
 have hcell : ∀ i, i < l.length → w.cell? ⟨b, q + i, none⟩ = some (.int .i64 (l.getD i 0)) := by
  intro i hi
  have := hrow i hi 0 Nat.zero_lt_one
  have e : (Ck.ad ({ block := b, base := q, sz := 1, wr := true, gl := some true, cells := .rows 3 l } : Ck C0)).at i 0 = ⟨b, q + i, none⟩ := by simp [Ck.ad, Ad.at]
  rw [e] at this
  rw [this]; rfl
 have hH : Go.Sort.Holds (Value.int .i64) w b q (l.take n).toArray := by
  intro j hj
  have hj : j < n := by rw [List.size_toArray, hN] at hj; exact hj
  refine ⟨?_, hfr _ rfl⟩
  rw [hcell j (by omega), getElem!_pos _ j (by simpa [hN] using hj)]
  simp [yd, zv (show j < l.length by omega)]
 have hcon : Calls Tryd.prog 95 #[.slice (some ⟨b, q, none⟩) n c] w fun e w' => e = .returned (.tuple #[]) ∧ ∃ k os, w' = grow (putRow (Value.int .i64) (Sort.ahead w k) b q ((l.take n).mergeSort fun x y => decide (x ≤ y)).toArray) os := by
  have h0 := calls_of_every_depth fun D => AnySM.slices_Sort_int_in (P := Tryd.prog) Tryd.sortInts D b q c (l.take n) w hH hblk (by rw [hN]; exact hbig)
  rw [hN] at h0
  exact h0
 have e0 : (SV.vas (ads ([⟨b, q, 1, true, some true, .rows 3 l⟩] : List (Ck C0))) [.sl 0 0 n c]).toArray = #[.slice (some ⟨b, q, none⟩) n c] := by
  simp [SV.vas, SV.va, ads, nth, Ck.ad, Ck.on, Ad.at]
 rw [e0]
 refine ⟨_, _, run_callFunc Tryd.func95 rfl (by kernel_rfl) _ w, hcon.mono ?_⟩
 rintro e w' ⟨rfl, k, os, rfl⟩
 have hs : ((l.take n).mergeSort fun x y => decide (x ≤ y)) = srt (l.take n) := by unfold srt; rfl
 rw [hs]
 have hL : (srt (l.take n)).length = n := by rw [srt_len, hN]
 have hsz0 : (putRow (Value.int .i64) (Sort.ahead w k) b q (srt (l.take n)).toArray).heap.size = w.heap.size := by rw [Go.Sort.size_putRow]; rfl
 have hHa : Go.Sort.Holds (Value.int .i64) (Sort.ahead w k) b q (l.take n).toArray := hH
 have hin : ∀ j, j < n → (grow (putRow (Value.int .i64) (Sort.ahead w k) b q (srt (l.take n)).toArray) os).cell? ⟨b, q + j, none⟩ = some (.int .i64 ((srt (l.take n)).getD j 0)) := by
  intro j hj
  rw [cell?_grow _ _ _ (by rw [hsz0]; exact hblk)]
  have h2 := holds_putRow (Value.int .i64) (Sort.ahead w k) b q (l.take n).toArray (srt (l.take n)).toArray hHa (by simp [hL, hN])
  rw [(h2 j (by simp [hL]; exact hj)).1, getElem!_pos _ j (by simp [hL]; exact hj)]
  simp [yd, zv (show j < (srt (l.take n)).length by omega)]
 have hother : ∀ a : Addr, a.block < w.heap.size → (a.block ≠ b ∨ a.off < q ∨ q + n ≤ a.off) → (grow (putRow (Value.int .i64) (Sort.ahead w k) b q (srt (l.take n)).toArray) os).cell? a = w.cell? a := by
  intro a ha hoff
  rw [cell?_grow _ _ _ (by rw [hsz0]; exact ha), cell?_putRow_other _ _ _ _ _ _ (by simpa [hL] using hoff)]
  rfl
 have hheap : ∀ j, j < w.heap.size → j ≠ b → (grow (putRow (Value.int .i64) (Sort.ahead w k) b q (srt (l.take n)).toArray) os).heap[j]? = w.heap[j]? := by
  intro j hj hjb
  rw [heap_grow_old _ _ (by rw [hsz0]; exact hj)]
  unfold putRow mapBlock
  simp only [Array.getElem?_modify]
  rw [if_neg (Ne.symm hjb)]
  rfl
 have hsize : w.heap.size ≤ (grow (putRow (Value.int .i64) (Sort.ahead w k) b q (srt (l.take n)).toArray) os).heap.size := by rw [size_grow, hsz0]; omega
 refine ⟨.tup [], [⟨b, q, 1, true, some true, .rows 3 (srt (l.take n) ++ l.drop n)⟩], by simp [SV.va, SV.vas], ?_, ?_, ?_⟩
 · refine ⟨rfl, ⟨rfl, Nat.le_add_right _ _⟩, rfl, hsize, ?_, ?_, ?_, ?_, ?_, ?_, ?_⟩
   · intro j hj hS
     refine hheap j hj fun hjb => hS ⟨_, List.mem_singleton.2 rfl, rfl, rfl, hjb.symm⟩
   · intro c' hc' _ _ _
     exact ⟨_, List.mem_singleton.2 rfl, rfl, rfl, by rw [List.mem_singleton.1 hc']⟩
   · intro c' hc' _
     rw [List.mem_singleton.1 hc']
     refine ⟨rfl, fun i hi f hf => ?_⟩
     have hf0 : f = 0 := by
      have : f < 1 := hf
      omega
     subst hf0
     have hlen : (srt (l.take n) ++ l.drop n).length = l.length := by rw [zw, hL, zj]; omega
     have e : (Ck.ad ({ block := b, base := q, sz := 1, wr := true, gl := some true, cells := .rows 3 (srt (l.take n) ++ l.drop n) } : Ck C0)).at i 0 = ⟨b, q + i, none⟩ := by simp [Ck.ad, Ad.at]
     rw [e]
     show _ = some (Value.int .i64 ((srt (l.take n) ++ l.drop n).getD i 0))
     by_cases hi' : i < n
     · rw [hin i hi']
       congr 2
       rw [zz, zz, List.getElem?_append_left (by omega)]
     · rw [hother _ hblk (.inr (.inr (by show q + n ≤ q + i; omega))), hcell i (by omega)]
       congr 2
       rw [zz, zz, List.getElem?_append_right (by omega), hL, List.getElem?_drop, show n + (i - n) = i by omega]
   · intro c' hc' _ _ a ha
     rw [List.mem_singleton.1 hc'] at ha
     rw [frozen?_grow _ _ _ (by rw [hsz0, ha]; exact hblk), frozen?_putRow]
     exact hfr a ha
   · intro i j hi hj hij
     simp at hi hj; omega
   · intro c' hc' _
     rw [List.mem_singleton.1 hc']
     exact za hblk hsize
   · refine hm.more.mono hm.inS ?_ ?_ (zy _) hsize ?_
     · intro j hj hno
       exact hheap j hj fun hjb => hno _ (List.mem_singleton.2 rfl) rfl rfl hjb.symm
     · intro c' hc' hl'
       rw [List.mem_singleton.1 hc']
       exact .inl ⟨_, List.mem_singleton.2 rfl, rfl, rfl, id⟩
     · intro c' hc'
       rw [List.mem_singleton.1 hc']
       exact CsIn.rows (RowsOf.flat rfl _)
 · refine ⟨zy _, ?_, ?_⟩
   · intro k hk
     have : k = 0 := by simp at hk; omega
     subst this
     exact ⟨rfl, rfl, rfl, rfl, rfl⟩
   · intro k h0 h2
     simp at h0 h2; omega
 · exact Ends.one () trivial ⟨rfl, rfl⟩
theorem sortOff_ok (b q : Nat) (l : List Int) : Does (C := C0) Tryd.prog (.fn 95) [⟨b, q, 1, true, some false, .rows 3 l⟩] [.sl 0 0 0 0]
 [⟨Unit, fun _ => True, fun _ => .tup [], fun _ => [⟨b, q, 1, true, some false, .rows 3 l⟩]⟩] := by
 intro w hm
 have hcon : Calls Tryd.prog 95 #[.slice none 0 0] w fun e w' => e = .returned (.tuple #[]) ∧ w' = w := calls_of_every_depth fun D => AnySM.slices_Sort_int_none_in (P := Tryd.prog) Tryd.sortInts D none 0 w
 have e0 : (SV.vas (ads ([⟨b, q, 1, true, some false, .rows 3 l⟩] : List (Ck C0))) [.sl 0 0 0 0]).toArray = #[.slice none 0 0] := by
  simp [SV.vas, SV.va, ads, nth, Ck.ad, Ck.on, Ad.at]
 rw [e0]
 refine ⟨_, _, run_callFunc Tryd.func95 rfl (by kernel_rfl) _ w, hcon.mono ?_⟩
 rintro e w' ⟨rfl, rfl⟩
 refine ⟨.tup [], _, by simp [SV.va, SV.vas], hm, ⟨zy _, fun k hk => ?_, fun k h0 h2 => ?_⟩, Ends.one () trivial ⟨rfl, rfl⟩⟩
 · exact ⟨rfl, rfl, rfl, rfl, rfl⟩
 · simp at h0 h2; omega
theorem sort_ok (o : Bool) (b q : Nat) (l : List Int) (n c : Nat) (hn : n ≤ l.length) (hbig : n < 4611686018427387904) (ho : o = false → n = 0 ∧ c = 0) :
 Does (C := C0) Tryd.prog (.fn 95) [⟨b, q, 1, true, some o, .rows 3 l⟩] [.sl 0 0 n c]
  [⟨Unit, fun _ => True, fun _ => .tup [], fun _ => [⟨b, q, 1, true, some o, .rows 3 (srt (l.take n) ++ l.drop n)⟩]⟩] := by
 cases o with
 | true => exact sortOn_ok b q l n c hn hbig
 | false =>
   obtain ⟨rfl, rfl⟩ := ho rfl
   have e : srt (l.take 0) ++ l.drop 0 = l := by rw [List.take_zero, srt_nil]; simp
   rw [e]
   exact sortOff_ok b q l
noncomputable def fcSort : Fc Tryd.prog C0 where
 tg := .fn 95
 X := Bool × Nat × Nat × List Int × Nat × Nat
 args := fun (o, b, q, l, n, c) => [.sl 0 0 n c]
 mem := fun (o, b, q, l, n, c) => [⟨b, q, 1, true, some o, .rows 3 l⟩]
 pre := fun (o, b, q, l, n, c) => n ≤ l.length ∧ n < 4611686018427387904 ∧ (o = false → n = 0 ∧ c = 0)
 alts := fun (o, b, q, l, n, c) => [⟨Unit, fun _ => True, fun _ => .tup [], fun _ => [⟨b, q, 1, true, some o, .rows 3 (srt (l.take n) ++ l.drop n)⟩]⟩]
 mat vs m := match vs with
  | [.sl a 0 n c] => match nth m a with
    | ⟨b, q, _, _, g, .rows 3 l⟩ => some ((onOf g, b, q, l, n, c), [a])
    | _ => none
  | _ => none
 ok := fun (o, b, q, l, n, c) h => sort_ok o b q l n c h.1 h.2.1 h.2.2
end Go.Vx.Sc
namespace Go.Vx.Sc
open Go Go.Proofs
variable [Gl]
theorem rise_srt {A : List Int} (h : A.Nodup) : Rise (srt A) := by
 have h1 := srt_le A
 have h2 : (srt A).Nodup := (srt_perm A).nodup_iff.2 h
 rw [List.Nodup] at h2
 exact (h1.and h2).imp fun ⟨a, b⟩ => by omega
theorem Gth.sorted {A : List Int} {o : Bool} {b q : Nat} {l : List Int} {n c : Nat} (h : Gth A (o, b, q, l, n, c)) : Gth (srt A) (o, b, q, srt (l.take n) ++ l.drop n, n, c) := by
 obtain ⟨e1, e2, e3, e4, e5⟩ := h
 have e1 : l.take n = A := e1
 have e2 : A.length = n := e2
 have e4 : c ≤ l.length := e4
 have e3 : n ≤ c := e3
 refine ⟨?_, by rw [srt_len]; exact e2, e3, ?_, e5⟩
 · show (srt (l.take n) ++ l.drop n).take n = srt A
   rw [e1, List.take_append_of_le_length (by rw [srt_len]; omega), zu (by rw [srt_len]; omega)]
 · show c ≤ (srt (l.take n) ++ l.drop n).length
   rw [zw, srt_len, e1, zj]; omega
def SdB (S : List Int) (y : Sq Int) : Prop := ∃ A, Rise A ∧ (∀ k, k ∈ A ↔ k ∈ S) ∧ Gth A y
theorem SdB.of {M : MpB} {clk : Nat} {S : List Int} (h : MKeys (d := C0 4) M clk S) {o : Bool} {b q : Nat} {l : List Int} {n c : Nat} (hy : KsB M (o, b, q, l, n, c)) : SdB S (o, b, q, srt (l.take n) ++ l.drop n, n, c) := by
 obtain ⟨A, hp, hG⟩ := hy
 refine ⟨srt A, rise_srt (hp.nodup_iff.2 h.nd), fun k => ?_, hG.sorted⟩
 rw [(srt_perm A).mem_iff, hp.mem_iff]
 exact h.mem k
set_option maxHeartbeats 4000000 in
theorem sortedB_ok (bx qx bm : Nat) (M : MpB) (clk : Nat) (h : MKeys (d := C0 4) M clk (M.map fun e => e.1)) (hl : M.length < 1000000000) :
 Does (C := C0) Tryd.prog (.fn 71) (mpB bx qx bm M clk) [.fn (.func 96) [] [.ptr 0 0 0]]
  [⟨Sq Int, fun y => SdB (M.map fun e => e.1) y, fun y => .sl 2 0 y.2.2.2.2.1 y.2.2.2.2.2, fun y => moB bx qx bm M clk y⟩] := by
 refine loc_fn (P := Tryd.prog) (E := ⟨[fcCollB, fcSort], [], 9, [], [], []⟩) (L := []) mix Tryd.func71 rfl (by kernel_rfl) (by kernel_rfl) rfl rfl ?_
 ((conv => arg 1; reduce); with_reducible repeat' first | exact ty | refine ta ?_ ?_ | refine ti fun _ => ?_ | refine tf fun _ => ?_ | refine tl ?_)
 all_goals try exact vlk
 · exact ⟨h.born, hl⟩
 · rename_i y hy
   obtain ⟨o, b, q, l, n, c⟩ := y
   obtain ⟨A, hp, e1, e2, e3, e4, e5⟩ := hy
   have e2 : A.length = n := e2
   have e3 : n ≤ c := e3
   have e4 : c ≤ l.length := e4
   have hA : A.length = M.length := by rw [hp.length_eq, zt]
   exact ⟨by show n ≤ l.length; omega, by show n < 4611686018427387904; omega, e5⟩
 · rename_i y hy u hu
   obtain ⟨o, b, q, l, n, c⟩ := y
   refine Ends.one ((o, b, q, srt (l.take n) ++ l.drop n, n, c) : Sq Int) (SdB.of h hy) ?_
   exact vgk
noncomputable def fcSortedB : Fc Tryd.prog C0 where
 tg := .fn 71
 X := Nat × Nat × Nat × MpB × Nat
 args := fun (bx, qx, bm, M, clk) => [.fn (.func 96) [] [.ptr 0 0 0]]
 mem := fun (bx, qx, bm, M, clk) => mpB bx qx bm M clk
 pre := fun (bx, qx, bm, M, clk) => MKeys (d := C0 4) M clk (M.map fun e => e.1) ∧ M.length < 1000000000
 alts := fun (bx, qx, bm, M, clk) => [⟨Sq Int, fun y => SdB (M.map fun e => e.1) y, fun y => .sl 2 0 y.2.2.2.2.1 y.2.2.2.2.2, fun y => moB bx qx bm M clk y⟩]
 mat vs m := match vs with
  | [.fn (.func 96) _ [.ptr p _ _]] => match nth m p with
    | ⟨bx, qx, _, _, _, .one [.mp w]⟩ => match nth m w with
      | ⟨bm, _, _, _, _, .mp 3 4 M clk⟩ => some ((bx, qx, bm, M, clk), [p, w])
      | _ => none
    | _ => none
  | _ => none
 ok := fun (bx, qx, bm, M, clk) h => sortedB_ok bx qx bm M clk h.1 h.2
theorem keysB_ok (bm : Nat) (M : MpB) (clk : Nat) : Does (C := C0) Tryd.prog (.fn 72) [⟨bm, 0, 0, false, none, .mp 3 4 M clk⟩] [.mp 0]
 [⟨Nat × Nat, fun _ => True, fun _ => .fn (.func 96) [] [.ptr 1 0 0], fun y => [⟨bm, 0, 0, false, none, .mp 3 4 M clk⟩, ⟨y.1, y.2, 1, true, none, .one [.mp 0]⟩]⟩] := by
 refine loc_fn (P := Tryd.prog) (E := ⟨[], [], 4, [], [], []⟩) (L := []) mix Tryd.func72 rfl (by kernel_rfl) (by kernel_rfl) rfl rfl ?_
 ((conv => arg 1; reduce); with_reducible repeat' first | exact ty | refine ta ?_ ?_ | refine ti fun _ => ?_ | refine tf fun _ => ?_ | refine tl ?_)
 all_goals try exact vlk
 rename_i b1
 refine Ends.one ((b1, 0) : Nat × Nat) trivial ?_
 exact vgk
noncomputable def fcKeysB : Fc Tryd.prog C0 where
 tg := .fn 72
 X := Nat × MpB × Nat
 args := fun (bm, M, clk) => [.mp 0]
 mem := fun (bm, M, clk) => [⟨bm, 0, 0, false, none, .mp 3 4 M clk⟩]
 pre _ := True
 alts := fun (bm, M, clk) => [⟨Nat × Nat, fun _ => True, fun _ => .fn (.func 96) [] [.ptr 1 0 0], fun y => [⟨bm, 0, 0, false, none, .mp 3 4 M clk⟩, ⟨y.1, y.2, 1, true, none, .one [.mp 0]⟩]⟩]
 mat vs m := match vs with
  | [.mp w] => match nth m w with
    | ⟨bm, _, _, _, _, .mp 3 4 M clk⟩ => some ((bm, M, clk), [w])
    | _ => none
  | _ => none
 ok := fun (bm, M, clk) _ => keysB_ok bm M clk
def SdG (S : List Int) (y : Sq Int) : Prop := ∃ A, Rise A ∧ (∀ k, k ∈ A ↔ k ∈ S) ∧ Gth A y
theorem SdG.of {M : MpG} {clk : Nat} {S : List Int} (h : MKeys (d := C0 63) M clk S) {o : Bool} {b q : Nat} {l : List Int} {n c : Nat} (hy : KsG M (o, b, q, l, n, c)) : SdG S (o, b, q, srt (l.take n) ++ l.drop n, n, c) := by
 obtain ⟨A, hp, hG⟩ := hy
 refine ⟨srt A, rise_srt (hp.nodup_iff.2 h.nd), fun k => ?_, hG.sorted⟩
 rw [(srt_perm A).mem_iff, hp.mem_iff]
 exact h.mem k
set_option maxHeartbeats 4000000 in
theorem sortedG_ok (bx qx bm : Nat) (M : MpG) (clk : Nat) (h : MKeys (d := C0 63) M clk (M.map fun e => e.1)) (hl : M.length < 1000000000) :
 Does (C := C0) Tryd.prog (.fn 71) (mpG bx qx bm M clk) [.fn (.func 97) [] [.ptr 0 0 0]]
  [⟨Sq Int, fun y => SdG (M.map fun e => e.1) y, fun y => .sl 2 0 y.2.2.2.2.1 y.2.2.2.2.2, fun y => moG bx qx bm M clk y⟩] := by
 refine loc_fn (P := Tryd.prog) (E := ⟨[fcCollG, fcSort], [], 9, [], [], []⟩) (L := []) mix Tryd.func71 rfl (by kernel_rfl) (by kernel_rfl) rfl rfl ?_
 ((conv => arg 1; reduce); with_reducible repeat' first | exact ty | refine ta ?_ ?_ | refine ti fun _ => ?_ | refine tf fun _ => ?_ | refine tl ?_)
 all_goals try exact vlk
 · exact ⟨h.born, hl⟩
 · rename_i y hy
   obtain ⟨o, b, q, l, n, c⟩ := y
   obtain ⟨A, hp, e1, e2, e3, e4, e5⟩ := hy
   have e2 : A.length = n := e2
   have e3 : n ≤ c := e3
   have e4 : c ≤ l.length := e4
   have hA : A.length = M.length := by rw [hp.length_eq, zt]
   exact ⟨by show n ≤ l.length; omega, by show n < 4611686018427387904; omega, e5⟩
 · rename_i y hy u hu
   obtain ⟨o, b, q, l, n, c⟩ := y
   refine Ends.one ((o, b, q, srt (l.take n) ++ l.drop n, n, c) : Sq Int) (SdG.of h hy) ?_
   exact vgk
noncomputable def fcSortedG : Fc Tryd.prog C0 where
 tg := .fn 71
 X := Nat × Nat × Nat × MpG × Nat
 args := fun (bx, qx, bm, M, clk) => [.fn (.func 97) [] [.ptr 0 0 0]]
 mem := fun (bx, qx, bm, M, clk) => mpG bx qx bm M clk
 pre := fun (bx, qx, bm, M, clk) => MKeys (d := C0 63) M clk (M.map fun e => e.1) ∧ M.length < 1000000000
 alts := fun (bx, qx, bm, M, clk) => [⟨Sq Int, fun y => SdG (M.map fun e => e.1) y, fun y => .sl 2 0 y.2.2.2.2.1 y.2.2.2.2.2, fun y => moG bx qx bm M clk y⟩]
 mat vs m := match vs with
  | [.fn (.func 97) _ [.ptr p _ _]] => match nth m p with
    | ⟨bx, qx, _, _, _, .one [.mp w]⟩ => match nth m w with
      | ⟨bm, _, _, _, _, .mp 3 63 M clk⟩ => some ((bx, qx, bm, M, clk), [p, w])
      | _ => none
    | _ => none
  | _ => none
 ok := fun (bx, qx, bm, M, clk) h => sortedG_ok bx qx bm M clk h.1 h.2
theorem keysG_ok (bm : Nat) (M : MpG) (clk : Nat) : Does (C := C0) Tryd.prog (.fn 76) [⟨bm, 0, 0, false, none, .mp 3 63 M clk⟩] [.mp 0]
 [⟨Nat × Nat, fun _ => True, fun _ => .fn (.func 97) [] [.ptr 1 0 0], fun y => [⟨bm, 0, 0, false, none, .mp 3 63 M clk⟩, ⟨y.1, y.2, 1, true, none, .one [.mp 0]⟩]⟩] := by
 refine loc_fn (P := Tryd.prog) (E := ⟨[], [], 4, [], [], []⟩) (L := []) mix Tryd.func76 rfl (by kernel_rfl) (by kernel_rfl) rfl rfl ?_
 ((conv => arg 1; reduce); with_reducible repeat' first | exact ty | refine ta ?_ ?_ | refine ti fun _ => ?_ | refine tf fun _ => ?_ | refine tl ?_)
 all_goals try exact vlk
 rename_i b1
 refine Ends.one ((b1, 0) : Nat × Nat) trivial ?_
 exact vgk
noncomputable def fcKeysG : Fc Tryd.prog C0 where
 tg := .fn 76
 X := Nat × MpG × Nat
 args := fun (bm, M, clk) => [.mp 0]
 mem := fun (bm, M, clk) => [⟨bm, 0, 0, false, none, .mp 3 63 M clk⟩]
 pre _ := True
 alts := fun (bm, M, clk) => [⟨Nat × Nat, fun _ => True, fun _ => .fn (.func 97) [] [.ptr 1 0 0], fun y => [⟨bm, 0, 0, false, none, .mp 3 63 M clk⟩, ⟨y.1, y.2, 1, true, none, .one [.mp 0]⟩]⟩]
 mat vs m := match vs with
  | [.mp w] => match nth m w with
    | ⟨bm, _, _, _, _, .mp 3 63 M clk⟩ => some ((bm, M, clk), [w])
    | _ => none
  | _ => none
 ok := fun (bm, M, clk) _ => keysG_ok bm M clk
def SdS (S : List Int) (y : Sq Int) : Prop := ∃ A, Rise A ∧ (∀ k, k ∈ A ↔ k ∈ S) ∧ Gth A y
theorem SdS.of {M : MpS} {clk : Nat} {S : List Int} (h : MKeys (d := C0 88) M clk S) {o : Bool} {b q : Nat} {l : List Int} {n c : Nat} (hy : KsS M (o, b, q, l, n, c)) : SdS S (o, b, q, srt (l.take n) ++ l.drop n, n, c) := by
 obtain ⟨A, hp, hG⟩ := hy
 refine ⟨srt A, rise_srt (hp.nodup_iff.2 h.nd), fun k => ?_, hG.sorted⟩
 rw [(srt_perm A).mem_iff, hp.mem_iff]
 exact h.mem k
end Go.Vx.Sc
namespace Go.Vx.Sc
open Go Go.Proofs
variable [Gl]
abbrev rw (Q : List (List Pg)) (i : Nat) : List Pg := Q.getD i []
def pgsTo (f : Nat → List Pg → Bool) (Q : List (List Pg)) : Nat → List Pg
 | 0 => []
 | i + 1 => pgsTo f Q i ++ (if f i (rw Q i) then rw Q i else [])
def pgsAt (f : Nat → List Pg → Bool) (Q : List (List Pg)) (i j : Nat) : List Pg := pgsTo f Q i ++ (if f i (rw Q i) then (rw Q i).take j else [])
section
variable {f : Nat → List Pg → Bool} {Q : List (List Pg)} {i j : Nat}
theorem pgsAt_zero : pgsAt f Q i 0 = pgsTo f Q i := by
 unfold pgsAt
 split <;> simp
theorem pgsAt_all (h : (rw Q i).length ≤ j) : pgsAt f Q i j = pgsTo f Q (i + 1) := by
 unfold pgsAt
 rw [zu h]; rfl
theorem pgsAt_yes (h : j < (rw Q i).length) (hf : f i (rw Q i) = true) : pgsAt f Q i (j + 1) = pgsAt f Q i j ++ [(rw Q i).getD j pg0] := by
 unfold pgsAt
 rw [if_pos hf, if_pos hf, take_snoc (d := pg0) h, List.append_assoc]
theorem pgsAt_off (hf : f i (rw Q i) = false) : pgsAt f Q i (j + 1) = pgsAt f Q i j := by
 unfold pgsAt
 rw [if_neg (by rw [hf]; exact xg), if_neg (by rw [hf]; exact xg)]
end
@[irreducible] def fTo (h : Int → Pg → Int) (f : Nat → List Pg → Bool) (Q : List (List Pg)) (i : Nat) : Int := ((pgsTo f Q i).filter fun p => decide (p.cl = 1)).foldl h 0
@[irreducible] def fAt (h : Int → Pg → Int) (f : Nat → List Pg → Bool) (Q : List (List Pg)) (i j : Nat) : Int := ((pgsAt f Q i j).filter fun p => decide (p.cl = 1)).foldl h 0
section
variable {h : Int → Pg → Int} {f : Nat → List Pg → Bool} {Q : List (List Pg)} {i j : Nat}
theorem fTo_zero : fTo h f Q 0 = 0 := by unfold fTo; rfl
theorem fAt_zero : fAt h f Q i 0 = fTo h f Q i := by unfold fAt fTo; rw [pgsAt_zero]
theorem fAt_all (hj : (rw Q i).length ≤ j) : fAt h f Q i j = fTo h f Q (i + 1) := by unfold fAt fTo; rw [pgsAt_all hj]
theorem fAt_yes (hj : j < (rw Q i).length) (hf : f i (rw Q i) = true) (hc : ((rw Q i).getD j pg0).cl = 1) : fAt h f Q i (j + 1) = h (fAt h f Q i j) ((rw Q i).getD j pg0) := by
 unfold fAt
 rw [pgsAt_yes hj hf, ze, yw (by simpa using hc), yg, List.foldl_append]; rfl
theorem fAt_torn (hj : j < (rw Q i).length) (hc : ¬ ((rw Q i).getD j pg0).cl = 1) : fAt h f Q i (j + 1) = fAt h f Q i j := by
 unfold fAt
 cases hf : f i (rw Q i) with
 | true => rw [pgsAt_yes hj hf, ze, yj (by simpa using hc), yg, zk]
 | false => rw [pgsAt_off hf]
theorem fAt_off (hf : f i (rw Q i) = false) : fAt h f Q i (j + 1) = fAt h f Q i j := by
 unfold fAt
 rw [pgsAt_off hf]
end
def isBad (n : Nat) (p : Pg) : Bool := decide (p.cl = 1) && decide (p.me.kind = 5) && decide (p.me.batch = 0) && decide (0 ≤ p.me.key) && decide (p.me.key < (n : Int))
abbrev hdF : Nat → List Pg → Bool := fun i r => isHd (i : Int) r
abbrev allF : Nat → List Pg → Bool := fun _ _ => true
@[irreducible] def badTo (n : Nat) (Q : List (List Pg)) (i : Nat) : List Int := ((pgsTo hdF Q i).filter (isBad n)).map fun p => p.me.key
@[irreducible] def badAt (n : Nat) (Q : List (List Pg)) (i j : Nat) : List Int := ((pgsAt hdF Q i j).filter (isBad n)).map fun p => p.me.key
section
variable {n : Nat} {Q : List (List Pg)} {i j : Nat}
theorem badTo_zero : badTo n Q 0 = [] := by unfold badTo; rfl
theorem badAt_zero : badAt n Q i 0 = badTo n Q i := by unfold badAt badTo; rw [pgsAt_zero]
theorem badAt_all (hj : (rw Q i).length ≤ j) : badAt n Q i j = badTo n Q (i + 1) := by unfold badAt badTo; rw [pgsAt_all hj]
theorem badAt_yes (hj : j < (rw Q i).length) (hf : isHd i (rw Q i) = true) (hc : isBad n ((rw Q i).getD j pg0) = true) : badAt n Q i (j + 1) = badAt n Q i j ++ [((rw Q i).getD j pg0).me.key] := by
 unfold badAt
 rw [pgsAt_yes hj hf, ze, yw hc, yg, yy]; rfl
theorem badAt_no (hj : j < (rw Q i).length) (hc : (isHd i (rw Q i) && isBad n ((rw Q i).getD j pg0)) = false) : badAt n Q i (j + 1) = badAt n Q i j := by
 unfold badAt
 cases hf : isHd (i : Int) (rw Q i) with
 | true =>
   rw [hf, Bool.true_and] at hc
   rw [pgsAt_yes hj hf, ze, yj (by rw [hc]; exact xg), yg, zk]
 | false => rw [pgsAt_off hf]
theorem mem_badTo {k : Int} (h : k ∈ badTo n Q i) : 0 ≤ k ∧ k < (n : Int) := by
 unfold badTo at h
 obtain ⟨p, hp, rfl⟩ := List.mem_map.1 h
 have := (List.mem_filter.1 hp).2
 unfold isBad at this
 simp only [zx, decide_eq_true_eq] at this
 exact ⟨this.1.2, this.2⟩
end
@[irreducible] def badL (n : Nat) (Q : List (List Pg)) : List Int := (upTo n).filter fun k => decide (k ∈ badTo n Q n)
theorem mem_badL {n : Nat} {Q : List (List Pg)} {k : Int} : k ∈ badL n Q ↔ k ∈ badTo n Q n := by
 unfold badL
 rw [qn, mem_upTo, decide_eq_true_eq]
 exact ⟨fun h => h.2, fun h => ⟨mem_badTo h, h⟩⟩
theorem rise_badL (n : Nat) (Q : List (List Pg)) : Rise (badL n Q) := by unfold badL; exact (rise_upTo n).filter _
abbrev cntF (n : Nat) (Q : List (List Pg)) : Nat → List Pg → Bool := fun i r => isHd (i : Int) r && !decide ((i : Int) ∈ badTo n Q n)
abbrev mxH (g : Me → Int) : Int → Pg → Int := fun a p => max a (g p.me)
abbrev flH : Int → Pg → Int := fun a p => if p.me.kind = 4 then max (max a p.me.floor) p.me.key else max a p.me.floor
end Go.Vx.Sc
namespace Go.Vx.Sc
open Go Go.Proofs
variable [Gl]
theorem rwR (R : List (Rw Pg)) (i : Nat) : rw (R.map fun r => r.l) i = (R.getD i Rw.nil).l := by
 unfold rw
 rw [zz, zz, zh]
 cases R[i]? <;> rfl
theorem nd_len : ∀ (A B : List Int), A.Nodup → (∀ x ∈ A, x ∈ B) → A.length ≤ B.length := by
 intro A
 induction A with
 | nil => intro B _ _; exact zn _
 | cons a r ih =>
   intro B hn hs
   rw [List.nodup_cons] at hn
   have hb := hs a (by simp)
   have := ih (B.erase a) hn.2 fun x hx => (List.mem_erase_of_ne (fun e => hn.1 (by rw [← e]; exact hx))).2 (hs x (by simp [hx]))
   rw [List.length_erase_of_mem hb] at this
   have := List.length_pos_of_mem hb
   simp only [List.length_cons]; omega
theorem and_six (h a b c d e : Bool) : (h && (a && b && c && d && e)) = (a && b && c && h && d && e) := by
 cases a <;> cases b <;> cases c <;> cases h <;> cases d <;> cases e <;> rfl
theorem not_t {b : Bool} (h : (!b) = true) : b = false := by cases b; rfl; cases h
theorem not_f {b : Bool} (h : (!b) = false) : b = true := by cases b; cases h; rfl
theorem upTo_len (n : Nat) : (upTo n).length = n := by unfold upTo; simp
section
variable {d : Codec}
theorem MKeys.self {M : List (Ent' (C0 3) d)} {clk : Nat} {S : List Int} (h : MKeys M clk S) : MKeys M clk (M.map fun e => (e.1 : Int)) := ⟨h.born, h.nd, fun _ => Iff.rfl⟩
theorem MKeys.few {M : List (Ent' (C0 3) d)} {clk : Nat} {S : List Int} (h : MKeys M clk S) {n : Nat} (hS : ∀ k ∈ S, 0 ≤ k ∧ k < (n : Int)) : M.length ≤ n := by
 have := nd_len _ (upTo n) h.nd fun k hk => mem_upTo.2 (hS k ((h.mem k).1 hk))
 rwa [zt, upTo_len] at this
end
theorem sd_bad {M : MpB} {clk n : Nat} {Q : List (List Pg)} (h : MSet M clk (badTo n Q n)) {y : Sq Int} (hy : SdB (M.map fun e => e.1) y) : Gth (badL n Q) y := by
 obtain ⟨A, h1, h2, h3⟩ := hy
 have : A = badL n Q := rise_one h1 (rise_badL n Q) fun k => (h2 k).trans ((h.keys.mem k).trans mem_badL.symm)
 rw [← this]; exact h3
omit [Gl] in
theorem Tr.via {t : Tr} (t' : Tr) (h : t' = t) (g : t'.holds) : t.holds := h ▸ g
end Go.Vx.Sc
set_option maxRecDepth 1000000
namespace Go.Vx.Sc
open Go Go.Proofs
abbrev numB : List Tk := [.p 0, .p 1, .p 2, .p 3, .p 4, .p 5, .p 6, .q 7, .p 8, .p 9, .p 10, .p 11, .p 12, .p 13, .p 14, .q 15, .p 16, .p 17, .p 18, .p 19, .p 20, .p 21, .p 22, .q 23, .p 24, .p 25, .p 26, .p 27, .p 28, .p 29, .e 30, .p 31, .p 32, .p 33, .e 34, .p 35, .p 36, .p 37, .e 38]
noncomputable def numB_ops : Array Oper := match opsOf Tryd.f53 20 with
 | some o => o
 | none => #[]
def numB_w : List Nat := [30, 34, 38]
def numB_f : List Nat := []
def numB_l0 : Array Bool := #[false, false, false, false, false, false, false, false, false, false, false, false, false, false, false, false, false, false, false, false, false, false, false, false, false, false, false, false, false, false, false, false, false, false, false, false, false, false, false]
theorem numB_s0 : stepsOKL numB_ops numB_w numB_f false [.p 0, .p 1, .p 2, .p 3] numB_l0 = true := by kernel_rfl
def numB_l1 : Array Bool := #[true, true, true, true, false, false, false, false, false, false, false, false, false, false, false, false, false, false, false, false, false, false, false, false, false, false, false, false, false, false, false, false, false, false, false, false, false, false, false]
theorem numB_a0 : listedBy [.p 0, .p 1, .p 2, .p 3] numB_l0 = numB_l1 := by kernel_rfl
theorem numB_s1 : stepsOKL numB_ops numB_w numB_f false [.p 4, .p 5, .p 6, .q 7] numB_l1 = true := by kernel_rfl
def numB_l2 : Array Bool := #[true, true, true, true, true, true, true, true, false, false, false, false, false, false, false, false, false, false, false, false, false, false, false, false, false, false, false, false, false, false, false, false, false, false, false, false, false, false, false]
theorem numB_a1 : listedBy [.p 4, .p 5, .p 6, .q 7] numB_l1 = numB_l2 := by kernel_rfl
theorem numB_s2 : stepsOKL numB_ops numB_w numB_f false [.p 8, .p 9, .p 10, .p 11] numB_l2 = true := by kernel_rfl
def numB_l3 : Array Bool := #[true, true, true, true, true, true, true, true, true, true, true, true, false, false, false, false, false, false, false, false, false, false, false, false, false, false, false, false, false, false, false, false, false, false, false, false, false, false, false]
theorem numB_a2 : listedBy [.p 8, .p 9, .p 10, .p 11] numB_l2 = numB_l3 := by kernel_rfl
theorem numB_s3 : stepsOKL numB_ops numB_w numB_f false [.p 12, .p 13, .p 14, .q 15] numB_l3 = true := by kernel_rfl
def numB_l4 : Array Bool := #[true, true, true, true, true, true, true, true, true, true, true, true, true, true, true, true, false, false, false, false, false, false, false, false, false, false, false, false, false, false, false, false, false, false, false, false, false, false, false]
theorem numB_a3 : listedBy [.p 12, .p 13, .p 14, .q 15] numB_l3 = numB_l4 := by kernel_rfl
theorem numB_s4 : stepsOKL numB_ops numB_w numB_f false [.p 16, .p 17, .p 18, .p 19] numB_l4 = true := by kernel_rfl
def numB_l5 : Array Bool := #[true, true, true, true, true, true, true, true, true, true, true, true, true, true, true, true, true, true, true, true, false, false, false, false, false, false, false, false, false, false, false, false, false, false, false, false, false, false, false]
theorem numB_a4 : listedBy [.p 16, .p 17, .p 18, .p 19] numB_l4 = numB_l5 := by kernel_rfl
theorem numB_s5 : stepsOKL numB_ops numB_w numB_f false [.p 20, .p 21, .p 22, .q 23] numB_l5 = true := by kernel_rfl
def numB_l6 : Array Bool := #[true, true, true, true, true, true, true, true, true, true, true, true, true, true, true, true, true, true, true, true, true, true, true, true, false, false, false, false, false, false, false, false, false, false, false, false, false, false, false]
theorem numB_a5 : listedBy [.p 20, .p 21, .p 22, .q 23] numB_l5 = numB_l6 := by kernel_rfl
theorem numB_s6 : stepsOKL numB_ops numB_w numB_f false [.p 24, .p 25, .p 26, .p 27] numB_l6 = true := by kernel_rfl
def numB_l7 : Array Bool := #[true, true, true, true, true, true, true, true, true, true, true, true, true, true, true, true, true, true, true, true, true, true, true, true, true, true, true, true, false, false, false, false, false, false, false, false, false, false, false]
theorem numB_a6 : listedBy [.p 24, .p 25, .p 26, .p 27] numB_l6 = numB_l7 := by kernel_rfl
theorem numB_s7 : stepsOKL numB_ops numB_w numB_f false [.p 28, .p 29, .e 30, .p 31] numB_l7 = true := by kernel_rfl
def numB_l8 : Array Bool := #[true, true, true, true, true, true, true, true, true, true, true, true, true, true, true, true, true, true, true, true, true, true, true, true, true, true, true, true, true, true, true, true, false, false, false, false, false, false, false]
theorem numB_a7 : listedBy [.p 28, .p 29, .e 30, .p 31] numB_l7 = numB_l8 := by kernel_rfl
theorem numB_s8 : stepsOKL numB_ops numB_w numB_f false [.p 32, .p 33, .e 34, .p 35] numB_l8 = true := by kernel_rfl
def numB_l9 : Array Bool := #[true, true, true, true, true, true, true, true, true, true, true, true, true, true, true, true, true, true, true, true, true, true, true, true, true, true, true, true, true, true, true, true, true, true, true, true, false, false, false]
theorem numB_a8 : listedBy [.p 32, .p 33, .e 34, .p 35] numB_l8 = numB_l9 := by kernel_rfl
theorem numB_s9 : stepsOKL numB_ops numB_w numB_f false [.p 36, .p 37, .e 38] numB_l9 = true := by kernel_rfl
def numB_l10 : Array Bool := #[true, true, true, true, true, true, true, true, true, true, true, true, true, true, true, true, true, true, true, true, true, true, true, true, true, true, true, true, true, true, true, true, true, true, true, true, true, true, true]
theorem numB_a9 : listedBy [.p 36, .p 37, .e 38] numB_l9 = numB_l10 := by kernel_rfl
theorem numB_k10 : planOK numB_ops numB_w numB_f false (PTree.of []) numB_l10 = true := by kernel_rfl
theorem numB_k9 : planOK numB_ops numB_w numB_f false (PTree.of [.p 36, .p 37, .e 38]) numB_l9 = true := plan_cutL [.p 36, .p 37, .e 38] _ _ _ numB_s9 (by rw [numB_a9]; exact numB_k10)
theorem numB_k8 : planOK numB_ops numB_w numB_f false (PTree.of [.p 32, .p 33, .e 34, .p 35, .p 36, .p 37, .e 38]) numB_l8 = true := plan_cutL [.p 32, .p 33, .e 34, .p 35] _ _ _ numB_s8 (by rw [numB_a8]; exact numB_k9)
theorem numB_k7 : planOK numB_ops numB_w numB_f false (PTree.of [.p 28, .p 29, .e 30, .p 31, .p 32, .p 33, .e 34, .p 35, .p 36, .p 37, .e 38]) numB_l7 = true := plan_cutL [.p 28, .p 29, .e 30, .p 31] _ _ _ numB_s7 (by rw [numB_a7]; exact numB_k8)
theorem numB_k6 : planOK numB_ops numB_w numB_f false (PTree.of [.p 24, .p 25, .p 26, .p 27, .p 28, .p 29, .e 30, .p 31, .p 32, .p 33, .e 34, .p 35, .p 36, .p 37, .e 38]) numB_l6 = true := plan_cutL [.p 24, .p 25, .p 26, .p 27] _ _ _ numB_s6 (by rw [numB_a6]; exact numB_k7)
theorem numB_k5 : planOK numB_ops numB_w numB_f false (PTree.of [.p 20, .p 21, .p 22, .q 23, .p 24, .p 25, .p 26, .p 27, .p 28, .p 29, .e 30, .p 31, .p 32, .p 33, .e 34, .p 35, .p 36, .p 37, .e 38]) numB_l5 = true := plan_cutL [.p 20, .p 21, .p 22, .q 23] _ _ _ numB_s5 (by rw [numB_a5]; exact numB_k6)
theorem numB_k4 : planOK numB_ops numB_w numB_f false (PTree.of [.p 16, .p 17, .p 18, .p 19, .p 20, .p 21, .p 22, .q 23, .p 24, .p 25, .p 26, .p 27, .p 28, .p 29, .e 30, .p 31, .p 32, .p 33, .e 34, .p 35, .p 36, .p 37, .e 38]) numB_l4 = true := plan_cutL [.p 16, .p 17, .p 18, .p 19] _ _ _ numB_s4 (by rw [numB_a4]; exact numB_k5)
theorem numB_k3 : planOK numB_ops numB_w numB_f false (PTree.of [.p 12, .p 13, .p 14, .q 15, .p 16, .p 17, .p 18, .p 19, .p 20, .p 21, .p 22, .q 23, .p 24, .p 25, .p 26, .p 27, .p 28, .p 29, .e 30, .p 31, .p 32, .p 33, .e 34, .p 35, .p 36, .p 37, .e 38]) numB_l3 = true := plan_cutL [.p 12, .p 13, .p 14, .q 15] _ _ _ numB_s3 (by rw [numB_a3]; exact numB_k4)
theorem numB_k2 : planOK numB_ops numB_w numB_f false (PTree.of [.p 8, .p 9, .p 10, .p 11, .p 12, .p 13, .p 14, .q 15, .p 16, .p 17, .p 18, .p 19, .p 20, .p 21, .p 22, .q 23, .p 24, .p 25, .p 26, .p 27, .p 28, .p 29, .e 30, .p 31, .p 32, .p 33, .e 34, .p 35, .p 36, .p 37, .e 38]) numB_l2 = true := plan_cutL [.p 8, .p 9, .p 10, .p 11] _ _ _ numB_s2 (by rw [numB_a2]; exact numB_k3)
theorem numB_k1 : planOK numB_ops numB_w numB_f false (PTree.of [.p 4, .p 5, .p 6, .q 7, .p 8, .p 9, .p 10, .p 11, .p 12, .p 13, .p 14, .q 15, .p 16, .p 17, .p 18, .p 19, .p 20, .p 21, .p 22, .q 23, .p 24, .p 25, .p 26, .p 27, .p 28, .p 29, .e 30, .p 31, .p 32, .p 33, .e 34, .p 35, .p 36, .p 37, .e 38]) numB_l1 = true := plan_cutL [.p 4, .p 5, .p 6, .q 7] _ _ _ numB_s1 (by rw [numB_a1]; exact numB_k2)
theorem numB_k0 : planOK numB_ops numB_w numB_f false (PTree.of [.p 0, .p 1, .p 2, .p 3, .p 4, .p 5, .p 6, .q 7, .p 8, .p 9, .p 10, .p 11, .p 12, .p 13, .p 14, .q 15, .p 16, .p 17, .p 18, .p 19, .p 20, .p 21, .p 22, .q 23, .p 24, .p 25, .p 26, .p 27, .p 28, .p 29, .e 30, .p 31, .p 32, .p 33, .e 34, .p 35, .p 36, .p 37, .e 38]) numB_l0 = true := plan_cutL [.p 0, .p 1, .p 2, .p 3] _ _ _ numB_s0 (by rw [numB_a0]; exact numB_k1)
theorem numB_ok (ops : Array Oper) (h : opsOf Tryd.f53 20 = some ops) : planned ops (PTree.of numB) = true := by
 have e : ops = numB_ops := by unfold numB_ops; rw [h]
 subst e
 unfold planned
 rw [show effs (PTree.of numB) = numB_w from rfl, show lates (PTree.of numB) = numB_f from rfl, show xw numB_ops.size false = numB_l0 by kernel_rfl, numB_k0, show Region.noSelect numB_ops = true by kernel_rfl, show Nat.beq (PTree.of numB).len numB_ops.size = true by kernel_rfl]
 rfl
end Go.Vx.Sc
namespace Go.Vx.Sc
open Go Go.Proofs
abbrev numE : List Tk := [.p 0, .p 1, .p 2, .p 3, .p 4, .p 5, .p 6, .p 7, .p 8, .p 9, .p 10, .p 11, .p 12, .p 13, .p 14, .f 15]
noncomputable def numE_ops : Array Oper := match opsOf Tryd.f53 27 with
 | some o => o
 | none => #[]
def numE_w : List Nat := [15]
def numE_f : List Nat := [15]
def numE_l0 : Array Bool := #[false, false, false, false, false, false, false, false, false, false, false, false, false, false, false, false]
theorem numE_s0 : stepsOKL numE_ops numE_w numE_f false [.p 0, .p 1, .p 2, .p 3] numE_l0 = true := by kernel_rfl
def numE_l1 : Array Bool := #[true, true, true, true, false, false, false, false, false, false, false, false, false, false, false, false]
theorem numE_a0 : listedBy [.p 0, .p 1, .p 2, .p 3] numE_l0 = numE_l1 := by kernel_rfl
theorem numE_s1 : stepsOKL numE_ops numE_w numE_f false [.p 4, .p 5, .p 6, .p 7] numE_l1 = true := by kernel_rfl
def numE_l2 : Array Bool := #[true, true, true, true, true, true, true, true, false, false, false, false, false, false, false, false]
theorem numE_a1 : listedBy [.p 4, .p 5, .p 6, .p 7] numE_l1 = numE_l2 := by kernel_rfl
theorem numE_s2 : stepsOKL numE_ops numE_w numE_f false [.p 8, .p 9, .p 10, .p 11] numE_l2 = true := by kernel_rfl
def numE_l3 : Array Bool := #[true, true, true, true, true, true, true, true, true, true, true, true, false, false, false, false]
theorem numE_a2 : listedBy [.p 8, .p 9, .p 10, .p 11] numE_l2 = numE_l3 := by kernel_rfl
theorem numE_s3 : stepsOKL numE_ops numE_w numE_f false [.p 12, .p 13, .p 14, .f 15] numE_l3 = true := by kernel_rfl
def numE_l4 : Array Bool := #[true, true, true, true, true, true, true, true, true, true, true, true, true, true, true, true]
theorem numE_a3 : listedBy [.p 12, .p 13, .p 14, .f 15] numE_l3 = numE_l4 := by kernel_rfl
theorem numE_k4 : planOK numE_ops numE_w numE_f true (PTree.of []) numE_l4 = true := by kernel_rfl
theorem numE_k3 : planOK numE_ops numE_w numE_f false (PTree.of [.p 12, .p 13, .p 14, .f 15]) numE_l3 = true := plan_cutL [.p 12, .p 13, .p 14, .f 15] _ _ _ numE_s3 (by rw [numE_a3]; exact numE_k4)
theorem numE_k2 : planOK numE_ops numE_w numE_f false (PTree.of [.p 8, .p 9, .p 10, .p 11, .p 12, .p 13, .p 14, .f 15]) numE_l2 = true := plan_cutL [.p 8, .p 9, .p 10, .p 11] _ _ _ numE_s2 (by rw [numE_a2]; exact numE_k3)
theorem numE_k1 : planOK numE_ops numE_w numE_f false (PTree.of [.p 4, .p 5, .p 6, .p 7, .p 8, .p 9, .p 10, .p 11, .p 12, .p 13, .p 14, .f 15]) numE_l1 = true := plan_cutL [.p 4, .p 5, .p 6, .p 7] _ _ _ numE_s1 (by rw [numE_a1]; exact numE_k2)
theorem numE_k0 : planOK numE_ops numE_w numE_f false (PTree.of [.p 0, .p 1, .p 2, .p 3, .p 4, .p 5, .p 6, .p 7, .p 8, .p 9, .p 10, .p 11, .p 12, .p 13, .p 14, .f 15]) numE_l0 = true := plan_cutL [.p 0, .p 1, .p 2, .p 3] _ _ _ numE_s0 (by rw [numE_a0]; exact numE_k1)
theorem numE_ok (ops : Array Oper) (h : opsOf Tryd.f53 27 = some ops) : planned ops (PTree.of numE) = true := by
 have e : ops = numE_ops := by unfold numE_ops; rw [h]
 subst e
 unfold planned
 rw [show effs (PTree.of numE) = numE_w from rfl, show lates (PTree.of numE) = numE_f from rfl, show xw numE_ops.size false = numE_l0 by kernel_rfl, numE_k0, show Region.noSelect numE_ops = true by kernel_rfl, show Nat.beq (PTree.of numE).len numE_ops.size = true by kernel_rfl]
 rfl
abbrev sloB : List Tk := [.p 0, .p 1, .p 2, .p 3, .p 4, .p 5, .p 6, .p 7, .p 8, .p 9, .p 10, .p 11, .e 12, .e 13, .p 14, .p 15, .p 16, .f 17]
abbrev ofB : List Tk := [.p 0, .p 1, .p 2, .p 3, .p 4, .p 5, .p 6, .p 7, .p 8, .p 9, .p 10, .p 11, .p 12, .p 13, .p 14, .e 15, .e 16, .p 17, .f 18]
end Go.Vx.Sc
namespace Go.Vx.Sc
open Go Go.Proofs
variable [Gl]
structure Cx where
 bc : Nat
 qc : Nat
 bs : Int
 ps : Int
 ss : Int
 so : Bool
 sb : Nat
 sq : Nat
 sl : List Int
 sn : Nat
 sc : Nat
 bg : Nat
 qg : Nat
 R : List (Rw Pg)
 n : Nat
 c : Nat
 bm : Nat
abbrev Cx.Q (x : Cx) : List (List Pg) := x.R.map fun r => r.l
structure Cx.ok (x : Cx) : Prop where
 bs : x.bs = (x.n : Int)
 n : x.n = x.R.length
 n64 : x.n ≤ 64
 ps : 0 ≤ x.ps ∧ x.ps ≤ 64
 ss : 0 ≤ x.ss ∧ x.ss ≤ 536870912
 rok : ∀ r ∈ x.R, Rok r
 few : ∀ r ∈ x.R, r.l.length < 1000000
 skip : x.sn ≤ x.sl.length ∧ x.sn < 1000000000 ∧ (x.so = false → x.sn = 0 ∧ x.sc = 0)
abbrev chW (w : Bool) : Cx → List SV → Ck C0
 | ⟨bc, qc, bs, ps, ss, so, sb, sq, sl, sn, sc, bg, qg, R, n, c, bm⟩, out => ⟨bc, qc, 15, w, none, .one (.int .i64 bs :: .int .i64 ps :: .int .i64 ss :: .sl 3 0 sn sc :: .sl 1 0 n c :: .mp 2 :: out)⟩
abbrev chG : Cx → Ck C0
 | ⟨bc, qc, bs, ps, ss, so, sb, sq, sl, sn, sc, bg, qg, R, n, c, bm⟩ => gridR bg qg R
abbrev chM (w : Bool) : Cx → Bm → Nat → Ck C0
 | ⟨bc, qc, bs, ps, ss, so, sb, sq, sl, sn, sc, bg, qg, R, n, c, bm⟩, M, clk => ⟨bm, 0, 0, w, none, .mp 3 4 M clk⟩
abbrev chS : Cx → Ck C0
 | ⟨bc, qc, bs, ps, ss, so, sb, sq, sl, sn, sc, bg, qg, R, n, c, bm⟩ => ⟨sb, sq, 1, false, some so, .rows 3 sl⟩
abbrev out0 : List SV := [.nils, .int .i64 0, .int .i64 0, .int .i64 0, .int .i64 0, .nils, .nils, .nils, .nils]
abbrev outI (a b c d : Int) (n q : Nat) : List SV := [.nils, .int .i64 a, .int .i64 b, .int .i64 c, .int .i64 d, .nils, .nils, .sl 4 0 n q, .nils]
abbrev sqF (x : Cx) (i : Nat) : Int := fTo (mxH Me.seq) allF x.Q i
abbrev stF (x : Cx) (i : Nat) : Int := fTo (mxH Me.stamp) allF x.Q i
abbrev baF (x : Cx) (i : Nat) : Int := fTo (mxH Me.batch) allF x.Q i
abbrev flF (x : Cx) (i : Nat) : Int := fTo flH (cntF x.n x.Q) x.Q i
abbrev sqJ (x : Cx) (i j : Nat) : Int := fAt (mxH Me.seq) allF x.Q i j
abbrev stJ (x : Cx) (i j : Nat) : Int := fAt (mxH Me.stamp) allF x.Q i j
abbrev baJ (x : Cx) (i j : Nat) : Int := fAt (mxH Me.batch) allF x.Q i j
abbrev flJ (x : Cx) (i j : Nat) : Int := fAt flH (cntF x.n x.Q) x.Q i j
def N1 (x : Cx) : Inv' C0 := ⟨1, Nat × Bm × Nat, fun y => [(17, .int .i64 (y.1 : Int))], fun y _ => [chW true x out0, chG x, chM true x y.2.1 y.2.2, chS x],
 fun y => y.1 ≤ x.n ∧ MSet y.2.1 y.2.2 (badTo x.n x.Q y.1), fun y => x.n - y.1⟩
def N4 (x : Cx) : Inv' C0 := ⟨4, Nat × Nat × Bm × Nat, fun y => [(17, .int .i64 (y.1 : Int)), (24, .int .i64 (y.2.1 : Int))], fun y m => match m with
 | _ :: _ :: _ :: _ :: g :: _ => [chW true x out0, chG x, chM true x y.2.2.1 y.2.2.2, chS x, g]
 | _ => [], fun y => y.1 < x.n ∧ y.2.1 ≤ (rw x.Q y.1).length ∧ MSet y.2.2.1 y.2.2.2 (badAt x.n x.Q y.1 y.2.1), fun y => (rw x.Q y.1).length - y.2.1⟩
def N13 (x : Cx) : Inv' C0 := ⟨13, Nat × Bm × Nat × Sq Int, fun y => [(75, .junk), (76, .junk), (85, .int .i64 (y.1 : Int))], fun y _ => [chW true x (outI (sqF x y.1) (stF x y.1) (baF x y.1) (flF x y.1) y.2.2.2.2.2.2.2.1 y.2.2.2.2.2.2.2.2), chG x, chM true x y.2.1 y.2.2.1, chS x, ⟨y.2.2.2.2.1, y.2.2.2.2.2.1, 1, true, some y.2.2.2.1, .rows 3 y.2.2.2.2.2.2.1⟩],
 fun y => y.1 ≤ x.n ∧ MSet y.2.1 y.2.2.1 (badTo x.n x.Q x.n) ∧ Gth (badL x.n x.Q) y.2.2.2, fun y => x.n - y.1⟩
def N16 (x : Cx) : Inv' C0 := ⟨16, Nat × Nat × Bm × Nat × Sq Int, fun y => [(85, .int .i64 (y.1 : Int)), (92, .int .i64 (y.2.1 : Int))], fun y m => match m with
 | _ :: _ :: _ :: _ :: _ :: g :: _ => [chW true x (outI (sqJ x y.1 y.2.1) (stJ x y.1 y.2.1) (baJ x y.1 y.2.1) (flJ x y.1 y.2.1) y.2.2.2.2.2.2.2.2.1 y.2.2.2.2.2.2.2.2.2), chG x, chM true x y.2.2.1 y.2.2.2.1, chS x, ⟨y.2.2.2.2.2.1, y.2.2.2.2.2.2.1, 1, true, some y.2.2.2.2.1, .rows 3 y.2.2.2.2.2.2.2.1⟩, g]
 | _ => [], fun y => y.1 < x.n ∧ y.2.1 ≤ (rw x.Q y.1).length ∧ MSet y.2.2.1 y.2.2.2.1 (badTo x.n x.Q x.n) ∧ Gth (badL x.n x.Q) y.2.2.2.2, fun y => (rw x.Q y.1).length - y.2.1⟩
abbrev numOut (x : Cx) (y : Bm × Nat × Sq Int) : List (Ck C0) :=
 [chW true x (outI (sqF x x.n) (stF x x.n) (max (baF x x.n) (flF x x.n)) (flF x x.n) y.2.2.2.2.2.2.1 y.2.2.2.2.2.2.2), chG x, chM true x y.1 y.2.1, chS x, ⟨y.2.2.2.1, y.2.2.2.2.1, 1, true, some y.2.2.1, .rows 3 y.2.2.2.2.2.1⟩]
set_option maxHeartbeats 64000000 in
theorem numbers_ok (x : Cx) (h : x.ok) : Does (C := C0) Tryd.prog (.fn 53) [chW true x out0, chG x, chM true x [] 0, chS x] [.ptr 0 0 0]
 [⟨Bm × Nat × Sq Int, fun y => MSet y.1 y.2.1 (badTo x.n x.Q x.n) ∧ Gth (badL x.n x.Q) y.2.2, fun _ => .tup [], fun y => numOut x y⟩] := by
 obtain ⟨bc, qc, bs, ps, ss, so, sb, sq, sl, sn, sc, bg, qg, R, n, c, bm⟩ := x
 have hbs : bs = (n : Int) := h.bs
 have hn : n = R.length := h.n
 have hn64 : n ≤ 64 := h.n64
 have hrok : ∀ r ∈ R, Rok r := h.rok
 have hfew : ∀ r ∈ R, r.l.length < 1000000 := h.few
 refine loc_fn (P := Tryd.prog) (E := ⟨[fcKeysB, fcSortedB], [pcHeaded, pcCounts], 185, [(8, [0, 1000006], [.p 0, .p 1, .p 2, .p 3, .p 4, .p 5, .f 6]), (20, [1000011], numB), (22, [0, 1000011], [.p 0, .p 1, .p 2, .p 3, .p 4, .p 5, .p 6, .p 7, .p 8, .p 9, .p 10, .p 11, .f 12]), (24, [0, 1000011], [.p 0, .p 1, .p 2, .p 3, .p 4, .p 5, .p 6, .p 7, .p 8, .p 9, .p 10, .p 11, .f 12]), (27, [0], numE)], [fG], []⟩) (L := [N1 ⟨bc, qc, bs, ps, ss, so, sb, sq, sl, sn, sc, bg, qg, R, n, c, bm⟩, N4 ⟨bc, qc, bs, ps, ss, so, sb, sq, sl, sn, sc, bg, qg, R, n, c, bm⟩, N13 ⟨bc, qc, bs, ps, ss, so, sb, sq, sl, sn, sc, bg, qg, R, n, c, bm⟩, N16 ⟨bc, qc, bs, ps, ss, so, sb, sq, sl, sn, sc, bg, qg, R, n, c, bm⟩]) mix Tryd.func53 rfl (by kernel_rfl) (by kernel_rfl) rfl rfl ?_
 (refine Tr.via ?_ ?_ ?_; rotate_left; (as_aux_lemma => (conv => rhs; reduce)); with_reducible repeat' first | exact ty | refine ta ?_ ?_ | refine ti fun _ => ?_ | refine tf fun _ => ?_ | refine tl ?_)
 all_goals try (first | exact numE_ok _ rfl | exact numB_ok _ rfl)
 all_goals try exact vlk
 · refine Stands.one (0, [], 0) ⟨⟨zn _, by show MSet [] 0 (badTo n (R.map fun r => r.l) 0); rw [badTo_zero]; exact MSet.nil⟩, ?_⟩
   (refine Tr.via ?_ ?_ ?_; rotate_left; (as_aux_lemma => (conv => rhs; reduce)); with_reducible repeat' first | exact ty | refine ta ?_ ?_ | refine ti fun _ => ?_ | refine tf fun _ => ?_ | refine tl ?_)
   all_goals exact vlk
 iterate 2 (
  focus
  rename_i x1 h1 h2
  obtain ⟨i, M1, c1⟩ := x1
  have h1 : i ≤ n ∧ MSet M1 c1 (badTo n (R.map fun r => r.l) i) := h1
  have h2 : (i : Int) < (n : Int) := ow h2
  first
   | (exact h2
      done)
   | (show i < R.length
      omega
      done))
 · rename_i x1 h1 h2 r hr
   obtain ⟨i, M1, c1⟩ := x1
   have h1 : i ≤ n ∧ MSet M1 c1 (badTo n (R.map fun r => r.l) i) := h1
   have h2 : (i : Int) < (n : Int) := ow h2
   change Rw Pg at r
   have hr : R.getD i Rw.nil = r := hr
   have hm : r ∈ R := by rw [← hr]; exact getD_mem (by omega)
   have hk : Rok r := hrok r hm
   have hl : r.l.length < 1000000 := hfew r hm
   have hw : rw (R.map fun r => r.l) i = r.l := by rw [rwR, hr]
   refine Stands.one (i, 0, M1, c1) ⟨⟨by show i < n; omega, zn _, by show MSet M1 c1 (badAt n (R.map fun r => r.l) i 0); rw [badAt_zero]; exact h1.2⟩, ?_⟩
   (refine Tr.via ?_ ?_ ?_; rotate_left; (as_aux_lemma => (conv => rhs; reduce)); with_reducible repeat' first | exact ty | refine ta ?_ ?_ | refine ti fun _ => ?_ | refine tf fun _ => ?_ | refine tl ?_)
   all_goals exact vlk
 iterate 4 (
  focus
  rename_i x1 h1 h2 r hr x4 h4 e4 h5
  obtain ⟨i, M1, c1⟩ := x1
  obtain ⟨i4, j, M4, c4⟩ := x4
  obtain rfl : i = i4 := Int.ofNat.inj e4
  have h2 : (i : Int) < (n : Int) := ow h2
  have h4 : i < n ∧ j ≤ (rw (R.map fun r => r.l) i).length ∧ MSet M4 c4 (badAt n (R.map fun r => r.l) i j) := h4
  change Rw Pg at r
  have hr : R.getD i Rw.nil = r := hr
  have hm : r ∈ R := by rw [← hr]; exact getD_mem (by omega)
  have hk : Rok r := hrok r hm
  have hl : r.l.length < 1000000 := hfew r hm
  have hw : rw (R.map fun r => r.l) i = r.l := by rw [rwR, hr]
  rw [hw] at h4
  have h5 : (j : Int) < (r.l.length : Int) := ow h5
  first
   | (exact on_of (o := r.on) hk.1 (by show 0 < r.l.length; omega)
      done)
   | (exact h5
      done)
   | (show j < r.l.length
      omega
      done))
 · rename_i x1 h1 h2 r hr x4 h4 e4 h5 u1 u2 hc
   have h2 : (x1.1 : Int) < (n : Int) := ow h2
   exact ⟨by omega, ⟨by omega, h2⟩, hrok⟩
 iterate 4 (
  focus
  rename_i x1 h1 h2 r hr x4 h4 e4 h5 u1 u2 hc
  obtain ⟨i, M1, c1⟩ := x1
  obtain ⟨i4, j, M4, c4⟩ := x4
  obtain rfl : i = i4 := Int.ofNat.inj e4
  have h2 : (i : Int) < (n : Int) := ow h2
  have h4 : i < n ∧ j ≤ (rw (R.map fun r => r.l) i).length ∧ MSet M4 c4 (badAt n (R.map fun r => r.l) i j) := h4
  change Rw Pg at r
  have hr : R.getD i Rw.nil = r := hr
  have hm : r ∈ R := by rw [← hr]; exact getD_mem (by omega)
  have hk : Rok r := hrok r hm
  have hl : r.l.length < 1000000 := hfew r hm
  have hw : rw (R.map fun r => r.l) i = r.l := by rw [rwR, hr]
  rw [hw] at h4
  have h5 : (j : Int) < (r.l.length : Int) := ow h5
  first
   | (exact inR64 (by show -9223372036854775808 ≤ (j : Int) + 1; omega) (by show (j : Int) + 1 ≤ 9223372036854775807; omega)
      done)
   | (have hj : j < (rw (R.map fun r => r.l) i).length := by rw [hw]; omega
      have hp : (rw (R.map fun r => r.l) i).getD j pg0 = r.l.getD j pg0 := by rw [hw]
      have hc : (decide ((r.l.getD j pg0).cl = 1) && decide ((r.l.getD j pg0).me.kind = 5) && decide ((r.l.getD j pg0).me.batch = 0) && isHd (i : Int) (R.getD i Rw.nil).l && decide (0 ≤ (r.l.getD j pg0).me.key) && decide ((r.l.getD j pg0).me.key < bs)) = true := hc
      have hbad : (isHd i (rw (R.map fun r => r.l) i) && isBad n ((rw (R.map fun r => r.l) i).getD j pg0)) = true := by
       rw [hbs] at hc
       rw [hp, rwR, isBad, and_six]
       exact hc
      refine Stands.one (i, j + 1, mput (C0 3) (C0 4) M4 (r.l.getD j pg0).me.key true c4, mclk (C0 3) (C0 4) M4 (r.l.getD j pg0).me.key c4) ⟨⟨by show i < n; omega, by show j + 1 ≤ (rw (R.map fun r => r.l) i).length; omega, ?_⟩, by show (rw (R.map fun r => r.l) i).length - (j + 1) < (rw (R.map fun r => r.l) i).length - j; omega, ?_⟩
      · show MSet _ _ (badAt n (R.map fun r => r.l) i (j + 1))
        rw [badAt_yes hj (and_l hbad) (and_r hbad), hp]
        exact h4.2.2.put _
      (refine Tr.via ?_ ?_ ?_; rotate_left; (as_aux_lemma => (conv => rhs; reduce)); with_reducible repeat' first | exact ty | refine ta ?_ ?_ | refine ti fun _ => ?_ | refine tf fun _ => ?_ | refine tl ?_)
      all_goals exact vlk
      done)
   | (have hj : j < (rw (R.map fun r => r.l) i).length := by rw [hw]; omega
      have hp : (rw (R.map fun r => r.l) i).getD j pg0 = r.l.getD j pg0 := by rw [hw]
      have hc : (decide ((r.l.getD j pg0).cl = 1) && decide ((r.l.getD j pg0).me.kind = 5) && decide ((r.l.getD j pg0).me.batch = 0) && isHd (i : Int) (R.getD i Rw.nil).l && decide (0 ≤ (r.l.getD j pg0).me.key) && decide ((r.l.getD j pg0).me.key < bs)) = false := hc
      have hbad : (isHd i (rw (R.map fun r => r.l) i) && isBad n ((rw (R.map fun r => r.l) i).getD j pg0)) = false := by
       rw [hbs] at hc
       rw [hp, rwR, isBad, and_six]
       exact hc
      refine Stands.one (i, j + 1, M4, c4) ⟨⟨by show i < n; omega, by show j + 1 ≤ (rw (R.map fun r => r.l) i).length; omega, ?_⟩, by show (rw (R.map fun r => r.l) i).length - (j + 1) < (rw (R.map fun r => r.l) i).length - j; omega, ?_⟩
      · show MSet _ _ (badAt n (R.map fun r => r.l) i (j + 1))
        rw [badAt_no hj hbad]
        exact h4.2.2
      (refine Tr.via ?_ ?_ ?_; rotate_left; (as_aux_lemma => (conv => rhs; reduce)); with_reducible repeat' first | exact ty | refine ta ?_ ?_ | refine ti fun _ => ?_ | refine tf fun _ => ?_ | refine tl ?_)
      all_goals exact vlk
      done))
 iterate 2 (
  focus
  rename_i x1 h1 h2 r hr x4 h4 e4 h5
  obtain ⟨i, M1, c1⟩ := x1
  obtain ⟨i4, j, M4, c4⟩ := x4
  obtain rfl : i = i4 := Int.ofNat.inj e4
  have h2 : (i : Int) < (n : Int) := ow h2
  have h4 : i < n ∧ j ≤ (rw (R.map fun r => r.l) i).length ∧ MSet M4 c4 (badAt n (R.map fun r => r.l) i j) := h4
  change Rw Pg at r
  have hr : R.getD i Rw.nil = r := hr
  have hm : r ∈ R := by rw [← hr]; exact getD_mem (by omega)
  have hk : Rok r := hrok r hm
  have hl : r.l.length < 1000000 := hfew r hm
  have hw : rw (R.map fun r => r.l) i = r.l := by rw [rwR, hr]
  rw [hw] at h4
  have h5 : ¬ (j : Int) < (r.l.length : Int) := ov h5
  first
   | (exact inR64 (by show -9223372036854775808 ≤ (i : Int) + 1; omega) (by show (i : Int) + 1 ≤ 9223372036854775807; omega)
      done)
   | (refine Stands.one (i + 1, M4, c4) ⟨⟨by show i + 1 ≤ n; omega, ?_⟩, by show n - (i + 1) < n - i; omega, ?_⟩
      · show MSet _ _ (badTo n (R.map fun r => r.l) (i + 1))
        rw [← badAt_all (n := n) (Q := (R.map fun r => r.l)) (i := i) (j := j) (by rw [hw]; omega)]
        exact h4.2.2
      (refine Tr.via ?_ ?_ ?_; rotate_left; (as_aux_lemma => (conv => rhs; reduce)); with_reducible repeat' first | exact ty | refine ta ?_ ?_ | refine ti fun _ => ?_ | refine tf fun _ => ?_ | refine tl ?_)
      all_goals exact vlk
      done))
 · rename_i x1 h1 h2 u1 u2
   obtain ⟨i, M1, c1⟩ := x1
   have h1 : i ≤ n ∧ MSet M1 c1 (badTo n (R.map fun r => r.l) i) := h1
   exact ⟨h1.2.keys.self, by have : M1.length ≤ n := h1.2.keys.few fun k hk => mem_badTo hk; show M1.length < 1000000000; omega⟩
 · rename_i x1 h1 h2 u1 u2 y hy
   obtain ⟨i, M1, c1⟩ := x1
   have h1 : i ≤ n ∧ MSet M1 c1 (badTo n (R.map fun r => r.l) i) := h1
   have h2 : ¬ (i : Int) < (n : Int) := ov h2
   have e : i = n := by omega
   rw [e] at h1
   refine Stands.one (0, M1, c1, y) ⟨⟨zn _, h1.2, sd_bad h1.2 hy⟩, ?_⟩
   (refine Tr.via ?_ ?_ ?_; rotate_left; (as_aux_lemma => (conv => rhs; reduce)); with_reducible repeat' first | exact ty | refine ta ?_ ?_ | refine ti fun _ => ?_ | refine tf fun _ => ?_ | refine tl ?_)
   all_goals first | exact vlk | exact fTo_zero | exact fTo_zero.symm
 iterate 2 (
  focus
  rename_i x1 h1 h2 u1 u2 u3 u4 x2 h3 h4
  obtain ⟨i, M1, c1, S1⟩ := x2
  have h3 : i ≤ n ∧ MSet M1 c1 (badTo n (R.map fun r => r.l) n) ∧ Gth (badL n (R.map fun r => r.l)) S1 := h3
  have h4 : (i : Int) < (n : Int) := ow h4
  first
   | (exact h4
      done)
   | (show i < R.length
      omega
      done))
 · rename_i x1 h1 h2 u1 u2 u3 u4 x2 h3 h4 r hr
   obtain ⟨i, M1, c1, S1⟩ := x2
   have h3 : i ≤ n ∧ MSet M1 c1 (badTo n (R.map fun r => r.l) n) ∧ Gth (badL n (R.map fun r => r.l)) S1 := h3
   have h4 : (i : Int) < (n : Int) := ow h4
   change Rw Pg at r
   have hr : R.getD i Rw.nil = r := hr
   have hm : r ∈ R := by rw [← hr]; exact getD_mem (by omega)
   have hk : Rok r := hrok r hm
   have hl : r.l.length < 1000000 := hfew r hm
   have hw : rw (R.map fun r => r.l) i = r.l := by rw [rwR, hr]
   refine Stands.one (i, 0, M1, c1, S1) ⟨⟨by show i < n; omega, zn _, h3.2.1, h3.2.2⟩, ?_⟩
   (refine Tr.via ?_ ?_ ?_; rotate_left; (as_aux_lemma => (conv => rhs; reduce)); with_reducible repeat' first | exact ty | refine ta ?_ ?_ | refine ti fun _ => ?_ | refine tf fun _ => ?_ | refine tl ?_)
   all_goals first | exact vlk | exact fAt_zero | exact fAt_zero.symm
 iterate 4 (
  focus
  rename_i x1 h1 h2 u1 u2 u3 u4 x2 h3 h4 r hr x6 h6 e6 h7
  obtain ⟨i, M1, c1, S1⟩ := x2
  obtain ⟨i6, j, M6, c6, S6⟩ := x6
  obtain rfl : i = i6 := Int.ofNat.inj e6
  have h4 : (i : Int) < (n : Int) := ow h4
  have h6 : i < n ∧ j ≤ (rw (R.map fun r => r.l) i).length ∧ MSet M6 c6 (badTo n (R.map fun r => r.l) n) ∧ Gth (badL n (R.map fun r => r.l)) S6 := h6
  change Rw Pg at r
  have hr : R.getD i Rw.nil = r := hr
  have hm : r ∈ R := by rw [← hr]; exact getD_mem (by omega)
  have hk : Rok r := hrok r hm
  have hl : r.l.length < 1000000 := hfew r hm
  have hw : rw (R.map fun r => r.l) i = r.l := by rw [rwR, hr]
  rw [hw] at h6
  have h7 : (j : Int) < (r.l.length : Int) := ow h7
  first
   | (exact on_of (o := r.on) hk.1 (by show 0 < r.l.length; omega)
      done)
   | (exact h7
      done)
   | (show j < r.l.length
      omega
      done))
 iterate 2 (
  focus
  rename_i x1 h1 h2 u1 u2 u3 u4 x2 h3 h4 r hr x6 h6 e6 h7 v1 hc
  obtain ⟨i, M1, c1, S1⟩ := x2
  obtain ⟨i6, j, M6, c6, S6⟩ := x6
  obtain rfl : i = i6 := Int.ofNat.inj e6
  have h4 : (i : Int) < (n : Int) := ow h4
  have h6 : i < n ∧ j ≤ (rw (R.map fun r => r.l) i).length ∧ MSet M6 c6 (badTo n (R.map fun r => r.l) n) ∧ Gth (badL n (R.map fun r => r.l)) S6 := h6
  change Rw Pg at r
  have hr : R.getD i Rw.nil = r := hr
  have hm : r ∈ R := by rw [← hr]; exact getD_mem (by omega)
  have hk : Rok r := hrok r hm
  have hl : r.l.length < 1000000 := hfew r hm
  have hw : rw (R.map fun r => r.l) i = r.l := by rw [rwR, hr]
  rw [hw] at h6
  have h7 : (j : Int) < (r.l.length : Int) := ow h7
  first
   | (exact inR64 (by show -9223372036854775808 ≤ (j : Int) + 1; omega) (by show (j : Int) + 1 ≤ 9223372036854775807; omega)
      done)
   | (have hj : j < (rw (R.map fun r => r.l) i).length := by rw [hw]; omega
      have hp : (rw (R.map fun r => r.l) i).getD j pg0 = r.l.getD j pg0 := by rw [hw]
      have hc : ¬ ((rw (R.map fun r => r.l) i).getD j pg0).cl = 1 := by rw [hp]; exact ow hc
      refine Stands.one (i, j + 1, M6, c6, S6) ⟨⟨by show i < n; omega, by show j + 1 ≤ (rw (R.map fun r => r.l) i).length; omega, h6.2.2⟩, by show (rw (R.map fun r => r.l) i).length - (j + 1) < (rw (R.map fun r => r.l) i).length - j; omega, ?_⟩
      (refine Tr.via ?_ ?_ ?_; rotate_left; (as_aux_lemma => (conv => rhs; reduce)); with_reducible repeat' first | exact ty | refine ta ?_ ?_ | refine ti fun _ => ?_ | refine tf fun _ => ?_ | refine tl ?_)
      all_goals first | exact vlk | exact fAt_torn hj hc | exact (fAt_torn hj hc).symm
      done))
 · rename_i x1 h1 h2 u1 u2 u3 u4 x2 h3 h4 r hr x6 h6 e6 h7 v1 hc v2
   have h4 : (x2.1 : Int) < (n : Int) := ow h4
   exact ⟨by omega, ⟨by omega, h4⟩, hrok⟩
 iterate 2 (
  focus
  rename_i x1 h1 h2 u1 u2 u3 u4 x2 h3 h4 r hr x6 h6 e6 h7 v1 hc v2 hd
  obtain ⟨i, M1, c1, S1⟩ := x2
  obtain ⟨i6, j, M6, c6, S6⟩ := x6
  obtain rfl : i = i6 := Int.ofNat.inj e6
  have h4 : (i : Int) < (n : Int) := ow h4
  have h6 : i < n ∧ j ≤ (rw (R.map fun r => r.l) i).length ∧ MSet M6 c6 (badTo n (R.map fun r => r.l) n) ∧ Gth (badL n (R.map fun r => r.l)) S6 := h6
  change Rw Pg at r
  have hr : R.getD i Rw.nil = r := hr
  have hm : r ∈ R := by rw [← hr]; exact getD_mem (by omega)
  have hk : Rok r := hrok r hm
  have hl : r.l.length < 1000000 := hfew r hm
  have hw : rw (R.map fun r => r.l) i = r.l := by rw [rwR, hr]
  rw [hw] at h6
  have h7 : (j : Int) < (r.l.length : Int) := ow h7
  first
   | (exact inR64 (by show -9223372036854775808 ≤ (j : Int) + 1; omega) (by show (j : Int) + 1 ≤ 9223372036854775807; omega)
      done)
   | (have hj : j < (rw (R.map fun r => r.l) i).length := by rw [hw]; omega
      have hp : (rw (R.map fun r => r.l) i).getD j pg0 = r.l.getD j pg0 := by rw [hw]
      have hcn : cntF n (R.map fun r => r.l) i (rw (R.map fun r => r.l) i) = (isHd i (R.getD i Rw.nil).l && !mgetB M6 i) := by rw [h6.2.2.1.get, ← rwR]
      have hc : ((rw (R.map fun r => r.l) i).getD j pg0).cl = 1 := by rw [hp]; exact Decidable.of_not_not (ov hc)
      have a1 := fAt_yes (h := mxH Me.seq) (f := allF) hj rfl hc
      have a2 := fAt_yes (h := mxH Me.stamp) (f := allF) hj rfl hc
      have a3 := fAt_yes (h := mxH Me.batch) (f := allF) hj rfl hc
      rw [hp] at a1 a2 a3
      have hd : cntF n (R.map fun r => r.l) i (rw (R.map fun r => r.l) i) = false := by rw [hcn]; exact not_t hd
      have a4 := fAt_off (h := flH) (f := cntF n (R.map fun r => r.l)) (j := j) hd
      refine Stands.one (i, j + 1, M6, c6, S6) ⟨⟨by show i < n; omega, by show j + 1 ≤ (rw (R.map fun r => r.l) i).length; omega, h6.2.2⟩, by show (rw (R.map fun r => r.l) i).length - (j + 1) < (rw (R.map fun r => r.l) i).length - j; omega, ?_⟩
      (refine Tr.via ?_ ?_ ?_; rotate_left; (as_aux_lemma => (conv => rhs; reduce)); with_reducible repeat' first | exact ty | refine ta ?_ ?_ | refine ti fun _ => ?_ | refine tf fun _ => ?_ | refine tl ?_)
      all_goals first | exact vlk | exact a1 | exact a1.symm | exact a2 | exact a2.symm | exact a3 | exact a3.symm | exact a4 | exact a4.symm
      done))
 iterate 4 (
  focus
  rename_i x1 h1 h2 u1 u2 u3 u4 x2 h3 h4 r hr x6 h6 e6 h7 v1 hc v2 hd hk4
  obtain ⟨i, M1, c1, S1⟩ := x2
  obtain ⟨i6, j, M6, c6, S6⟩ := x6
  obtain rfl : i = i6 := Int.ofNat.inj e6
  have h4 : (i : Int) < (n : Int) := ow h4
  have h6 : i < n ∧ j ≤ (rw (R.map fun r => r.l) i).length ∧ MSet M6 c6 (badTo n (R.map fun r => r.l) n) ∧ Gth (badL n (R.map fun r => r.l)) S6 := h6
  change Rw Pg at r
  have hr : R.getD i Rw.nil = r := hr
  have hm : r ∈ R := by rw [← hr]; exact getD_mem (by omega)
  have hk : Rok r := hrok r hm
  have hl : r.l.length < 1000000 := hfew r hm
  have hw : rw (R.map fun r => r.l) i = r.l := by rw [rwR, hr]
  rw [hw] at h6
  have h7 : (j : Int) < (r.l.length : Int) := ow h7
  first
   | (exact inR64 (by show -9223372036854775808 ≤ (j : Int) + 1; omega) (by show (j : Int) + 1 ≤ 9223372036854775807; omega)
      done)
   | (have hj : j < (rw (R.map fun r => r.l) i).length := by rw [hw]; omega
      have hp : (rw (R.map fun r => r.l) i).getD j pg0 = r.l.getD j pg0 := by rw [hw]
      have hcn : cntF n (R.map fun r => r.l) i (rw (R.map fun r => r.l) i) = (isHd i (R.getD i Rw.nil).l && !mgetB M6 i) := by rw [h6.2.2.1.get, ← rwR]
      have hc : ((rw (R.map fun r => r.l) i).getD j pg0).cl = 1 := by rw [hp]; exact Decidable.of_not_not (ov hc)
      have a1 := fAt_yes (h := mxH Me.seq) (f := allF) hj rfl hc
      have a2 := fAt_yes (h := mxH Me.stamp) (f := allF) hj rfl hc
      have a3 := fAt_yes (h := mxH Me.batch) (f := allF) hj rfl hc
      rw [hp] at a1 a2 a3
      have hd : cntF n (R.map fun r => r.l) i (rw (R.map fun r => r.l) i) = true := by rw [hcn]; exact not_f hd
      have a4 := fAt_yes (h := flH) (f := cntF n (R.map fun r => r.l)) hj hd hc
      rw [hp] at a4
      simp only [flH] at a4
      have hk4 : (r.l.getD j pg0).me.kind = 4 := ow hk4
      rw [if_pos hk4] at a4
      refine Stands.one (i, j + 1, M6, c6, S6) ⟨⟨by show i < n; omega, by show j + 1 ≤ (rw (R.map fun r => r.l) i).length; omega, h6.2.2⟩, by show (rw (R.map fun r => r.l) i).length - (j + 1) < (rw (R.map fun r => r.l) i).length - j; omega, ?_⟩
      (refine Tr.via ?_ ?_ ?_; rotate_left; (as_aux_lemma => (conv => rhs; reduce)); with_reducible repeat' first | exact ty | refine ta ?_ ?_ | refine ti fun _ => ?_ | refine tf fun _ => ?_ | refine tl ?_)
      all_goals first | exact vlk | exact a1 | exact a1.symm | exact a2 | exact a2.symm | exact a3 | exact a3.symm | exact a4 | exact a4.symm
      done)
   | (have hj : j < (rw (R.map fun r => r.l) i).length := by rw [hw]; omega
      have hp : (rw (R.map fun r => r.l) i).getD j pg0 = r.l.getD j pg0 := by rw [hw]
      have hcn : cntF n (R.map fun r => r.l) i (rw (R.map fun r => r.l) i) = (isHd i (R.getD i Rw.nil).l && !mgetB M6 i) := by rw [h6.2.2.1.get, ← rwR]
      have hc : ((rw (R.map fun r => r.l) i).getD j pg0).cl = 1 := by rw [hp]; exact Decidable.of_not_not (ov hc)
      have a1 := fAt_yes (h := mxH Me.seq) (f := allF) hj rfl hc
      have a2 := fAt_yes (h := mxH Me.stamp) (f := allF) hj rfl hc
      have a3 := fAt_yes (h := mxH Me.batch) (f := allF) hj rfl hc
      rw [hp] at a1 a2 a3
      have hd : cntF n (R.map fun r => r.l) i (rw (R.map fun r => r.l) i) = true := by rw [hcn]; exact not_f hd
      have a4 := fAt_yes (h := flH) (f := cntF n (R.map fun r => r.l)) hj hd hc
      rw [hp] at a4
      simp only [flH] at a4
      have hk4 : ¬ (r.l.getD j pg0).me.kind = 4 := ov hk4
      rw [if_neg hk4] at a4
      refine Stands.one (i, j + 1, M6, c6, S6) ⟨⟨by show i < n; omega, by show j + 1 ≤ (rw (R.map fun r => r.l) i).length; omega, h6.2.2⟩, by show (rw (R.map fun r => r.l) i).length - (j + 1) < (rw (R.map fun r => r.l) i).length - j; omega, ?_⟩
      (refine Tr.via ?_ ?_ ?_; rotate_left; (as_aux_lemma => (conv => rhs; reduce)); with_reducible repeat' first | exact ty | refine ta ?_ ?_ | refine ti fun _ => ?_ | refine tf fun _ => ?_ | refine tl ?_)
      all_goals first | exact vlk | exact a1 | exact a1.symm | exact a2 | exact a2.symm | exact a3 | exact a3.symm | exact a4 | exact a4.symm
      done))
 iterate 2 (
  focus
  rename_i x1 h1 h2 u1 u2 u3 u4 x2 h3 h4 r hr x6 h6 e6 h7
  obtain ⟨i, M1, c1, S1⟩ := x2
  obtain ⟨i6, j, M6, c6, S6⟩ := x6
  obtain rfl : i = i6 := Int.ofNat.inj e6
  have h4 : (i : Int) < (n : Int) := ow h4
  have h6 : i < n ∧ j ≤ (rw (R.map fun r => r.l) i).length ∧ MSet M6 c6 (badTo n (R.map fun r => r.l) n) ∧ Gth (badL n (R.map fun r => r.l)) S6 := h6
  change Rw Pg at r
  have hr : R.getD i Rw.nil = r := hr
  have hm : r ∈ R := by rw [← hr]; exact getD_mem (by omega)
  have hk : Rok r := hrok r hm
  have hl : r.l.length < 1000000 := hfew r hm
  have hw : rw (R.map fun r => r.l) i = r.l := by rw [rwR, hr]
  rw [hw] at h6
  have h7 : ¬ (j : Int) < (r.l.length : Int) := ov h7
  first
   | (exact inR64 (by show -9223372036854775808 ≤ (i : Int) + 1; omega) (by show (i : Int) + 1 ≤ 9223372036854775807; omega)
      done)
   | (have hle : (rw (R.map fun r => r.l) i).length ≤ j := by rw [hw]; omega
      refine Stands.one (i + 1, M6, c6, S6) ⟨⟨by show i + 1 ≤ n; omega, h6.2.2⟩, by show n - (i + 1) < n - i; omega, ?_⟩
      (refine Tr.via ?_ ?_ ?_; rotate_left; (as_aux_lemma => (conv => rhs; reduce)); with_reducible repeat' first | exact ty | refine ta ?_ ?_ | refine ti fun _ => ?_ | refine tf fun _ => ?_ | refine tl ?_)
      all_goals first | exact vlk | exact fAt_all hle | exact (fAt_all hle).symm
      done))
 · rename_i x1 h1 h2 u1 u2 u3 u4 x2 h3 h4
   obtain ⟨i, M1, c1, S1⟩ := x2
   have h3 : i ≤ n ∧ MSet M1 c1 (badTo n (R.map fun r => r.l) n) ∧ Gth (badL n (R.map fun r => r.l)) S1 := h3
   have h4 : ¬ (i : Int) < (n : Int) := ov h4
   have e : i = n := by omega
   subst e
   refine Ends.one (M1, c1, S1) ⟨h3.2.1, h3.2.2⟩ ?_
   (refine Tr.via ?_ ?_ ?_; rotate_left; (as_aux_lemma => (conv => rhs; reduce)); with_reducible repeat' first | exact ty | refine ta ?_ ?_ | refine ti fun _ => ?_ | refine tf fun _ => ?_ | refine tl ?_)
   all_goals exact vlk
end Go.Vx.Sc
namespace Go.Vx.Sc
open Go Go.Proofs
variable [Gl]
structure Geo where
 bs : Int
 ps : Int
 ss : Int
structure Geo.ok (g : Geo) : Prop where
 bs : 0 ≤ g.bs ∧ g.bs ≤ 64
 ps : 0 ≤ g.ps ∧ g.ps ≤ 64
 ss : 0 ≤ g.ss ∧ g.ss ≤ 536870912
abbrev gKey (g : Geo) (p : Pg) : Int := keyV g.bs g.ps g.ss p.me
def kyF (g : Geo) (p : Pg) : Bool := keyH g.bs g.ps g.ss p.me && decide (p.cl = 1)
@[irreducible] def kyd (g : Geo) (P : List Pg) : List Pg := P.filter (kyF g)
@[irreducible] def keyD (g : Geo) (P : List Pg) : List Int := (kyd g P).map (gKey g)
@[irreducible] def grpL (g : Geo) (P : List Pg) (k : Int) : List Pg := (kyd g P).filter fun p => decide (gKey g p = k)
def orF (f : Int) (p : Pg) : Bool := decide (p.cl = 1) && !alive p.me f
@[irreducible] def orfL (f : Int) (P : List Pg) : List Pl := (P.filter (orF f)).map fun p => p.pl
@[irreducible] def keyL (g : Geo) (P : List Pg) : List Int := (upTo (g.ss + g.bs + g.ps + 1).toNat).filter fun k => decide (k ∈ keyD g P)
def sloOf (g : Geo) (f : Int) (P : List Pg) (k : Int) : Slot := ⟨k, (winP f (grpL g P k)).pl, (winP f (grpL g P k)).me⟩
@[irreducible] def sloL (g : Geo) (f : Int) (P : List Pg) (K : List Int) : List Slot := (K.filter fun k => winB f (grpL g P k)).map (sloOf g f P)
section
variable {g : Geo} {f : Int} {P : List Pg} {p : Pg}
theorem kyd_yes (h : kyF g p = true) : kyd g (P ++ [p]) = kyd g P ++ [p] := by
 unfold kyd
 rw [ze, yw h, yg]
theorem kyd_no (h : kyF g p = false) : kyd g (P ++ [p]) = kyd g P := by
 unfold kyd
 rw [ze, yj (by rw [h]; exact xg), yg, zk]
theorem keyD_yes (h : kyF g p = true) : keyD g (P ++ [p]) = keyD g P ++ [gKey g p] := by
 unfold keyD
 rw [kyd_yes h, yy]; rfl
theorem keyD_no (h : kyF g p = false) : keyD g (P ++ [p]) = keyD g P := by unfold keyD; rw [kyd_no h]
theorem keyD_nil : keyD g [] = [] := by unfold keyD kyd; rfl
theorem grpL_same (h : kyF g p = true) : grpL g (P ++ [p]) (gKey g p) = grpL g P (gKey g p) ++ [p] := by
 unfold grpL
 rw [kyd_yes h, ze, yw (p := fun q => decide (gKey g q = gKey g p)) (decide_eq_true rfl), yg]
theorem grpL_other {k : Int} (h : gKey g p ≠ k) : grpL g (P ++ [p]) k = grpL g P k := by
 unfold grpL
 cases hf : kyF g p with
 | true => rw [kyd_yes hf, ze, yj (by rw [decide_eq_false h]; exact xg), yg, zk]
 | false => rw [kyd_no hf]
theorem grpL_no {k : Int} (h : kyF g p = false) : grpL g (P ++ [p]) k = grpL g P k := by
 unfold grpL
 rw [kyd_no h]
theorem grpL_len {k : Int} : (grpL g P k).length ≤ P.length := by
 unfold grpL kyd
 exact yz (xa _ _) (xa _ _)
theorem grpL_none {k : Int} (h : k ∉ keyD g P) : grpL g P k = [] := by
 unfold grpL
 rw [List.filter_eq_nil_iff]
 intro q hq e
 exact h (by unfold keyD; exact List.mem_map.2 ⟨q, hq, ow e⟩)
theorem orfL_nil : orfL f [] = [] := by unfold orfL; rfl
theorem orfL_yes (h : orF f p = true) : orfL f (P ++ [p]) = orfL f P ++ [p.pl] := by
 unfold orfL
 rw [ze, yw h, yg, yy]; rfl
theorem orfL_no (h : orF f p = false) : orfL f (P ++ [p]) = orfL f P := by
 unfold orfL
 rw [ze, yj (by rw [h]; exact xg), yg, zk]
theorem orfL_len : (orfL f P).length ≤ P.length := by
 unfold orfL
 rw [zt]; exact xa _ _
theorem keyV_range (h : g.ok) (hk : keyH g.bs g.ps g.ss p.me = true) : 0 ≤ gKey g p ∧ gKey g p < g.ss + g.bs + g.ps + 1 := by
 obtain ⟨⟨h1, h2⟩, ⟨h3, h4⟩, h5, h6⟩ := h
 unfold keyH at hk
 unfold gKey keyV
 by_cases h4 : p.me.kind = 4
 · rw [if_pos h4]; omega
 · rw [if_neg h4] at hk ⊢
   have a := ow (and_l hk)
   have b := ow (and_r hk)
   have hN : 0 ≤ (keyN g.bs g.ps g.ss p.me).1 ∧ (keyN g.bs g.ps g.ss p.me).1 + (keyN g.bs g.ps g.ss p.me).2 ≤ g.ss + g.bs + g.ps := by
    unfold keyN
    split
    · exact ⟨ui 0, by show 0 + g.ss ≤ _; omega⟩
    · split
      · exact ⟨h5, by show g.ss + g.bs ≤ _; omega⟩
      · split
        · exact ⟨by show 0 ≤ g.ss + g.bs; omega, by show g.ss + g.bs + g.ps ≤ _; omega⟩
        · exact ⟨ui 0, by show (0 : Int) + 0 ≤ _; omega⟩
   have hw : IntKind.wrap .i64 ((keyN g.bs g.ps g.ss p.me).1 + p.me.key) = (keyN g.bs g.ps g.ss p.me).1 + p.me.key := inR64 (by omega) (by omega)
   rw [hw]
   omega
theorem mem_keyL (h : g.ok) {k : Int} : k ∈ keyL g P ↔ k ∈ keyD g P := by
 unfold keyL
 rw [qn, mem_upTo, decide_eq_true_eq]
 refine ⟨fun h => h.2, fun hk => ⟨?_, hk⟩⟩
 unfold keyD kyd at hk
 obtain ⟨p, hp, rfl⟩ := List.mem_map.1 hk
 have := (List.mem_filter.1 hp).2
 have hr := keyV_range h (and_l this)
 omega
theorem rise_keyL : Rise (keyL g P) := by unfold keyL; exact (rise_upTo _).filter _
theorem sloL_zero {K : List Int} : sloL g f P (K.take 0) = [] := by unfold sloL; rfl
theorem sloL_yes {K : List Int} {j : Nat} (h : j < K.length) (hw : winB f (grpL g P (K.getD j 0)) = true) : sloL g f P (K.take (j + 1)) = sloL g f P (K.take j) ++ [sloOf g f P (K.getD j 0)] := by
 unfold sloL
 rw [take_snoc (d := 0) h, ze, yw (p := fun k => winB f (grpL g P k)) hw, yg, yy]; rfl
theorem sloL_no {K : List Int} {j : Nat} (h : j < K.length) (hw : winB f (grpL g P (K.getD j 0)) = false) : sloL g f P (K.take (j + 1)) = sloL g f P (K.take j) := by
 unfold sloL
 rw [take_snoc (d := 0) h, ze, yj (by rw [hw]; exact xg), yg, zk]
end
structure Far (x : Cx) (b : Nat) : Prop where
 grid : b ≠ x.bg
 skip : x.so = true → b ≠ x.sb
 row : ∀ y ∈ x.R, b ∉ y.blks
structure AOK (x : Cx) (g : Geo) (P : List Pg) (A : MpG) (clk : Nat) : Prop where
 keys : MKeys (d := C0 63) A clk (keyD g P)
 row : ∀ e ∈ A, e.2.1.on = true ∧ e.2.1.l = grpL g P e.1 ∧ e.2.1.l.length ≤ e.2.1.m ∧ Far x e.2.1.b
 two : ∀ e ∈ A, ∀ e' ∈ A, e.1 ≠ e'.1 → e.2.1.b ≠ e'.2.1.b
abbrev mgetG (A : MpG) (k : Int) : Rw Pg := mget (C0 3) (C0 63) A k
abbrev mputG (A : MpG) (k : Int) (r : Rw Pg) (clk : Nat) : MpG := mput (C0 3) (C0 63) A k r clk
section
variable {x : Cx} {g : Geo} {P : List Pg} {A : MpG} {clk : Nat}
theorem AOK.nil : AOK x g [] [] 0 := ⟨by rw [keyD_nil]; exact MKeys.nil, fun e he => (by cases he), fun e he => (by cases he)⟩
theorem AOK.no (h : AOK x g P A clk) {p : Pg} (hp : kyF g p = false) : AOK x g (P ++ [p]) A clk :=
 ⟨by rw [keyD_no hp]; exact h.keys, fun e he => by rw [grpL_no hp]; exact h.row e he, h.two⟩
theorem AOK.get (h : AOK x g P A clk) (k : Int) : (∃ e ∈ A, e.1 = k ∧ mgetG A k = e.2.1) ∨ (mgetG A k = Rw.nil ∧ k ∉ keyD g P) := by
 by_cases hk : k ∈ keyD g P
 · exact .inl (mget_ent (d := C0 63) ((h.keys.mem k).2 hk))
 · exact .inr ⟨mget_no (d := C0 63) fun hm => hk ((h.keys.mem k).1 hm), hk⟩
theorem AOK.rowl (h : AOK x g P A clk) (k : Int) : (mgetG A k).l = grpL g P k ∧ ((mgetG A k).on = false → (mgetG A k).l.length = 0 ∧ (mgetG A k).m = 0) ∧ (mgetG A k).l.length ≤ (mgetG A k).m := by
 rcases h.get k with ⟨e, he, rfl, hr⟩ | ⟨hr, hk⟩
 · rw [hr]
   obtain ⟨h1, h2, h3, h4⟩ := h.row e he
   exact ⟨h2, fun h0 => (by rw [h1] at h0; cases h0), h3⟩
 · rw [hr, grpL_none hk]
   exact ⟨rfl, fun _ => ⟨rfl, rfl⟩, zy _⟩
theorem AOK.put (h : AOK x g P A clk) {p : Pg} (hp : kyF g p = true) {b q c : Nat} (hc : (grpL g P (gKey g p)).length + 1 ≤ c)
 (hb : ((mgetG A (gKey g p)).on = true ∧ b = (mgetG A (gKey g p)).b) ∨ (Far x b ∧ ∀ e ∈ A, b ∉ e.2.1.blks)) :
 AOK x g (P ++ [p]) (mputG A (gKey g p) ⟨true, b, q, c, grpL g P (gKey g p) ++ [p]⟩ clk) (mclk (C0 3) (C0 63) A (gKey g p) clk) := by
 have hfar : Far x b ∧ ∀ e ∈ A, e.1 ≠ gKey g p → e.2.1.b ≠ b := by
  rcases hb with ⟨h1, rfl⟩ | ⟨h1, h2⟩
  · rcases h.get (gKey g p) with ⟨e, he, hk, hr⟩ | ⟨hr, _⟩
    · rw [hr]
      exact ⟨(h.row e he).2.2.2, fun e' he' hne => h.two e' he' e he (by rw [hk]; exact hne)⟩
    · rw [hr] at h1; cases h1
  · exact ⟨h1, fun e he _ hbe => h2 e he (by rw [← hbe]; unfold Rw.blks; rw [(h.row e he).1]; exact List.mem_singleton.2 rfl)⟩
 refine ⟨by rw [keyD_yes hp]; exact h.keys.put _ _, fun e he => ?_, fun e he e' he' hne => ?_⟩
 · rcases mput_ent h.keys.nd he with ⟨h1, h2⟩ | ⟨h1, h2⟩
   · have h1 : e.1 = gKey g p := h1
     rw [h2, h1, grpL_same hp]
     exact ⟨rfl, rfl, by show (_ ++ [p]).length ≤ c; simp; omega, hfar.1⟩
   · have h1 : e.1 ≠ gKey g p := h1
     rw [grpL_other (Ne.symm h1)]
     exact h.row e h2
 · rcases mput_ent h.keys.nd he with ⟨h1, h2⟩ | ⟨h1, h2⟩ <;> rcases mput_ent h.keys.nd he' with ⟨h3, h4⟩ | ⟨h3, h4⟩
   · exact absurd (h1.trans h3.symm) hne
   · rw [h2]
     exact Ne.symm (hfar.2 e' h4 h3)
   · rw [h4]
     exact hfar.2 e h2 h1
   · exact h.two e h2 e' h4 hne
theorem AOK.excl (h : AOK x g P A clk) {k : Int} (hon : (mgetG A k).on = true) : ∃ i, i < (A.map fun e => e.2.1).length ∧ (A.map fun e => e.2.1).getD i Rw.nil = mgetG A k ∧
 ∀ j, j < (A.map fun e => e.2.1).length → j ≠ i → (mgetG A k).b ∉ ((A.map fun e => e.2.1).getD j Rw.nil).blks := by
 rcases h.get k with ⟨e, he, rfl, hr⟩ | ⟨hr, _⟩
 · obtain ⟨i, hi, hie⟩ := td he
   have hg : ∀ j (hj : j < A.length), (A.map fun e => e.2.1).getD j Rw.nil = A[j].2.1 := by
    intro j hj
    rw [zz, zh, zv hj]; rfl
   refine ⟨i, by rw [zt]; exact hi, by rw [hg i hi, hie, hr], fun j hj hne hb => ?_⟩
   rw [zt] at hj
   rw [hg j hj, hr] at hb
   have hrow := h.row A[j] (xk hj)
   unfold Rw.blks at hb
   rw [hrow.1] at hb
   have hb : e.2.1.b = A[j].2.1.b := List.mem_singleton.1 hb
   refine h.two e he A[j] (xk hj) (fun hk => hne ?_) hb
   have hnd := h.keys.nd
   have h1 : (A.map fun e => (e.1 : Int))[j]'(by rw [zt]; exact hj) = (A.map fun e => (e.1 : Int))[i]'(by rw [zt]; exact hi) := by
    rw [ru, ru, hie]; exact hk.symm
   exact (List.getElem_inj hnd).1 h1
 · rw [hr] at hon; cases hon
end
end Go.Vx.Sc
namespace Go.Vx.Sc
open Go Go.Proofs
variable [Gl]
theorem freshL_to {b : Nat} : ∀ {m : List (Ck C0)}, allOf (freshL b m) → ∀ i, i < m.length → ((nth m i).live = true → (nth m i).block ≠ b) ∧ ∀ t y, (nth m i).cells.Has t y → b ∉ (C0 t).blks y
 | x :: r, h, i, hi => by
   obtain ⟨h1, h2⟩ := (allOf_append _ _).1 h
   obtain ⟨h2, h3⟩ := (allOf_append _ _).1 h2
   cases i with
   | zero => exact ⟨fun hl => ckOff_to h1 hl, fun t y hy => ckOffD_to h2 hy⟩
   | succ i => exact freshL_to h3 i (by simpa using hi)
theorem pgsTo_len {f : Nat → List Pg → Bool} {Q : List (List Pg)} (h : ∀ i, (rw Q i).length ≤ 1000000) : ∀ i, (pgsTo f Q i).length ≤ i * 1000000
 | 0 => zy _
 | i + 1 => by
   have h1 := pgsTo_len (f := f) h i
   have h2 := h i
   rw [pgsTo, zw]
   have h3 : (if f i (rw Q i) then rw Q i else []).length ≤ 1000000 := by
    cases f i (rw Q i) with
    | true => exact h2
    | false => exact zn _
   rw [yk]
   exact Nat.add_le_add h1 h3
theorem pgsAt_len {f : Nat → List Pg → Bool} {Q : List (List Pg)} (h : ∀ i, (rw Q i).length ≤ 1000000) (i j : Nat) : (pgsAt f Q i j).length ≤ (i + 1) * 1000000 := by
 have h1 := pgsTo_len (f := f) h i
 have h2 := h i
 unfold pgsAt
 rw [zw]
 have h3 : (if f i (rw Q i) then (rw Q i).take j else []).length ≤ 1000000 := by
  cases f i (rw Q i) with
  | true => exact yz (rj ..) h2
  | false => exact zn _
 rw [yk]
 exact Nat.add_le_add h1 h3
theorem rows_len {R : List (Rw Pg)} (h : ∀ r ∈ R, r.l.length < 1000000) (i : Nat) : (rw (R.map fun r => r.l) i).length ≤ 1000000 := by
 rw [rwR]
 by_cases hi : i < R.length
 · exact Nat.le_of_lt (h _ (getD_mem hi))
 · rw [zz, ya (by omega)]
   exact zn _
theorem byPl : Tryd.prog.types[66].bytes = 16 := by kernel_rfl
theorem bySl : Tryd.prog.types[88].bytes = 72 := by kernel_rfl
theorem Gth.room {α : Type} {A : List α} {o : Bool} {b q : Nat} {l : List α} {n c : Nat} (h : Gth A (o, b, q, l, n, c)) : n ≤ c ∧ c ≤ l.length ∧ n = A.length ∧ (o = false → n = 0 ∧ c = 0) := ⟨h.2.2.1, h.2.2.2.1, h.2.1.symm, h.2.2.2.2⟩
theorem Gth.at {α : Type} {A : List α} {o : Bool} {b q : Nat} {l : List α} {n c : Nat} (h : Gth A (o, b, q, l, n, c)) {i : Nat} {d : α} (hi : i < n) : l.getD i d = A.getD i d := by
 have e : l.take n = A := h.1
 rw [← e, tk_get hi]
theorem sd_keys {A : MpG} {clk : Nat} {g : Geo} {P : List Pg} {x : Cx} (hg : g.ok) (h : AOK x g P A clk) {y : Sq Int} (hy : SdG (A.map fun e => e.1) y) : Gth (keyL g P) y := by
 obtain ⟨L, h1, h2, h3⟩ := hy
 have : L = keyL g P := rise_one h1 rise_keyL fun k => (h2 k).trans ((h.keys.mem k).trans (mem_keyL hg).symm)
 rw [← this]; exact h3
end Go.Vx.Sc
namespace Go.Vx.Sc
open Go Go.Proofs
variable [Gl]
theorem keyD_len {g : Geo} {P : List Pg} : (keyD g P).length ≤ P.length := by
 unfold keyD kyd
 rw [zt]; exact xa _ _
theorem sloL_len {g : Geo} {f : Int} {P : List Pg} {K : List Int} : (sloL g f P K).length ≤ K.length := by
 unfold sloL
 rw [zt]; exact xa _ _
theorem keyL_len {g : Geo} {P : List Pg} (h : g.ok) : (keyL g P).length ≤ 536871100 := by
 obtain ⟨⟨h1, h2⟩, ⟨h3, h4⟩, h5, h6⟩ := h
 unfold keyL
 refine yz (xa _ _) ?_
 rw [upTo_len]; omega
end Go.Vx.Sc
namespace Go.Vx.Sc
open Go Go.Proofs
variable [Gl]
structure Nm where
 s : Int
 t : Int
 b : Int
 f : Int
abbrev geo : Cx → Geo
 | ⟨bc, qc, bs, ps, ss, so, sb, sq, sl, sn, sc, bg, qg, R, n, c, bm⟩ => ⟨bs, ps, ss⟩
abbrev outS : Nm → Sq Int → SV → SV → List SV
 | ⟨s, t, b, f⟩, (bo, bb, bq, bl, bn, bx), u, v => [u, .int .i64 s, .int .i64 t, .int .i64 b, .int .i64 f, .nils, .nils, .sl 4 0 bn bx, v]
abbrev chB : Sq Int → Ck C0
 | (bo, bb, bq, bl, bn, bx) => ⟨bb, bq, 1, true, some bo, .rows 3 bl⟩
abbrev cTo (x : Cx) (i : Nat) : List Pg := pgsTo (cntF x.n x.Q) x.Q i
abbrev cAt (x : Cx) (i j : Nat) : List Pg := pgsAt (cntF x.n x.Q) x.Q i j
def S2 (x : Cx) (v : Nm) (bd : Sq Int) (M : Bm) (clk : Nat) : Inv' C0 := ⟨2, Nat × (Nat × MpG × Nat) × Sq Pl, fun y => [(19, .int .i64 (y.1 : Int))],
 fun y _ => [chW true x (outS v bd .nils (.sl 6 0 y.2.2.2.2.2.2.1 y.2.2.2.2.2.2.2)), chG x, chM true x M clk, chS x, chB bd, ⟨y.2.1.1, 0, 0, true, none, .mp 3 63 y.2.1.2.1 y.2.1.2.2⟩, ⟨y.2.2.2.1, y.2.2.2.2.1, 2, true, some y.2.2.1, .rows 66 y.2.2.2.2.2.1⟩],
 fun y => y.1 ≤ x.n ∧ AOK x (geo x) (cTo x y.1) y.2.1.2.1 y.2.1.2.2 ∧ Gth (orfL v.f (cTo x y.1)) y.2.2, fun y => x.n - y.1⟩
def S6 (x : Cx) (v : Nm) (bd : Sq Int) (M : Bm) (clk : Nat) : Inv' C0 := ⟨6, Nat × Nat × (Nat × MpG × Nat) × Sq Pl, fun y => [(19, .int .i64 (y.1 : Int)), (30, .int .i64 (y.2.1 : Int))],
 fun y m => match m with
  | _ :: _ :: _ :: _ :: _ :: _ :: _ :: g :: _ => [chW true x (outS v bd .nils (.sl 6 0 y.2.2.2.2.2.2.2.1 y.2.2.2.2.2.2.2.2)), chG x, chM true x M clk, chS x, chB bd, ⟨y.2.2.1.1, 0, 0, true, none, .mp 3 63 y.2.2.1.2.1 y.2.2.1.2.2⟩, ⟨y.2.2.2.2.1, y.2.2.2.2.2.1, 2, true, some y.2.2.2.1, .rows 66 y.2.2.2.2.2.2.1⟩, g]
  | _ => [],
 fun y => y.1 < x.n ∧ y.2.1 ≤ (rw x.Q y.1).length ∧ cntF x.n x.Q y.1 (rw x.Q y.1) = true ∧ AOK x (geo x) (cAt x y.1 y.2.1) y.2.2.1.2.1 y.2.2.1.2.2 ∧ Gth (orfL v.f (cAt x y.1 y.2.1)) y.2.2.2, fun y => (rw x.Q y.1).length - y.2.1⟩
def S16 (x : Cx) (v : Nm) (bd : Sq Int) (M : Bm) (clk : Nat) : Inv' C0 := ⟨16, Nat × Sq Slot, fun y => [(88, .int .i64 (y.1 : Int))],
 fun y m => match m with
  | ⟨b0, q0, _, _, _, .one [a1, a2, a3, a4, a5, a6, _, a8, a9, a10, a11, a12, a13, a14, a15]⟩ :: c1 :: c2 :: c3 :: c4 :: c5 :: c6 :: c7 :: c8 :: _ =>
    [⟨b0, q0, 15, true, none, .one [a1, a2, a3, a4, a5, a6, .sl 9 0 y.2.2.2.2.2.1 y.2.2.2.2.2.2, a8, a9, a10, a11, a12, a13, a14, a15]⟩, c1, c2, c3, c4, c5, c6, c7, c8, ⟨y.2.2.1, y.2.2.2.1, 9, true, some y.2.1, .rows 88 y.2.2.2.2.1⟩]
  | _ => [],
 fun y => y.1 ≤ (keyL (geo x) (cTo x x.n)).length ∧ Gth (sloL (geo x) v.f (cTo x x.n) ((keyL (geo x) (cTo x x.n)).take y.1)) y.2, fun y => (keyL (geo x) (cTo x x.n)).length - y.1⟩
abbrev sloO (x : Cx) (v : Nm) (bd : Sq Int) (M : Bm) (clk : Nat) : Sq Slot × Sq Pl → List (Ck C0)
 | ((so, sb, sq, sl, sn, sc), (po, pb, pq, pl, pn, pc)) => [chW true x (outS v bd (.sl 5 0 sn sc) (.sl 6 0 pn pc)), chG x, chM true x M clk, chS x, chB bd, ⟨sb, sq, 9, true, some so, .rows 88 sl⟩, ⟨pb, pq, 2, true, some po, .rows 66 pl⟩]
abbrev pl10 : List Tk := [.p 0, .p 1, .p 2, .p 3, .p 4, .p 5, .p 6, .p 7, .e 8, .e 9, .p 10, .p 11, .p 12, .f 13]
abbrev pl18 : List Tk := [.p 0, .p 1, .p 2, .p 3, .p 4, .p 5, .p 6, .p 7, .t (.two 8 (PTree.of [.p 9, .p 10, .p 11, .e 12, .e 13, .p 14]) 12 (PTree.of [.e 8, .p 9, .p 10, .p 11, .e 13, .p 14]))]
theorem rowK {R : List (Rw Pg)} {i : Nat} {r : Rw Pg} (hr : R.getD i Rw.nil = r) (hi : i < R.length) (hrok : ∀ r ∈ R, Rok r) (hfew : ∀ r ∈ R, r.l.length < 1000000) : r ∈ R ∧ Rok r ∧ r.l.length < 1000000 ∧ rw (R.map fun r => r.l) i = r.l := by
 have hm : r ∈ R := by rw [← hr]; exact getD_mem hi
 exact ⟨hm, hrok r hm, hfew r hm, by rw [rwR, hr]⟩
theorem rowA {x : Cx} {g : Geo} {A : MpG} {k i j : Nat} {y : Int} {r : Rw Pg} (ho : AOK x g (cAt x i j) A k) (hfew : ∀ r ∈ x.R, r.l.length < 1000000) (hr : mgetG A y = r) : (r.l = grpL g (cAt x i j) y ∧ (r.on = false → r.l.length = 0 ∧ r.m = 0) ∧ r.l.length ≤ r.m) ∧ r.l.length ≤ (i + 1) * 1000000 := by
 have hg := ho.rowl y
 rw [hr] at hg
 exact ⟨hg, by rw [hg.1]; exact yz grpL_len (pgsAt_len (rows_len hfew) i j)⟩
theorem rowT {x : Cx} {g : Geo} {A : MpG} {k i : Nat} {y : Int} {r : Rw Pg} (ho : AOK x g (cTo x i) A k) (hfew : ∀ r ∈ x.R, r.l.length < 1000000) (hr : mgetG A y = r) : (r.l = grpL g (cTo x i) y ∧ (r.on = false → r.l.length = 0 ∧ r.m = 0) ∧ r.l.length ≤ r.m) ∧ r.l.length ≤ i * 1000000 ∧ r.l.take r.l.length = grpL g (cTo x i) y := by
 have hg := ho.rowl y
 rw [hr] at hg
 exact ⟨hg, by rw [hg.1]; exact yz grpL_len (pgsTo_len (rows_len hfew) i), by rw [zu (zy _), hg.1]⟩
theorem stepK {x : Cx} {g : Geo} {A : MpG} {k i j : Nat} {r : Rw Pg} (_ : AOK x g (cAt x i j) A k) (hw : rw x.Q i = r.l) (hj : j < r.l.length) (hc : cntF x.n x.Q i r.l = true) : j < (rw x.Q i).length ∧ cntF x.n x.Q i (rw x.Q i) = true ∧ cAt x i (j + 1) = cAt x i j ++ [r.l.getD j pg0] := by
 have h : cntF x.n x.Q i (rw x.Q i) = true := by rw [hw]; exact hc
 exact ⟨by rw [hw]; exact hj, h, (pgsAt_yes (f := cntF x.n x.Q) (by rw [hw]; exact hj) h).trans (by rw [hw])⟩
theorem inS {j : Nat} (h : j < 1000000000000) : inR .i64 ((j : Int) + 1) := inR64 (by omega) (by omega)
set_option maxHeartbeats 64000000 in
theorem slots_ok (x : Cx) (h : x.ok) (v : Nm) (bd : Sq Int) (M : Bm) (clk : Nat) (hM : MSet M clk (badTo x.n x.Q x.n)) :
 Does (C := C0) Tryd.prog (.fn 54) [chW true x (outS v bd .nils .nils), chG x, chM true x M clk, chS x, chB bd] [.ptr 0 0 0]
 [⟨Sq Slot × Sq Pl, fun y => Gth (sloL (geo x) v.f (cTo x x.n) (keyL (geo x) (cTo x x.n))) y.1 ∧ Gth (orfL v.f (cTo x x.n)) y.2, fun _ => .tup [], fun y => sloO x v bd M clk y⟩] := by
 obtain ⟨bc, qc, bs, ps, ss, so, sb, sq, sl, sn, sc, bg, qg, R, n, c, bm⟩ := x
 obtain ⟨vs, vt, vb, vf⟩ := v
 obtain ⟨bo, bb, bq, bl, bn, bx⟩ := bd
 have hbs : bs = (n : Int) := h.bs
 have hn : n = R.length := h.n
 have hn64 : n ≤ 64 := h.n64
 have hps : 0 ≤ ps ∧ ps ≤ 64 := h.ps
 have hss : 0 ≤ ss ∧ ss ≤ 536870912 := h.ss
 have hgeo : Geo.ok ⟨bs, ps, ss⟩ := ⟨⟨by show 0 ≤ bs; omega, by show bs ≤ 64; omega⟩, hps, hss⟩
 have hrok : ∀ r ∈ R, Rok r := h.rok
 have hfew : ∀ r ∈ R, r.l.length < 1000000 := h.few
 refine loc_fn (P := Tryd.prog) (E := ⟨[fcKeysG, fcSortedG], [pcCounts, pcKey, pcAlive, pcWinner], 123, [(12, [0, 1000006], pl10), (18, [0, 5], pl18), (20, [0, 1000011], sloB)], [fG], []⟩) (L := [S2 ⟨bc, qc, bs, ps, ss, so, sb, sq, sl, sn, sc, bg, qg, R, n, c, bm⟩ ⟨vs, vt, vb, vf⟩ (bo, bb, bq, bl, bn, bx) M clk, S6 ⟨bc, qc, bs, ps, ss, so, sb, sq, sl, sn, sc, bg, qg, R, n, c, bm⟩ ⟨vs, vt, vb, vf⟩ (bo, bb, bq, bl, bn, bx) M clk, S16 ⟨bc, qc, bs, ps, ss, so, sb, sq, sl, sn, sc, bg, qg, R, n, c, bm⟩ ⟨vs, vt, vb, vf⟩ (bo, bb, bq, bl, bn, bx) M clk]) mix Tryd.func54 rfl (by kernel_rfl) (by kernel_rfl) rfl rfl ?_
 ((conv => arg 1; reduce); with_reducible repeat' first | exact ty | refine ta ?_ ?_ | refine ti fun _ => ?_ | refine tf fun _ => ?_ | refine tl ?_)
 all_goals try exact vlk
 · rename_i am0
   refine Stands.one (0, (am0, [], 0), (false, 0, 0, [], 0, 0)) ⟨⟨zn _, AOK.nil, by show Gth (orfL vf []) _; rw [orfL_nil]; exact Gth.nil⟩, ?_⟩
   exact vgk
 iterate 2 (
  focus
  rename_i u0 x2 h2 h3
  obtain ⟨i, ⟨a1, A1, k1⟩, O1⟩ := x2
  have h2 : i ≤ n ∧ AOK _ _ (cTo _ i) A1 k1 ∧ Gth (orfL vf (cTo _ i)) O1 := h2
  have h3 : (i : Int) < (n : Int) := ow h3
  first
   | (exact h3
      done)
   | (show i < R.length
      omega
      done))
 · rename_i u0 x2 h2 h3 r hr
   obtain ⟨i, ⟨a1, A1, k1⟩, O1⟩ := x2
   have h2 : i ≤ n ∧ AOK _ _ (cTo _ i) A1 k1 ∧ Gth (orfL vf (cTo _ i)) O1 := h2
   have h3 : (i : Int) < (n : Int) := ow h3
   change Rw Pg at r
   have hr : R.getD i Rw.nil = r := hr
   obtain ⟨hm, hk, hl, hw⟩ := rowK hr (by omega) hrok hfew
   exact ⟨by omega, ⟨by omega, h3⟩, hrok⟩
 iterate 3 (
  focus
  rename_i u0 x2 h2 h3 r hr hcn
  obtain ⟨i, ⟨a1, A1, k1⟩, O1⟩ := x2
  have h2 : i ≤ n ∧ AOK _ _ (cTo _ i) A1 k1 ∧ Gth (orfL vf (cTo _ i)) O1 := h2
  have h3 : (i : Int) < (n : Int) := ow h3
  change Rw Pg at r
  have hr : R.getD i Rw.nil = r := hr
  obtain ⟨hm, hk, hl, hw⟩ := rowK hr (by omega) hrok hfew
  have hcq : cntF n (R.map fun r => r.l) i (rw (R.map fun r => r.l) i) = (isHd i (R.getD i Rw.nil).l && !mgetB M i) := by rw [hM.get, ← rwR]
  first
   | (exact inS (j := i) (by omega)
      done)
   | (have hc0 : cntF n (R.map fun r => r.l) i (rw (R.map fun r => r.l) i) = false := by rw [hcq]; exact not_t hcn
      have hP : cTo ⟨bc, qc, bs, ps, ss, so, sb, sq, sl, sn, sc, bg, qg, R, n, c, bm⟩ (i + 1) = cTo ⟨bc, qc, bs, ps, ss, so, sb, sq, sl, sn, sc, bg, qg, R, n, c, bm⟩ i := by
       show pgsTo _ _ i ++ _ = _
       rw [if_neg (by rw [hc0]; exact xg), zk]
      refine Stands.one (i + 1, (a1, A1, k1), O1) ⟨⟨by show i + 1 ≤ n; omega, by show AOK _ _ (cTo _ (i + 1)) A1 k1; rw [hP]; exact h2.2.1, by show Gth (orfL vf (cTo _ (i + 1))) O1; rw [hP]; exact h2.2.2⟩, by show n - (i + 1) < n - i; omega, ?_⟩
      exact vgk
      done)
   | (have hc1 : cntF n (R.map fun r => r.l) i (rw (R.map fun r => r.l) i) = true := by rw [hcq]; exact not_f hcn
      have hP : cAt ⟨bc, qc, bs, ps, ss, so, sb, sq, sl, sn, sc, bg, qg, R, n, c, bm⟩ i 0 = cTo ⟨bc, qc, bs, ps, ss, so, sb, sq, sl, sn, sc, bg, qg, R, n, c, bm⟩ i := pgsAt_zero
      refine Stands.one (i, 0, (a1, A1, k1), O1) ⟨⟨by show i < n; omega, zn _, hc1, by show AOK _ _ (cAt _ i 0) A1 k1; rw [hP]; exact h2.2.1, by show Gth (orfL vf (cAt _ i 0)) O1; rw [hP]; exact h2.2.2⟩, ?_⟩
      exact vgk
      done))
 iterate 4 (
  focus
  rename_i u0 x2 h2 h3 r hr hcn x6 h6 e6 h7
  obtain ⟨i, ⟨a1, A1, k1⟩, O1⟩ := x2
  obtain ⟨i6, j, ⟨a6, A6, k6⟩, oo, ob, oq, ol, on, oc⟩ := x6
  obtain rfl : i = i6 := Int.ofNat.inj e6
  have h3 : (i : Int) < (n : Int) := ow h3
  have h6 : i < n ∧ j ≤ (rw _ i).length ∧ cntF n _ i (rw _ i) = true ∧ AOK _ _ (cAt _ i j) A6 k6 ∧ Gth (orfL vf (cAt _ i j)) (oo, ob, oq, ol, on, oc) := h6
  change Rw Pg at r
  have hr : R.getD i Rw.nil = r := hr
  obtain ⟨hm, hk, hl, hw⟩ := rowK hr (by omega) hrok hfew
  rw [hw] at h6
  have h7 : (j : Int) < (r.l.length : Int) := ow h7
  first
   | (exact on_of (o := r.on) hk.1 (by show 0 < r.l.length; omega)
      done)
   | (exact h7
      done)
   | (show j < r.l.length
      omega
      done))
 · rename_i u0 x2 h2 h3 r hr hcn x6 h6 e6 h7 u4
   obtain ⟨i, ⟨a1, A1, k1⟩, O1⟩ := x2
   obtain ⟨i6, j, ⟨a6, A6, k6⟩, oo, ob, oq, ol, on, oc⟩ := x6
   obtain rfl : i = i6 := Int.ofNat.inj e6
   have h3 : (i : Int) < (n : Int) := ow h3
   have h6 : i < n ∧ j ≤ (rw _ i).length ∧ cntF n _ i (rw _ i) = true ∧ AOK _ _ (cAt _ i j) A6 k6 ∧ Gth (orfL vf (cAt _ i j)) (oo, ob, oq, ol, on, oc) := h6
   change Rw Pg at r
   have hr : R.getD i Rw.nil = r := hr
   obtain ⟨hm, hk, hl, hw⟩ := rowK hr (by omega) hrok hfew
   rw [hw] at h6
   have h7 : (j : Int) < (r.l.length : Int) := ow h7
   exact ⟨by omega, by omega, hps.1, hps.2, hss.1, hss.2⟩
 iterate 3 (
  focus
  rename_i u0 x2 h2 h3 r hr hcn x6 h6 e6 h7 u4 hky rA hrA u5
  obtain ⟨i, ⟨a1, A1, k1⟩, O1⟩ := x2
  obtain ⟨i6, j, ⟨a6, A6, k6⟩, oo, ob, oq, ol, on, oc⟩ := x6
  obtain rfl : i = i6 := Int.ofNat.inj e6
  have h3 : (i : Int) < (n : Int) := ow h3
  have h6 : i < n ∧ j ≤ (rw _ i).length ∧ cntF n _ i (rw _ i) = true ∧ AOK _ _ (cAt _ i j) A6 k6 ∧ Gth (orfL vf (cAt _ i j)) (oo, ob, oq, ol, on, oc) := h6
  change Rw Pg at r
  have hr : R.getD i Rw.nil = r := hr
  obtain ⟨hm, hk, hl, hw⟩ := rowK hr (by omega) hrok hfew
  rw [hw] at h6
  have h7 : (j : Int) < (r.l.length : Int) := ow h7
  have hky : kyF ⟨bs, ps, ss⟩ (r.l.getD j pg0) = true := hky
  change Rw Pg at rA
  have hrA : mgetG A6 (gKey ⟨bs, ps, ss⟩ (r.l.getD j pg0)) = rA := hrA
  have ho := h6.2.2.2.1
  obtain ⟨hg, hgl⟩ := rowA ho hfew hrA
  first
   | (show rA.l.length = rA.l.length ∧ rA.l.length ≤ rA.m ∧ 0 + 1 ≤ _ ∧ 1 = 1 ∧ (rA.l.length + 1) * Tryd.prog.types[70].bytes ≤ _
      rw [byP]
      exact ⟨rfl, hg.2.2, (zy 1 : 0 + 1 ≤ 1), rfl, by omega⟩
      done)
   | (exact hg.2.1
      done)
   | (intro hon hroom
      have hon : (mgetG A6 (gKey ⟨bs, ps, ss⟩ (r.l.getD j pg0))).on = true := by rw [hrA]; exact hon
      obtain ⟨i0, g1, g2, g3⟩ := ho.excl hon
      rw [hrA] at g2 g3
      rw [hrA] at hon
      have hfar : Far ⟨bc, qc, bs, ps, ss, so, sb, sq, sl, sn, sc, bg, qg, R, n, c, bm⟩ rA.b := by
       rcases ho.get (gKey ⟨bs, ps, ss⟩ (r.l.getD j pg0)) with ⟨e, he, _, hre⟩ | ⟨hre, _⟩
       · rw [hrA] at hre
         rw [hre]; exact (ho.row e he).2.2.2
       · rw [hrA] at hre
         rw [hre] at hon; cases hon
      refine ⟨⟨i0, g1, ?_, g3⟩, And.intro (Ne.symm hfar.grid) (And.intro hfar.row (And.intro (fun hso => Ne.symm (hfar.skip hso)) (And.intro (fun hro => ?_) trivial)))⟩
      · refine g2.trans ?_
        show rA = ⟨true, rA.b, rA.base, rA.m, rA.l⟩
        rw [← hon]
      · intro e
        exact hfar.row r hm (by unfold Rw.blks; rw [hro]; exact List.mem_singleton.2 e.symm)
      done))
 · rename_i u0 x2 h2 h3 r hr hcn x6 h6 e6 h7 u4 hky rA hrA u5 bA qA cA hcA hS
   obtain ⟨i, ⟨a1, A1, k1⟩, O1⟩ := x2
   obtain ⟨i6, j, ⟨a6, A6, k6⟩, oo, ob, oq, ol, on, oc⟩ := x6
   obtain rfl : i = i6 := Int.ofNat.inj e6
   have h3 : (i : Int) < (n : Int) := ow h3
   have h6 : i < n ∧ j ≤ (rw _ i).length ∧ cntF n _ i (rw _ i) = true ∧ AOK _ _ (cAt _ i j) A6 k6 ∧ Gth (orfL vf (cAt _ i j)) (oo, ob, oq, ol, on, oc) := h6
   change Rw Pg at r
   have hr : R.getD i Rw.nil = r := hr
   obtain ⟨hm, hk, hl, hw⟩ := rowK hr (by omega) hrok hfew
   rw [hw] at h6
   have h7 : (j : Int) < (r.l.length : Int) := ow h7
   have hky : kyF ⟨bs, ps, ss⟩ (r.l.getD j pg0) = true := hky
   change Rw Pg at rA
   have hrA : mgetG A6 (gKey ⟨bs, ps, ss⟩ (r.l.getD j pg0)) = rA := hrA
   have ho := h6.2.2.2.1
   obtain ⟨hg, hgl⟩ := rowA ho hfew hrA
   show rA.l.length + 1 = (rA.l ++ [r.l.getD j pg0]).length
   simp
 iterate 2 (
  focus
  rename_i u0 x2 h2 h3 r hr hcn x6 h6 e6 h7 u4 hky rA hrA u5 bA qA cA hcA hS hal u6
  obtain ⟨i, ⟨a1, A1, k1⟩, O1⟩ := x2
  obtain ⟨i6, j, ⟨a6, A6, k6⟩, oo, ob, oq, ol, on, oc⟩ := x6
  obtain rfl : i = i6 := Int.ofNat.inj e6
  have h3 : (i : Int) < (n : Int) := ow h3
  have h6 : i < n ∧ j ≤ (rw _ i).length ∧ cntF n _ i (rw _ i) = true ∧ AOK _ _ (cAt _ i j) A6 k6 ∧ Gth (orfL vf (cAt _ i j)) (oo, ob, oq, ol, on, oc) := h6
  change Rw Pg at r
  have hr : R.getD i Rw.nil = r := hr
  obtain ⟨hm, hk, hl, hw⟩ := rowK hr (by omega) hrok hfew
  rw [hw] at h6
  have h7 : (j : Int) < (r.l.length : Int) := ow h7
  have hky : kyF ⟨bs, ps, ss⟩ (r.l.getD j pg0) = true := hky
  change Rw Pg at rA
  have hrA : mgetG A6 (gKey ⟨bs, ps, ss⟩ (r.l.getD j pg0)) = rA := hrA
  have ho := h6.2.2.2.1
  obtain ⟨hg, hgl⟩ := rowA ho hfew hrA
  first
   | (have hO := h6.2.2.2.2.room
      have hol := orfL_len (f := vf) (P := cAt ⟨bc, qc, bs, ps, ss, so, sb, sq, sl, sn, sc, bg, qg, R, n, c, bm⟩ i j)
      have hPl := pgsAt_len (f := cntF n (R.map fun r => r.l)) (rows_len hfew) i j
      have hon : on ≤ (i + 1) * 1000000 := by rw [hO.2.2.1]; exact yz hol hPl
      rw [byPl]
      exact ⟨hO.1, by show 0 + oc ≤ ol.length; omega, by simp, by show (on + 1) * 16 ≤ _; omega⟩
      done)
   | (exact h6.2.2.2.2.room.2.2.2
      done))
 iterate 2 (
  focus
  rename_i u0 x2 h2 h3 r hr hcn x6 h6 e6 h7 u4 hky rA hrA u5 bA qA cA hcA hS hal u6 b9 q9 sp cp hc1 hc2
  obtain ⟨i, ⟨a1, A1, k1⟩, O1⟩ := x2
  obtain ⟨i6, j, ⟨a6, A6, k6⟩, oo, ob, oq, ol, on, oc⟩ := x6
  obtain rfl : i = i6 := Int.ofNat.inj e6
  have h3 : (i : Int) < (n : Int) := ow h3
  have h6 : i < n ∧ j ≤ (rw _ i).length ∧ cntF n _ i (rw _ i) = true ∧ AOK _ _ (cAt _ i j) A6 k6 ∧ Gth (orfL vf (cAt _ i j)) (oo, ob, oq, ol, on, oc) := h6
  change Rw Pg at r
  have hr : R.getD i Rw.nil = r := hr
  obtain ⟨hm, hk, hl, hw⟩ := rowK hr (by omega) hrok hfew
  rw [hw] at h6
  have h7 : (j : Int) < (r.l.length : Int) := ow h7
  have hky : kyF ⟨bs, ps, ss⟩ (r.l.getD j pg0) = true := hky
  change Rw Pg at rA
  have hrA : mgetG A6 (gKey ⟨bs, ps, ss⟩ (r.l.getD j pg0)) = rA := hrA
  have ho := h6.2.2.2.1
  obtain ⟨hg, hgl⟩ := rowA ho hfew hrA
  first
   | (exact inS (j := j) (by omega)
      done)
   | (obtain ⟨hj, hcnt, hP⟩ := stepK h6.2.2.2.1 hw (Int.ofNat_lt.1 h7) h6.2.2.1
      have hput : AOK ⟨bc, qc, bs, ps, ss, so, sb, sq, sl, sn, sc, bg, qg, R, n, c, bm⟩ ⟨bs, ps, ss⟩ (cAt ⟨bc, qc, bs, ps, ss, so, sb, sq, sl, sn, sc, bg, qg, R, n, c, bm⟩ i (j + 1)) (mputG A6 (gKey ⟨bs, ps, ss⟩ (r.l.getD j pg0)) ⟨true, bA, qA, cA, rA.l ++ [r.l.getD j pg0]⟩ k6) (mclk (C0 3) (C0 63) A6 (gKey ⟨bs, ps, ss⟩ (r.l.getD j pg0)) k6) := by
       rw [hP, hg.1]
       refine ho.put hky (by rw [← hg.1]; exact hcA) ?_
       rw [hrA]
       rcases hS with hS | hS
       · exact .inl ⟨hS.1, hS.2.2.1⟩
       · have hF := freshL_to hS
         refine .inr ⟨⟨fun e => (hF 1 (show 1 < 11 by decide)).1 rfl e.symm, fun hso e => (hF 3 (show 3 < 11 by decide)).1 hso e.symm, fun y hy => (hF 1 (show 1 < 11 by decide)).2 63 y (.rows hy)⟩, fun e he => (hF 5 (show 5 < 11 by decide)).2 63 e.2.1 (.inr ⟨3, A6, k6, rfl, e, he, rfl⟩)⟩
      have hal : orF vf (r.l.getD j pg0) = true := hal
      have horf : Gth (orfL vf (cAt ⟨bc, qc, bs, ps, ss, so, sb, sq, sl, sn, sc, bg, qg, R, n, c, bm⟩ i (j + 1))) (true, b9, q9, ol.take on ++ [(r.l.getD j pg0).pl] ++ sp, on + 1, cp) := by
       rw [hP, orfL_yes hal]
       exact h6.2.2.2.2.snoc hc1 hc2
      refine Stands.one (i, j + 1, (a6, mputG A6 (gKey ⟨bs, ps, ss⟩ (r.l.getD j pg0)) ⟨true, bA, qA, cA, rA.l ++ [r.l.getD j pg0]⟩ k6, mclk (C0 3) (C0 63) A6 (gKey ⟨bs, ps, ss⟩ (r.l.getD j pg0)) k6), (true, b9, q9, ol.take on ++ [(r.l.getD j pg0).pl] ++ sp, on + 1, cp)) ⟨⟨by show i < n; omega, hj, hcnt, hput, horf⟩, vy hj (wi j), ?_⟩
      exact vgk
      done))
 iterate 2 (
  focus
  rename_i u0 x2 h2 h3 r hr hcn x6 h6 e6 h7 u4 hky rA hrA u5 bA qA cA hcA hS hal
  obtain ⟨i, ⟨a1, A1, k1⟩, O1⟩ := x2
  obtain ⟨i6, j, ⟨a6, A6, k6⟩, oo, ob, oq, ol, on, oc⟩ := x6
  obtain rfl : i = i6 := Int.ofNat.inj e6
  have h3 : (i : Int) < (n : Int) := ow h3
  have h6 : i < n ∧ j ≤ (rw _ i).length ∧ cntF n _ i (rw _ i) = true ∧ AOK _ _ (cAt _ i j) A6 k6 ∧ Gth (orfL vf (cAt _ i j)) (oo, ob, oq, ol, on, oc) := h6
  change Rw Pg at r
  have hr : R.getD i Rw.nil = r := hr
  obtain ⟨hm, hk, hl, hw⟩ := rowK hr (by omega) hrok hfew
  rw [hw] at h6
  have h7 : (j : Int) < (r.l.length : Int) := ow h7
  have hky : kyF ⟨bs, ps, ss⟩ (r.l.getD j pg0) = true := hky
  change Rw Pg at rA
  have hrA : mgetG A6 (gKey ⟨bs, ps, ss⟩ (r.l.getD j pg0)) = rA := hrA
  have ho := h6.2.2.2.1
  obtain ⟨hg, hgl⟩ := rowA ho hfew hrA
  first
   | (exact inS (j := j) (by omega)
      done)
   | (obtain ⟨hj, hcnt, hP⟩ := stepK h6.2.2.2.1 hw (Int.ofNat_lt.1 h7) h6.2.2.1
      have hput : AOK ⟨bc, qc, bs, ps, ss, so, sb, sq, sl, sn, sc, bg, qg, R, n, c, bm⟩ ⟨bs, ps, ss⟩ (cAt ⟨bc, qc, bs, ps, ss, so, sb, sq, sl, sn, sc, bg, qg, R, n, c, bm⟩ i (j + 1)) (mputG A6 (gKey ⟨bs, ps, ss⟩ (r.l.getD j pg0)) ⟨true, bA, qA, cA, rA.l ++ [r.l.getD j pg0]⟩ k6) (mclk (C0 3) (C0 63) A6 (gKey ⟨bs, ps, ss⟩ (r.l.getD j pg0)) k6) := by
       rw [hP, hg.1]
       refine ho.put hky (by rw [← hg.1]; exact hcA) ?_
       rw [hrA]
       rcases hS with hS | hS
       · exact .inl ⟨hS.1, hS.2.2.1⟩
       · have hF := freshL_to hS
         refine .inr ⟨⟨fun e => (hF 1 (show 1 < 11 by decide)).1 rfl e.symm, fun hso e => (hF 3 (show 3 < 11 by decide)).1 hso e.symm, fun y hy => (hF 1 (show 1 < 11 by decide)).2 63 y (.rows hy)⟩, fun e he => (hF 5 (show 5 < 11 by decide)).2 63 e.2.1 (.inr ⟨3, A6, k6, rfl, e, he, rfl⟩)⟩
      have hal : orF vf (r.l.getD j pg0) = false := hal
      have horf : Gth (orfL vf (cAt ⟨bc, qc, bs, ps, ss, so, sb, sq, sl, sn, sc, bg, qg, R, n, c, bm⟩ i (j + 1))) (oo, ob, oq, ol, on, oc) := by
       rw [hP, orfL_no hal]
       exact h6.2.2.2.2
      refine Stands.one (i, j + 1, (a6, mputG A6 (gKey ⟨bs, ps, ss⟩ (r.l.getD j pg0)) ⟨true, bA, qA, cA, rA.l ++ [r.l.getD j pg0]⟩ k6, mclk (C0 3) (C0 63) A6 (gKey ⟨bs, ps, ss⟩ (r.l.getD j pg0)) k6), (oo, ob, oq, ol, on, oc)) ⟨⟨by show i < n; omega, hj, hcnt, hput, horf⟩, vy hj (wi j), ?_⟩
      exact vgk
      done))
 iterate 2 (
  focus
  rename_i u0 x2 h2 h3 r hr hcn x6 h6 e6 h7 u4 hky hal u6
  obtain ⟨i, ⟨a1, A1, k1⟩, O1⟩ := x2
  obtain ⟨i6, j, ⟨a6, A6, k6⟩, oo, ob, oq, ol, on, oc⟩ := x6
  obtain rfl : i = i6 := Int.ofNat.inj e6
  have h3 : (i : Int) < (n : Int) := ow h3
  have h6 : i < n ∧ j ≤ (rw _ i).length ∧ cntF n _ i (rw _ i) = true ∧ AOK _ _ (cAt _ i j) A6 k6 ∧ Gth (orfL vf (cAt _ i j)) (oo, ob, oq, ol, on, oc) := h6
  change Rw Pg at r
  have hr : R.getD i Rw.nil = r := hr
  obtain ⟨hm, hk, hl, hw⟩ := rowK hr (by omega) hrok hfew
  rw [hw] at h6
  have h7 : (j : Int) < (r.l.length : Int) := ow h7
  first
   | (have hO := h6.2.2.2.2.room
      have hol := orfL_len (f := vf) (P := cAt ⟨bc, qc, bs, ps, ss, so, sb, sq, sl, sn, sc, bg, qg, R, n, c, bm⟩ i j)
      have hPl := pgsAt_len (f := cntF n (R.map fun r => r.l)) (rows_len hfew) i j
      have hon : on ≤ (i + 1) * 1000000 := by rw [hO.2.2.1]; exact yz hol hPl
      rw [byPl]
      exact ⟨hO.1, by show 0 + oc ≤ ol.length; omega, by simp, by show (on + 1) * 16 ≤ _; omega⟩
      done)
   | (exact h6.2.2.2.2.room.2.2.2
      done))
 iterate 2 (
  focus
  rename_i u0 x2 h2 h3 r hr hcn x6 h6 e6 h7 u4 hky hal u6 b9 q9 sp cp hc1 hc2
  obtain ⟨i, ⟨a1, A1, k1⟩, O1⟩ := x2
  obtain ⟨i6, j, ⟨a6, A6, k6⟩, oo, ob, oq, ol, on, oc⟩ := x6
  obtain rfl : i = i6 := Int.ofNat.inj e6
  have h3 : (i : Int) < (n : Int) := ow h3
  have h6 : i < n ∧ j ≤ (rw _ i).length ∧ cntF n _ i (rw _ i) = true ∧ AOK _ _ (cAt _ i j) A6 k6 ∧ Gth (orfL vf (cAt _ i j)) (oo, ob, oq, ol, on, oc) := h6
  change Rw Pg at r
  have hr : R.getD i Rw.nil = r := hr
  obtain ⟨hm, hk, hl, hw⟩ := rowK hr (by omega) hrok hfew
  rw [hw] at h6
  have h7 : (j : Int) < (r.l.length : Int) := ow h7
  first
   | (exact inS (j := j) (by omega)
      done)
   | (obtain ⟨hj, hcnt, hP⟩ := stepK h6.2.2.2.1 hw (Int.ofNat_lt.1 h7) h6.2.2.1
      have hky : kyF ⟨bs, ps, ss⟩ (r.l.getD j pg0) = false := hky
      have hput : AOK ⟨bc, qc, bs, ps, ss, so, sb, sq, sl, sn, sc, bg, qg, R, n, c, bm⟩ ⟨bs, ps, ss⟩ (cAt ⟨bc, qc, bs, ps, ss, so, sb, sq, sl, sn, sc, bg, qg, R, n, c, bm⟩ i (j + 1)) A6 k6 := by
       rw [hP]; exact h6.2.2.2.1.no hky
      have hal : orF vf (r.l.getD j pg0) = true := hal
      have horf : Gth (orfL vf (cAt ⟨bc, qc, bs, ps, ss, so, sb, sq, sl, sn, sc, bg, qg, R, n, c, bm⟩ i (j + 1))) (true, b9, q9, ol.take on ++ [(r.l.getD j pg0).pl] ++ sp, on + 1, cp) := by
       rw [hP, orfL_yes hal]
       exact h6.2.2.2.2.snoc hc1 hc2
      refine Stands.one (i, j + 1, (a6, A6, k6), (true, b9, q9, ol.take on ++ [(r.l.getD j pg0).pl] ++ sp, on + 1, cp)) ⟨⟨by show i < n; omega, hj, hcnt, hput, horf⟩, vy hj (wi j), ?_⟩
      exact vgk
      done))
 iterate 2 (
  focus
  rename_i u0 x2 h2 h3 r hr hcn x6 h6 e6 h7 u4 hky hal
  obtain ⟨i, ⟨a1, A1, k1⟩, O1⟩ := x2
  obtain ⟨i6, j, ⟨a6, A6, k6⟩, oo, ob, oq, ol, on, oc⟩ := x6
  obtain rfl : i = i6 := Int.ofNat.inj e6
  have h3 : (i : Int) < (n : Int) := ow h3
  have h6 : i < n ∧ j ≤ (rw _ i).length ∧ cntF n _ i (rw _ i) = true ∧ AOK _ _ (cAt _ i j) A6 k6 ∧ Gth (orfL vf (cAt _ i j)) (oo, ob, oq, ol, on, oc) := h6
  change Rw Pg at r
  have hr : R.getD i Rw.nil = r := hr
  obtain ⟨hm, hk, hl, hw⟩ := rowK hr (by omega) hrok hfew
  rw [hw] at h6
  have h7 : (j : Int) < (r.l.length : Int) := ow h7
  first
   | (exact inS (j := j) (by omega)
      done)
   | (obtain ⟨hj, hcnt, hP⟩ := stepK h6.2.2.2.1 hw (Int.ofNat_lt.1 h7) h6.2.2.1
      have hky : kyF ⟨bs, ps, ss⟩ (r.l.getD j pg0) = false := hky
      have hput : AOK ⟨bc, qc, bs, ps, ss, so, sb, sq, sl, sn, sc, bg, qg, R, n, c, bm⟩ ⟨bs, ps, ss⟩ (cAt ⟨bc, qc, bs, ps, ss, so, sb, sq, sl, sn, sc, bg, qg, R, n, c, bm⟩ i (j + 1)) A6 k6 := by
       rw [hP]; exact h6.2.2.2.1.no hky
      have hal : orF vf (r.l.getD j pg0) = false := hal
      have horf : Gth (orfL vf (cAt ⟨bc, qc, bs, ps, ss, so, sb, sq, sl, sn, sc, bg, qg, R, n, c, bm⟩ i (j + 1))) (oo, ob, oq, ol, on, oc) := by
       rw [hP, orfL_no hal]
       exact h6.2.2.2.2
      refine Stands.one (i, j + 1, (a6, A6, k6), (oo, ob, oq, ol, on, oc)) ⟨⟨by show i < n; omega, hj, hcnt, hput, horf⟩, vy hj (wi j), ?_⟩
      exact vgk
      done))
 iterate 2 (
  focus
  rename_i u0 x2 h2 h3 r hr hcn x6 h6 e6 h7
  obtain ⟨i, ⟨a1, A1, k1⟩, O1⟩ := x2
  obtain ⟨i6, j, ⟨a6, A6, k6⟩, oo, ob, oq, ol, on, oc⟩ := x6
  obtain rfl : i = i6 := Int.ofNat.inj e6
  have h3 : (i : Int) < (n : Int) := ow h3
  have h6 : i < n ∧ j ≤ (rw _ i).length ∧ cntF n _ i (rw _ i) = true ∧ AOK _ _ (cAt _ i j) A6 k6 ∧ Gth (orfL vf (cAt _ i j)) (oo, ob, oq, ol, on, oc) := h6
  change Rw Pg at r
  have hr : R.getD i Rw.nil = r := hr
  obtain ⟨hm, hk, hl, hw⟩ := rowK hr (by omega) hrok hfew
  rw [hw] at h6
  have h7 : ¬ (j : Int) < (r.l.length : Int) := ov h7
  first
   | (exact inS (j := i) (by omega)
      done)
   | (have hle : (rw (R.map fun r => r.l) i).length ≤ j := by rw [hw]; omega
      have hP : cAt ⟨bc, qc, bs, ps, ss, so, sb, sq, sl, sn, sc, bg, qg, R, n, c, bm⟩ i j = cTo ⟨bc, qc, bs, ps, ss, so, sb, sq, sl, sn, sc, bg, qg, R, n, c, bm⟩ (i + 1) := pgsAt_all hle
      refine Stands.one (i + 1, (a6, A6, k6), (oo, ob, oq, ol, on, oc)) ⟨⟨by show i + 1 ≤ n; omega, by show AOK _ _ (cTo _ (i + 1)) A6 k6; rw [← hP]; exact h6.2.2.2.1, by show Gth (orfL vf (cTo _ (i + 1))) _; rw [← hP]; exact h6.2.2.2.2⟩, by show n - (i + 1) < n - i; omega, ?_⟩
      exact vgk
      done))
 · rename_i u0 x2 h2 h3 u1 u2
   obtain ⟨i, ⟨a1, A1, k1⟩, O1⟩ := x2
   have h2 : i ≤ n ∧ AOK _ _ (cTo _ i) A1 k1 ∧ Gth (orfL vf (cTo _ i)) O1 := h2
   refine ⟨h2.2.1.keys.self, ?_⟩
   show A1.length < 1000000000
   have h8 := h2.2.1.keys.len
   have h9 := keyD_len (g := ⟨bs, ps, ss⟩) (P := cTo ⟨bc, qc, bs, ps, ss, so, sb, sq, sl, sn, sc, bg, qg, R, n, c, bm⟩ i)
   have hPl := pgsTo_len (f := cntF n (R.map fun r => r.l)) (rows_len hfew) i
   have h10 : A1.length ≤ i * 1000000 := yz h8 (yz h9 hPl)
   omega
 · rename_i u0 x2 h2 h3 u1 u2 y hy
   obtain ⟨i, ⟨a1, A1, k1⟩, O1⟩ := x2
   have h2 : i ≤ n ∧ AOK _ _ (cTo _ i) A1 k1 ∧ Gth (orfL vf (cTo _ i)) O1 := h2
   refine Stands.one (0, (false, 0, 0, [], 0, 0)) ⟨⟨zn _, by show Gth (sloL ⟨bs, ps, ss⟩ vf (cTo _ n) (List.take 0 _)) _; rw [sloL_zero]; exact Gth.nil⟩, ?_⟩
   exact vgk
 iterate 4 (
  focus
  rename_i u0 x2 h2 h3 u1 u2 y hy x6 h6 h7
  obtain ⟨i, ⟨a1, A1, k1⟩, O1⟩ := x2
  have h2 : i ≤ n ∧ AOK _ _ (cTo _ i) A1 k1 ∧ Gth (orfL vf (cTo _ i)) O1 := h2
  have h3 : ¬ (i : Int) < (n : Int) := ov h3
  have ei : i = n := by omega
  rw [ei] at h2
  have hG := sd_keys hgeo h2.2.1 hy
  obtain ⟨yo, yb, yq, yl, yn, yc⟩ := y
  have hR := hG.room
  obtain ⟨j, wo, wb, wq, wl, wn, wc⟩ := x6
  have h6 : j ≤ (keyL ⟨bs, ps, ss⟩ (cTo _ n)).length ∧ Gth (sloL ⟨bs, ps, ss⟩ vf (cTo _ n) ((keyL ⟨bs, ps, ss⟩ (cTo _ n)).take j)) (wo, wb, wq, wl, wn, wc) := h6
  have h7 : (j : Int) < (yn : Int) := ow h7
  first
   | (exact on_of hR.2.2.2 (by omega)
      done)
   | (exact h7
      done)
   | (show j < yl.length
      omega
      done))
 · rename_i u0 x2 h2 h3 u1 u2 y hy x6 h6 h7 rA hrA
   obtain ⟨i, ⟨a1, A1, k1⟩, O1⟩ := x2
   have h2 : i ≤ n ∧ AOK _ _ (cTo _ i) A1 k1 ∧ Gth (orfL vf (cTo _ i)) O1 := h2
   have h3 : ¬ (i : Int) < (n : Int) := ov h3
   have ei : i = n := by omega
   rw [ei] at h2
   have hG := sd_keys hgeo h2.2.1 hy
   obtain ⟨yo, yb, yq, yl, yn, yc⟩ := y
   have hR := hG.room
   obtain ⟨j, wo, wb, wq, wl, wn, wc⟩ := x6
   have h6 : j ≤ (keyL ⟨bs, ps, ss⟩ (cTo _ n)).length ∧ Gth (sloL ⟨bs, ps, ss⟩ vf (cTo _ n) ((keyL ⟨bs, ps, ss⟩ (cTo _ n)).take j)) (wo, wb, wq, wl, wn, wc) := h6
   have h7 : (j : Int) < (yn : Int) := ow h7
   change Rw Pg at rA
   have hrA : mgetG A1 (yl.getD j 0) = rA := hrA
   rw [hG.at (d := 0) (by omega)] at hrA
   obtain ⟨hg, hgl, htk⟩ := rowT h2.2.1 hfew hrA
   have hjk : j < (keyL ⟨bs, ps, ss⟩ (cTo ⟨bc, qc, bs, ps, ss, so, sb, sq, sl, sn, sc, bg, qg, R, n, c, bm⟩ n)).length := by omega
   exact ⟨zy _, hg.2.1, by show rA.l.length < 1000000000; omega⟩
 iterate 2 (
  focus
  rename_i u0 x2 h2 h3 u1 u2 y hy x6 h6 h7 rA hrA u7 hwn u8
  obtain ⟨i, ⟨a1, A1, k1⟩, O1⟩ := x2
  have h2 : i ≤ n ∧ AOK _ _ (cTo _ i) A1 k1 ∧ Gth (orfL vf (cTo _ i)) O1 := h2
  have h3 : ¬ (i : Int) < (n : Int) := ov h3
  have ei : i = n := by omega
  rw [ei] at h2
  have hG := sd_keys hgeo h2.2.1 hy
  obtain ⟨yo, yb, yq, yl, yn, yc⟩ := y
  have hR := hG.room
  obtain ⟨j, wo, wb, wq, wl, wn, wc⟩ := x6
  have h6 : j ≤ (keyL ⟨bs, ps, ss⟩ (cTo _ n)).length ∧ Gth (sloL ⟨bs, ps, ss⟩ vf (cTo _ n) ((keyL ⟨bs, ps, ss⟩ (cTo _ n)).take j)) (wo, wb, wq, wl, wn, wc) := h6
  have h7 : (j : Int) < (yn : Int) := ow h7
  change Rw Pg at rA
  have hrA : mgetG A1 (yl.getD j 0) = rA := hrA
  rw [hG.at (d := 0) (by omega)] at hrA
  obtain ⟨hg, hgl, htk⟩ := rowT h2.2.1 hfew hrA
  have hjk : j < (keyL ⟨bs, ps, ss⟩ (cTo ⟨bc, qc, bs, ps, ss, so, sb, sq, sl, sn, sc, bg, qg, R, n, c, bm⟩ n)).length := by omega
  first
   | (have hW := h6.2.room
      have hwl := yz (sloL_len (g := ⟨bs, ps, ss⟩) (f := vf) (P := cTo ⟨bc, qc, bs, ps, ss, so, sb, sq, sl, sn, sc, bg, qg, R, n, c, bm⟩ n) (K := (keyL ⟨bs, ps, ss⟩ (cTo ⟨bc, qc, bs, ps, ss, so, sb, sq, sl, sn, sc, bg, qg, R, n, c, bm⟩ n)).take j)) (rj _ _)
      have hkl := keyL_len (P := cTo ⟨bc, qc, bs, ps, ss, so, sb, sq, sl, sn, sc, bg, qg, R, n, c, bm⟩ n) hgeo
      have hwn' : wn ≤ 536871100 := by rw [hW.2.2.1]; exact yz hwl hkl
      rw [bySl]
      exact ⟨hW.1, by show 0 + wc ≤ wl.length; omega, by simp, by show (wn + 1) * 72 ≤ _; omega⟩
      done)
   | (exact h6.2.room.2.2.2
      done))
 iterate 2 (
  focus
  rename_i u0 x2 h2 h3 u1 u2 y hy x6 h6 h7 rA hrA u7 hwn u8 b9 q9 sp cp hc1 hc2
  obtain ⟨i, ⟨a1, A1, k1⟩, O1⟩ := x2
  have h2 : i ≤ n ∧ AOK _ _ (cTo _ i) A1 k1 ∧ Gth (orfL vf (cTo _ i)) O1 := h2
  have h3 : ¬ (i : Int) < (n : Int) := ov h3
  have ei : i = n := by omega
  rw [ei] at h2
  have hG := sd_keys hgeo h2.2.1 hy
  obtain ⟨yo, yb, yq, yl, yn, yc⟩ := y
  have hR := hG.room
  obtain ⟨j, wo, wb, wq, wl, wn, wc⟩ := x6
  have h6 : j ≤ (keyL ⟨bs, ps, ss⟩ (cTo _ n)).length ∧ Gth (sloL ⟨bs, ps, ss⟩ vf (cTo _ n) ((keyL ⟨bs, ps, ss⟩ (cTo _ n)).take j)) (wo, wb, wq, wl, wn, wc) := h6
  have h7 : (j : Int) < (yn : Int) := ow h7
  change Rw Pg at rA
  have hrA : mgetG A1 (yl.getD j 0) = rA := hrA
  rw [hG.at (d := 0) (by omega)] at hrA
  obtain ⟨hg, hgl, htk⟩ := rowT h2.2.1 hfew hrA
  have hjk : j < (keyL ⟨bs, ps, ss⟩ (cTo ⟨bc, qc, bs, ps, ss, so, sb, sq, sl, sn, sc, bg, qg, R, n, c, bm⟩ n)).length := by omega
  first
   | (have hkl := keyL_len (P := cTo ⟨bc, qc, bs, ps, ss, so, sb, sq, sl, sn, sc, bg, qg, R, n, c, bm⟩ n) hgeo
      have hj9 : j < 536871100 := za hjk hkl
      exact inS (j := j) (by omega)
      done)
   | (have hwn : winB vf (rA.l.take rA.l.length) = true := hwn
      rw [htk] at hwn
      refine Stands.one (j + 1, true, b9, q9, wl.take wn ++ [sloOf ⟨bs, ps, ss⟩ vf (cTo ⟨bc, qc, bs, ps, ss, so, sb, sq, sl, sn, sc, bg, qg, R, n, c, bm⟩ n) ((keyL ⟨bs, ps, ss⟩ (cTo ⟨bc, qc, bs, ps, ss, so, sb, sq, sl, sn, sc, bg, qg, R, n, c, bm⟩ n)).getD j 0)] ++ sp, wn + 1, cp) ⟨⟨hjk, ?_⟩, vy hjk (wi j), ?_⟩
      · show Gth (sloL ⟨bs, ps, ss⟩ vf (cTo _ n) ((keyL ⟨bs, ps, ss⟩ (cTo _ n)).take (j + 1))) _
        rw [sloL_yes hjk hwn]
        exact h6.2.snoc hc1 hc2
      have eK : (yl.getD j 0 : Int) = (keyL ⟨bs, ps, ss⟩ (cTo ⟨bc, qc, bs, ps, ss, so, sb, sq, sl, sn, sc, bg, qg, R, n, c, bm⟩ n)).getD j 0 := hG.at (by omega)
      have eS : sloOf ⟨bs, ps, ss⟩ vf (cTo ⟨bc, qc, bs, ps, ss, so, sb, sq, sl, sn, sc, bg, qg, R, n, c, bm⟩ n) ((keyL ⟨bs, ps, ss⟩ (cTo ⟨bc, qc, bs, ps, ss, so, sb, sq, sl, sn, sc, bg, qg, R, n, c, bm⟩ n)).getD j 0) = ⟨yl.getD j 0, (winP vf (rA.l.take rA.l.length)).pl, (winP vf (rA.l.take rA.l.length)).me⟩ := by rw [htk, eK]; rfl
      rw [eS]
      exact vgk
      done))
 iterate 2 (
  focus
  rename_i u0 x2 h2 h3 u1 u2 y hy x6 h6 h7 rA hrA u7 hwn
  obtain ⟨i, ⟨a1, A1, k1⟩, O1⟩ := x2
  have h2 : i ≤ n ∧ AOK _ _ (cTo _ i) A1 k1 ∧ Gth (orfL vf (cTo _ i)) O1 := h2
  have h3 : ¬ (i : Int) < (n : Int) := ov h3
  have ei : i = n := by omega
  rw [ei] at h2
  have hG := sd_keys hgeo h2.2.1 hy
  obtain ⟨yo, yb, yq, yl, yn, yc⟩ := y
  have hR := hG.room
  obtain ⟨j, wo, wb, wq, wl, wn, wc⟩ := x6
  have h6 : j ≤ (keyL ⟨bs, ps, ss⟩ (cTo _ n)).length ∧ Gth (sloL ⟨bs, ps, ss⟩ vf (cTo _ n) ((keyL ⟨bs, ps, ss⟩ (cTo _ n)).take j)) (wo, wb, wq, wl, wn, wc) := h6
  have h7 : (j : Int) < (yn : Int) := ow h7
  change Rw Pg at rA
  have hrA : mgetG A1 (yl.getD j 0) = rA := hrA
  rw [hG.at (d := 0) (by omega)] at hrA
  obtain ⟨hg, hgl, htk⟩ := rowT h2.2.1 hfew hrA
  have hjk : j < (keyL ⟨bs, ps, ss⟩ (cTo ⟨bc, qc, bs, ps, ss, so, sb, sq, sl, sn, sc, bg, qg, R, n, c, bm⟩ n)).length := by omega
  first
   | (have hkl := keyL_len (P := cTo ⟨bc, qc, bs, ps, ss, so, sb, sq, sl, sn, sc, bg, qg, R, n, c, bm⟩ n) hgeo
      have hj9 : j < 536871100 := za hjk hkl
      exact inS (j := j) (by omega)
      done)
   | (have hwn : winB vf (rA.l.take rA.l.length) = false := hwn
      rw [htk] at hwn
      refine Stands.one (j + 1, wo, wb, wq, wl, wn, wc) ⟨⟨hjk, ?_⟩, vy hjk (wi j), ?_⟩
      · show Gth (sloL ⟨bs, ps, ss⟩ vf (cTo _ n) ((keyL ⟨bs, ps, ss⟩ (cTo _ n)).take (j + 1))) _
        rw [sloL_no hjk hwn]
        exact h6.2
      exact vgk
      done))
 · rename_i u0 x2 h2 h3 u1 u2 y hy x6 h6 h7 rA hrA u7
   obtain ⟨i, ⟨a1, A1, k1⟩, O1⟩ := x2
   have h2 : i ≤ n ∧ AOK _ _ (cTo _ i) A1 k1 ∧ Gth (orfL vf (cTo _ i)) O1 := h2
   have h3 : ¬ (i : Int) < (n : Int) := ov h3
   have ei : i = n := by omega
   rw [ei] at h2
   have hG := sd_keys hgeo h2.2.1 hy
   obtain ⟨yo, yb, yq, yl, yn, yc⟩ := y
   have hR := hG.room
   obtain ⟨j, wo, wb, wq, wl, wn, wc⟩ := x6
   have h6 : j ≤ (keyL ⟨bs, ps, ss⟩ (cTo _ n)).length ∧ Gth (sloL ⟨bs, ps, ss⟩ vf (cTo _ n) ((keyL ⟨bs, ps, ss⟩ (cTo _ n)).take j)) (wo, wb, wq, wl, wn, wc) := h6
   have h7 : (j : Int) < (yn : Int) := ow h7
   change Rw Pg at rA
   have hrA : mgetG A1 (yl.getD j 0) = rA := hrA
   rw [hG.at (d := 0) (by omega)] at hrA
   obtain ⟨hg, hgl, htk⟩ := rowT h2.2.1 hfew hrA
   have hjk : j < (keyL ⟨bs, ps, ss⟩ (cTo ⟨bc, qc, bs, ps, ss, so, sb, sq, sl, sn, sc, bg, qg, R, n, c, bm⟩ n)).length := by omega
   exact ⟨zy _, hg.2.1, by show rA.l.length < 1000000000; omega⟩
 iterate 2 (
  focus
  rename_i u0 x2 h2 h3 u1 u2 y hy x6 h6 h7 rA hrA u7 hwn u8
  obtain ⟨i, ⟨a1, A1, k1⟩, O1⟩ := x2
  have h2 : i ≤ n ∧ AOK _ _ (cTo _ i) A1 k1 ∧ Gth (orfL vf (cTo _ i)) O1 := h2
  have h3 : ¬ (i : Int) < (n : Int) := ov h3
  have ei : i = n := by omega
  rw [ei] at h2
  have hG := sd_keys hgeo h2.2.1 hy
  obtain ⟨yo, yb, yq, yl, yn, yc⟩ := y
  have hR := hG.room
  obtain ⟨j, wo, wb, wq, wl, wn, wc⟩ := x6
  have h6 : j ≤ (keyL ⟨bs, ps, ss⟩ (cTo _ n)).length ∧ Gth (sloL ⟨bs, ps, ss⟩ vf (cTo _ n) ((keyL ⟨bs, ps, ss⟩ (cTo _ n)).take j)) (wo, wb, wq, wl, wn, wc) := h6
  have h7 : (j : Int) < (yn : Int) := ow h7
  change Rw Pg at rA
  have hrA : mgetG A1 (yl.getD j 0) = rA := hrA
  rw [hG.at (d := 0) (by omega)] at hrA
  obtain ⟨hg, hgl, htk⟩ := rowT h2.2.1 hfew hrA
  have hjk : j < (keyL ⟨bs, ps, ss⟩ (cTo ⟨bc, qc, bs, ps, ss, so, sb, sq, sl, sn, sc, bg, qg, R, n, c, bm⟩ n)).length := by omega
  first
   | (have hW := h6.2.room
      have hwl := yz (sloL_len (g := ⟨bs, ps, ss⟩) (f := vf) (P := cTo ⟨bc, qc, bs, ps, ss, so, sb, sq, sl, sn, sc, bg, qg, R, n, c, bm⟩ n) (K := (keyL ⟨bs, ps, ss⟩ (cTo ⟨bc, qc, bs, ps, ss, so, sb, sq, sl, sn, sc, bg, qg, R, n, c, bm⟩ n)).take j)) (rj _ _)
      have hkl := keyL_len (P := cTo ⟨bc, qc, bs, ps, ss, so, sb, sq, sl, sn, sc, bg, qg, R, n, c, bm⟩ n) hgeo
      have hwn' : wn ≤ 536871100 := by rw [hW.2.2.1]; exact yz hwl hkl
      rw [bySl]
      exact ⟨hW.1, by show 0 + wc ≤ wl.length; omega, by simp, by show (wn + 1) * 72 ≤ _; omega⟩
      done)
   | (exact h6.2.room.2.2.2
      done))
 iterate 2 (
  focus
  rename_i u0 x2 h2 h3 u1 u2 y hy x6 h6 h7 rA hrA u7 hwn u8 b9 q9 sp cp hc1 hc2
  obtain ⟨i, ⟨a1, A1, k1⟩, O1⟩ := x2
  have h2 : i ≤ n ∧ AOK _ _ (cTo _ i) A1 k1 ∧ Gth (orfL vf (cTo _ i)) O1 := h2
  have h3 : ¬ (i : Int) < (n : Int) := ov h3
  have ei : i = n := by omega
  rw [ei] at h2
  have hG := sd_keys hgeo h2.2.1 hy
  obtain ⟨yo, yb, yq, yl, yn, yc⟩ := y
  have hR := hG.room
  obtain ⟨j, wo, wb, wq, wl, wn, wc⟩ := x6
  have h6 : j ≤ (keyL ⟨bs, ps, ss⟩ (cTo _ n)).length ∧ Gth (sloL ⟨bs, ps, ss⟩ vf (cTo _ n) ((keyL ⟨bs, ps, ss⟩ (cTo _ n)).take j)) (wo, wb, wq, wl, wn, wc) := h6
  have h7 : (j : Int) < (yn : Int) := ow h7
  change Rw Pg at rA
  have hrA : mgetG A1 (yl.getD j 0) = rA := hrA
  rw [hG.at (d := 0) (by omega)] at hrA
  obtain ⟨hg, hgl, htk⟩ := rowT h2.2.1 hfew hrA
  have hjk : j < (keyL ⟨bs, ps, ss⟩ (cTo ⟨bc, qc, bs, ps, ss, so, sb, sq, sl, sn, sc, bg, qg, R, n, c, bm⟩ n)).length := by omega
  first
   | (have hkl := keyL_len (P := cTo ⟨bc, qc, bs, ps, ss, so, sb, sq, sl, sn, sc, bg, qg, R, n, c, bm⟩ n) hgeo
      have hj9 : j < 536871100 := za hjk hkl
      exact inS (j := j) (by omega)
      done)
   | (have hwn : winB vf (rA.l.take rA.l.length) = true := hwn
      rw [htk] at hwn
      refine Stands.one (j + 1, true, b9, q9, wl.take wn ++ [sloOf ⟨bs, ps, ss⟩ vf (cTo ⟨bc, qc, bs, ps, ss, so, sb, sq, sl, sn, sc, bg, qg, R, n, c, bm⟩ n) ((keyL ⟨bs, ps, ss⟩ (cTo ⟨bc, qc, bs, ps, ss, so, sb, sq, sl, sn, sc, bg, qg, R, n, c, bm⟩ n)).getD j 0)] ++ sp, wn + 1, cp) ⟨⟨hjk, ?_⟩, vy hjk (wi j), ?_⟩
      · show Gth (sloL ⟨bs, ps, ss⟩ vf (cTo _ n) ((keyL ⟨bs, ps, ss⟩ (cTo _ n)).take (j + 1))) _
        rw [sloL_yes hjk hwn]
        exact h6.2.snoc hc1 hc2
      have eK : (yl.getD j 0 : Int) = (keyL ⟨bs, ps, ss⟩ (cTo ⟨bc, qc, bs, ps, ss, so, sb, sq, sl, sn, sc, bg, qg, R, n, c, bm⟩ n)).getD j 0 := hG.at (by omega)
      have eS : sloOf ⟨bs, ps, ss⟩ vf (cTo ⟨bc, qc, bs, ps, ss, so, sb, sq, sl, sn, sc, bg, qg, R, n, c, bm⟩ n) ((keyL ⟨bs, ps, ss⟩ (cTo ⟨bc, qc, bs, ps, ss, so, sb, sq, sl, sn, sc, bg, qg, R, n, c, bm⟩ n)).getD j 0) = ⟨yl.getD j 0, (winP vf (rA.l.take rA.l.length)).pl, (winP vf (rA.l.take rA.l.length)).me⟩ := by rw [htk, eK]; rfl
      rw [eS]
      exact vgk
      done))
 iterate 2 (
  focus
  rename_i u0 x2 h2 h3 u1 u2 y hy x6 h6 h7 rA hrA u7 hwn
  obtain ⟨i, ⟨a1, A1, k1⟩, O1⟩ := x2
  have h2 : i ≤ n ∧ AOK _ _ (cTo _ i) A1 k1 ∧ Gth (orfL vf (cTo _ i)) O1 := h2
  have h3 : ¬ (i : Int) < (n : Int) := ov h3
  have ei : i = n := by omega
  rw [ei] at h2
  have hG := sd_keys hgeo h2.2.1 hy
  obtain ⟨yo, yb, yq, yl, yn, yc⟩ := y
  have hR := hG.room
  obtain ⟨j, wo, wb, wq, wl, wn, wc⟩ := x6
  have h6 : j ≤ (keyL ⟨bs, ps, ss⟩ (cTo _ n)).length ∧ Gth (sloL ⟨bs, ps, ss⟩ vf (cTo _ n) ((keyL ⟨bs, ps, ss⟩ (cTo _ n)).take j)) (wo, wb, wq, wl, wn, wc) := h6
  have h7 : (j : Int) < (yn : Int) := ow h7
  change Rw Pg at rA
  have hrA : mgetG A1 (yl.getD j 0) = rA := hrA
  rw [hG.at (d := 0) (by omega)] at hrA
  obtain ⟨hg, hgl, htk⟩ := rowT h2.2.1 hfew hrA
  have hjk : j < (keyL ⟨bs, ps, ss⟩ (cTo ⟨bc, qc, bs, ps, ss, so, sb, sq, sl, sn, sc, bg, qg, R, n, c, bm⟩ n)).length := by omega
  first
   | (have hkl := keyL_len (P := cTo ⟨bc, qc, bs, ps, ss, so, sb, sq, sl, sn, sc, bg, qg, R, n, c, bm⟩ n) hgeo
      have hj9 : j < 536871100 := za hjk hkl
      exact inS (j := j) (by omega)
      done)
   | (have hwn : winB vf (rA.l.take rA.l.length) = false := hwn
      rw [htk] at hwn
      refine Stands.one (j + 1, wo, wb, wq, wl, wn, wc) ⟨⟨hjk, ?_⟩, vy hjk (wi j), ?_⟩
      · show Gth (sloL ⟨bs, ps, ss⟩ vf (cTo _ n) ((keyL ⟨bs, ps, ss⟩ (cTo _ n)).take (j + 1))) _
        rw [sloL_no hjk hwn]
        exact h6.2
      exact vgk
      done))
 · rename_i u0 x2 h2 h3 u1 u2 y hy x6 h6 h7
   obtain ⟨i, ⟨a1, A1, k1⟩, O1⟩ := x2
   have h2 : i ≤ n ∧ AOK _ _ (cTo _ i) A1 k1 ∧ Gth (orfL vf (cTo _ i)) O1 := h2
   have h3 : ¬ (i : Int) < (n : Int) := ov h3
   have ei : i = n := by omega
   rw [ei] at h2
   have hG := sd_keys hgeo h2.2.1 hy
   obtain ⟨yo, yb, yq, yl, yn, yc⟩ := y
   have hR := hG.room
   obtain ⟨j, wo, wb, wq, wl, wn, wc⟩ := x6
   have h6 : j ≤ (keyL ⟨bs, ps, ss⟩ (cTo _ n)).length ∧ Gth (sloL ⟨bs, ps, ss⟩ vf (cTo _ n) ((keyL ⟨bs, ps, ss⟩ (cTo _ n)).take j)) (wo, wb, wq, wl, wn, wc) := h6
   have h7 : ¬ (j : Int) < (yn : Int) := ov h7
   have hjn : j = (keyL ⟨bs, ps, ss⟩ (cTo ⟨bc, qc, bs, ps, ss, so, sb, sq, sl, sn, sc, bg, qg, R, n, c, bm⟩ n)).length := by omega
   rw [hjn, zu (zy _)] at h6
   obtain ⟨oo, ob, oq, ol, on, oc⟩ := O1
   refine Ends.one ((wo, wb, wq, wl, wn, wc), (oo, ob, oq, ol, on, oc)) ⟨h6.2, h2.2.2⟩ ?_
   exact vgk
end Go.Vx.Sc
namespace Go.Vx.Sc
open Go Go.Proofs
variable [Gl]
def outB (sk : List Int) (n : Nat) (Q : List (List Pg)) (i : Nat) : Bool := anyF (eqI (i : Int)) sk || decide ((i : Int) ∈ badTo n Q n)
def freP (sk : List Int) (n : Nat) (Q : List (List Pg)) (i : Nat) : Bool := !outB sk n Q i && decide ((rw Q i).length = 0)
def dirP (sk : List Int) (n : Nat) (Q : List (List Pg)) (f : Int) (S : List Slot) (i : Nat) : Bool :=
 !outB sk n Q i && !decide ((rw Q i).length = 0) && (!isHd (i : Int) (rw Q i) || !decide ((i : Int) ∈ S.map fun s => s.pl.1) || anyF (amP f) (rw Q i))
@[irreducible] def numL (p : Nat → Bool) (i : Nat) : List Int := ((vh i).filter p).map Int.ofNat
section
variable {p : Nat → Bool} {i : Nat}
theorem numL_zero : numL p 0 = [] := by unfold numL; rfl
theorem numL_yes (h : p i = true) : numL p (i + 1) = numL p i ++ [(i : Int)] := by
 unfold numL
 rw [vw, ze, yw h, yg, yy]; rfl
theorem numL_no (h : p i = false) : numL p (i + 1) = numL p i := by
 unfold numL
 rw [vw, ze, yj (by rw [h]; exact xg), yg, zk]
theorem numL_len : (numL p i).length ≤ i := by
 unfold numL
 rw [zt]
 exact yz (xa _ _) (by rw [List.length_range]; exact zy _)
end
theorem take_map_snoc {S : List Slot} {i : Nat} (h : i < S.length) : (S.take (i + 1)).map (fun s => s.pl.1) = (S.take i).map (fun s => s.pl.1) ++ [(S.getD i slot0).pl.1] := by
 rw [take_snoc (d := slot0) h, yy]; rfl
end Go.Vx.Sc
namespace Go.Vx.Sc
open Go Go.Proofs
variable [Gl]
abbrev outR : Nm → Sq Int → SV → SV → SV → SV → List SV
 | ⟨s, t, b, f⟩, (bo, bb, bq, bl, bn, bx), u, fr, di, v => [u, .int .i64 s, .int .i64 t, .int .i64 b, .int .i64 f, fr, di, .sl 4 0 bn bx, v]
abbrev chL : Sq Slot → Ck C0
 | (so, sb, sq, sl, sn, sc) => ⟨sb, sq, 9, true, some so, .rows 88 sl⟩
abbrev chO : Sq Pl → Ck C0
 | (po, pb, pq, pl, pn, pc) => ⟨pb, pq, 2, true, some po, .rows 66 pl⟩
abbrev chI : Sq Int → Ck C0
 | (bo, bb, bq, bl, bn, bx) => ⟨bb, bq, 1, true, some bo, .rows 3 bl⟩
abbrev svL (k : Nat) : Sq Slot → SV
 | (so, sb, sq, sl, sn, sc) => .sl k 0 sn sc
abbrev svO (k : Nat) : Sq Pl → SV
 | (so, sb, sq, sl, sn, sc) => .sl k 0 sn sc
abbrev svI (k : Nat) : Sq Int → SV
 | (so, sb, sq, sl, sn, sc) => .sl k 0 sn sc
abbrev skp (x : Cx) : List Int := x.sl.take x.sn
def R3 (SL : List Slot) : Inv' C0 := ⟨3, Nat × Bm × Nat, fun y => [(15, .int .i64 (y.1 : Int))],
 fun y m => match m with
  | c0 :: c1 :: c2 :: c3 :: c4 :: c5 :: c6 :: c7 :: ⟨lb, _, _, _, _, _⟩ :: _ => [c0, c1, c2, c3, c4, c5, c6, c7, ⟨lb, 0, 0, true, none, .mp 3 4 y.2.1 y.2.2⟩]
  | _ => [],
 fun y => y.1 ≤ SL.length ∧ MSet y.2.1 y.2.2 ((SL.take y.1).map fun s => s.pl.1), fun y => SL.length - y.1⟩
def R8 (x : Cx) (f : Int) (SL : List Slot) : Inv' C0 := ⟨8, Nat × Sq Int × Sq Int, fun y => [(29, .int .i64 (y.1 : Int))],
 fun y m => match m with
  | ⟨b0, q0, _, _, _, .one [a1, a2, a3, a4, a5, a6, a7, a8, a9, a10, a11, _, _, a14, a15]⟩ :: c1 :: c2 :: c3 :: c4 :: c5 :: c6 :: c7 :: c8 :: _ =>
    [⟨b0, q0, 15, true, none, .one [a1, a2, a3, a4, a5, a6, a7, a8, a9, a10, a11, .sl 9 0 y.2.1.2.2.2.2.1 y.2.1.2.2.2.2.2, .sl 10 0 y.2.2.2.2.2.2.1 y.2.2.2.2.2.2.2, a14, a15]⟩, c1, c2, c3, c4, c5, c6, c7, c8,
      ⟨y.2.1.2.1, y.2.1.2.2.1, 1, true, some y.2.1.1, .rows 3 y.2.1.2.2.2.1⟩, ⟨y.2.2.2.1, y.2.2.2.2.1, 1, true, some y.2.2.1, .rows 3 y.2.2.2.2.2.1⟩]
  | _ => [],
 fun y => y.1 ≤ x.n ∧ Gth (numL (freP (skp x) x.n x.Q) y.1) y.2.1 ∧ Gth (numL (dirP (skp x) x.n x.Q f SL) y.1) y.2.2, fun y => x.n - y.1⟩
abbrev plR : List Tk := [.p 0, .p 1, .p 2, .p 3, .p 4, .p 5, .p 6, .e 7, .e 8, .p 9, .p 10, .p 11, .f 12]
set_option maxHeartbeats 64000000 in
theorem rest_ok (x : Cx) (h : x.ok) (v : Nm) (bd : Sq Int) (M : Bm) (clk : Nat) (hM : MSet M clk (badTo x.n x.Q x.n)) (S : Sq Slot) (O : Sq Pl) (SL : List Slot) (hS : Gth SL S) (hSl : SL.length ≤ 536871100) :
 Does (C := C0) Tryd.prog (.fn 55) [chW true x (outS v bd (svL 5 S) (svO 6 O)), chG x, chM true x M clk, chS x, chB bd, chL S, chO O] [.ptr 0 0 0]
 [⟨Sq Int × Sq Int, fun y => Gth (numL (freP (skp x) x.n x.Q) x.n) y.1 ∧ Gth (numL (dirP (skp x) x.n x.Q v.f SL) x.n) y.2, fun _ => .tup [],
   fun y => [chW true x (outR v bd (svL 5 S) (svI 7 y.1) (svI 8 y.2) (svO 6 O)), chG x, chM true x M clk, chS x, chB bd, chL S, chO O, chI y.1, chI y.2]⟩] := by
 obtain ⟨bc, qc, bs, ps, ss, so, sb, sq, sl, sn, sc, bg, qg, R, n, c, bm⟩ := x
 obtain ⟨vs, vt, vb, vf⟩ := v
 obtain ⟨bo, bb, bq, bl, bn, bx⟩ := bd
 obtain ⟨So, Sb, Sq', Sl, Sn, Sc⟩ := S
 obtain ⟨Oo, Ob, Oq, Ol, On, Oc⟩ := O
 have hbs : bs = (n : Int) := h.bs
 have hn : n = R.length := h.n
 have hn64 : n ≤ 64 := h.n64
 have hrok : ∀ r ∈ R, Rok r := h.rok
 have hfew : ∀ r ∈ R, r.l.length < 1000000 := h.few
 have hsk : sn ≤ sl.length ∧ sn < 1000000000 ∧ (so = false → sn = 0 ∧ sc = 0) := h.skip
 have hR := hS.room
 refine loc_fn (P := Tryd.prog) (E := ⟨[], [pcContains, pcHeaded, pcHasa], 95, [(13, [0, 1000001], plR), (15, [0, 1000001], plR)], [fG], []⟩) (L := [R3 SL, R8 ⟨bc, qc, bs, ps, ss, so, sb, sq, sl, sn, sc, bg, qg, R, n, c, bm⟩ vf SL]) mix Tryd.func55 rfl (by kernel_rfl) (by kernel_rfl) rfl rfl ?_
 ((conv => arg 1; reduce); with_reducible repeat' first | exact ty | refine ta ?_ ?_ | refine ti fun _ => ?_ | refine tf fun _ => ?_ | refine tl ?_)
 all_goals try exact vlk
 · refine Stands.one (0, [], 0) ⟨⟨zn _, MSet.nil⟩, ?_⟩
   exact vgk
 iterate 4 (
  focus
  rename_i u0 u1 x3 h3 h4
  obtain ⟨s3, LM, lc⟩ := x3
  have h3 : s3 ≤ SL.length ∧ MSet LM lc ((SL.take s3).map (fun s => s.pl.1)) := h3
  have h4 : (s3 : Int) < (Sn : Int) := ow h4
  first
   | (exact on_of hR.2.2.2 (by omega)
      done)
   | (exact h4
      done)
   | (show s3 < Sl.length
      omega
      done))
 iterate 2 (
  focus
  rename_i u0 u1 x3 h3 h4 u2
  obtain ⟨s3, LM, lc⟩ := x3
  have h3 : s3 ≤ SL.length ∧ MSet LM lc ((SL.take s3).map (fun s => s.pl.1)) := h3
  have h4 : (s3 : Int) < (Sn : Int) := ow h4
  first
   | (exact inR64 (by show -9223372036854775808 ≤ (s3 : Int) + 1; omega) (by show (s3 : Int) + 1 ≤ 9223372036854775807; omega)
      done)
   | (have hs : s3 < SL.length := by omega
      have e : Sl.getD s3 slot0 = SL.getD s3 slot0 := hS.at (by omega)
      refine Stands.one (s3 + 1, mput (C0 3) (C0 4) LM (Sl.getD s3 slot0).pl.1 true lc, mclk (C0 3) (C0 4) LM (Sl.getD s3 slot0).pl.1 lc) ⟨⟨by show s3 + 1 ≤ SL.length; omega, ?_⟩, by show SL.length - (s3 + 1) < SL.length - s3; omega, ?_⟩
      · show MSet _ _ ((SL.take (s3 + 1)).map (fun s => s.pl.1))
        rw [take_map_snoc hs, e]
        exact h3.2.put _
      exact vgk
      done))
 · rename_i u0 u1 x3 h3 h4
   refine Stands.one (0, (false, 0, 0, [], 0, 0), (false, 0, 0, [], 0, 0)) ⟨⟨zn _, by show Gth (numL _ 0) _; rw [numL_zero]; exact Gth.nil, by show Gth (numL _ 0) _; rw [numL_zero]; exact Gth.nil⟩, ?_⟩
   exact vgk
 iterate 2 (
  focus
  rename_i u0 u1 x3 h3 h4 x8 h8 h9
  obtain ⟨s3, LM, lc⟩ := x3
  have h3 : s3 ≤ SL.length ∧ MSet LM lc ((SL.take s3).map (fun s => s.pl.1)) := h3
  have h4 : ¬ (s3 : Int) < (Sn : Int) := ov h4
  have e3 : s3 = SL.length := by omega
  have hL : MSet LM lc (SL.map (fun s => s.pl.1)) := by
   have := h3.2
   rw [e3, zu (zy _)] at this
   exact this
  obtain ⟨i, ⟨fo, fb, fq, fl, fn, fc⟩, ⟨do', db, dq, dl, dn, dc⟩⟩ := x8
  have h8 : i ≤ n ∧ Gth (numL (freP (sl.take sn) n (R.map fun r => r.l)) i) (fo, fb, fq, fl, fn, fc) ∧ Gth (numL (dirP (sl.take sn) n (R.map fun r => r.l) vf SL) i) (do', db, dq, dl, dn, dc) := h8
  have h9 : (i : Int) < (n : Int) := ow h9
  first
   | (exact h9
      done)
   | (show i < R.length
      omega
      done))
 · rename_i u0 u1 x3 h3 h4 x8 h8 h9 r hr
   obtain ⟨s3, LM, lc⟩ := x3
   have h3 : s3 ≤ SL.length ∧ MSet LM lc ((SL.take s3).map (fun s => s.pl.1)) := h3
   have h4 : ¬ (s3 : Int) < (Sn : Int) := ov h4
   have e3 : s3 = SL.length := by omega
   have hL : MSet LM lc (SL.map (fun s => s.pl.1)) := by
    have := h3.2
    rw [e3, zu (zy _)] at this
    exact this
   obtain ⟨i, ⟨fo, fb, fq, fl, fn, fc⟩, ⟨do', db, dq, dl, dn, dc⟩⟩ := x8
   have h8 : i ≤ n ∧ Gth (numL (freP (sl.take sn) n (R.map fun r => r.l)) i) (fo, fb, fq, fl, fn, fc) ∧ Gth (numL (dirP (sl.take sn) n (R.map fun r => r.l) vf SL) i) (do', db, dq, dl, dn, dc) := h8
   have h9 : (i : Int) < (n : Int) := ow h9
   change Rw Pg at r
   have hr : R.getD i Rw.nil = r := hr
   have hm : r ∈ R := by rw [← hr]; exact getD_mem (by omega)
   have hk : Rok r := hrok r hm
   have hl : r.l.length < 1000000 := hfew r hm
   have hw : rw (R.map fun r => r.l) i = r.l := by rw [rwR, hr]
   exact ⟨hsk.1, by show sn < 4611686018427387904; omega, hsk.2.2⟩
 iterate 2 (
  focus
  rename_i u0 u1 x3 h3 h4 x8 h8 h9 r hr hob
  obtain ⟨s3, LM, lc⟩ := x3
  have h3 : s3 ≤ SL.length ∧ MSet LM lc ((SL.take s3).map (fun s => s.pl.1)) := h3
  have h4 : ¬ (s3 : Int) < (Sn : Int) := ov h4
  have e3 : s3 = SL.length := by omega
  have hL : MSet LM lc (SL.map (fun s => s.pl.1)) := by
   have := h3.2
   rw [e3, zu (zy _)] at this
   exact this
  obtain ⟨i, ⟨fo, fb, fq, fl, fn, fc⟩, ⟨do', db, dq, dl, dn, dc⟩⟩ := x8
  have h8 : i ≤ n ∧ Gth (numL (freP (sl.take sn) n (R.map fun r => r.l)) i) (fo, fb, fq, fl, fn, fc) ∧ Gth (numL (dirP (sl.take sn) n (R.map fun r => r.l) vf SL) i) (do', db, dq, dl, dn, dc) := h8
  have h9 : (i : Int) < (n : Int) := ow h9
  change Rw Pg at r
  have hr : R.getD i Rw.nil = r := hr
  have hm : r ∈ R := by rw [← hr]; exact getD_mem (by omega)
  have hk : Rok r := hrok r hm
  have hl : r.l.length < 1000000 := hfew r hm
  have hw : rw (R.map fun r => r.l) i = r.l := by rw [rwR, hr]
  first
   | (exact inR64 (by show -9223372036854775808 ≤ (i : Int) + 1; omega) (by show (i : Int) + 1 ≤ 9223372036854775807; omega)
      done)
   | (have hob : outB (sl.take sn) n (R.map fun r => r.l) i = true := by unfold outB; rw [← hM.get]; exact hob
      have hf : freP (sl.take sn) n (R.map fun r => r.l) i = false := by unfold freP; rw [hob]; rfl
      have hd : dirP (sl.take sn) n (R.map fun r => r.l) vf SL i = false := by unfold dirP; rw [hob]; rfl
      refine Stands.one (i + 1, (fo, fb, fq, fl, fn, fc), (do', db, dq, dl, dn, dc)) ⟨⟨by show i + 1 ≤ n; omega, ?_, ?_⟩, by show n - (i + 1) < n - i; omega, ?_⟩
      · show Gth (numL (freP (sl.take sn) n (R.map fun r => r.l)) (i + 1)) _
        rw [numL_no hf]
        exact h8.2.1
      · show Gth (numL (dirP (sl.take sn) n (R.map fun r => r.l) vf SL) (i + 1)) _
        rw [numL_no hd]
        exact h8.2.2
      exact vgk
      done))
 iterate 2 (
  focus
  rename_i u0 u1 x3 h3 h4 x8 h8 h9 r hr hob hem u2
  obtain ⟨s3, LM, lc⟩ := x3
  have h3 : s3 ≤ SL.length ∧ MSet LM lc ((SL.take s3).map (fun s => s.pl.1)) := h3
  have h4 : ¬ (s3 : Int) < (Sn : Int) := ov h4
  have e3 : s3 = SL.length := by omega
  have hL : MSet LM lc (SL.map (fun s => s.pl.1)) := by
   have := h3.2
   rw [e3, zu (zy _)] at this
   exact this
  obtain ⟨i, ⟨fo, fb, fq, fl, fn, fc⟩, ⟨do', db, dq, dl, dn, dc⟩⟩ := x8
  have h8 : i ≤ n ∧ Gth (numL (freP (sl.take sn) n (R.map fun r => r.l)) i) (fo, fb, fq, fl, fn, fc) ∧ Gth (numL (dirP (sl.take sn) n (R.map fun r => r.l) vf SL) i) (do', db, dq, dl, dn, dc) := h8
  have h9 : (i : Int) < (n : Int) := ow h9
  change Rw Pg at r
  have hr : R.getD i Rw.nil = r := hr
  have hm : r ∈ R := by rw [← hr]; exact getD_mem (by omega)
  have hk : Rok r := hrok r hm
  have hl : r.l.length < 1000000 := hfew r hm
  have hw : rw (R.map fun r => r.l) i = r.l := by rw [rwR, hr]
  first
   | (have hG := h8.2.1.room
      have hnl := numL_len (p := freP (sl.take sn) n (R.map fun r => r.l)) (i := i)
      have hkn : fn ≤ i := by rw [hG.2.2.1]; exact hnl
      rw [by3]
      exact ⟨hG.1, by show 0 + fc ≤ fl.length; omega, by simp, by show (fn + 1) * 8 ≤ _; omega⟩
      done)
   | (exact h8.2.1.room.2.2.2
      done))
 iterate 2 (
  focus
  rename_i u0 u1 x3 h3 h4 x8 h8 h9 r hr hob hem u2 b9 q9 sp cp hc1 hc2
  obtain ⟨s3, LM, lc⟩ := x3
  have h3 : s3 ≤ SL.length ∧ MSet LM lc ((SL.take s3).map (fun s => s.pl.1)) := h3
  have h4 : ¬ (s3 : Int) < (Sn : Int) := ov h4
  have e3 : s3 = SL.length := by omega
  have hL : MSet LM lc (SL.map (fun s => s.pl.1)) := by
   have := h3.2
   rw [e3, zu (zy _)] at this
   exact this
  obtain ⟨i, ⟨fo, fb, fq, fl, fn, fc⟩, ⟨do', db, dq, dl, dn, dc⟩⟩ := x8
  have h8 : i ≤ n ∧ Gth (numL (freP (sl.take sn) n (R.map fun r => r.l)) i) (fo, fb, fq, fl, fn, fc) ∧ Gth (numL (dirP (sl.take sn) n (R.map fun r => r.l) vf SL) i) (do', db, dq, dl, dn, dc) := h8
  have h9 : (i : Int) < (n : Int) := ow h9
  change Rw Pg at r
  have hr : R.getD i Rw.nil = r := hr
  have hm : r ∈ R := by rw [← hr]; exact getD_mem (by omega)
  have hk : Rok r := hrok r hm
  have hl : r.l.length < 1000000 := hfew r hm
  have hw : rw (R.map fun r => r.l) i = r.l := by rw [rwR, hr]
  first
   | (exact inR64 (by show -9223372036854775808 ≤ (i : Int) + 1; omega) (by show (i : Int) + 1 ≤ 9223372036854775807; omega)
      done)
   | (have hob : outB (sl.take sn) n (R.map fun r => r.l) i = false := by unfold outB; rw [← hM.get]; exact hob
      have hem : (r.l.length : Int) = 0 := ow hem
      have hem : (rw (R.map fun r => r.l) i).length = 0 := by rw [hw]; omega
      have hf : freP (sl.take sn) n (R.map fun r => r.l) i = true := by unfold freP; rw [hob, decide_eq_true hem]; rfl
      have hd : dirP (sl.take sn) n (R.map fun r => r.l) vf SL i = false := by unfold dirP; rw [hob, decide_eq_true hem]; rfl
      refine Stands.one (i + 1, (true, b9, q9, fl.take fn ++ [(i : Int)] ++ sp, fn + 1, cp), (do', db, dq, dl, dn, dc)) ⟨⟨by show i + 1 ≤ n; omega, ?_, ?_⟩, by show n - (i + 1) < n - i; omega, ?_⟩
      · show Gth (numL (freP (sl.take sn) n (R.map fun r => r.l)) (i + 1)) _
        rw [numL_yes hf]
        exact h8.2.1.snoc hc1 hc2
      · show Gth (numL (dirP (sl.take sn) n (R.map fun r => r.l) vf SL) (i + 1)) _
        rw [numL_no hd]
        exact h8.2.2
      exact vgk
      done))
 · rename_i u0 u1 x3 h3 h4 x8 h8 h9 r hr hob hem
   obtain ⟨s3, LM, lc⟩ := x3
   have h3 : s3 ≤ SL.length ∧ MSet LM lc ((SL.take s3).map (fun s => s.pl.1)) := h3
   have h4 : ¬ (s3 : Int) < (Sn : Int) := ov h4
   have e3 : s3 = SL.length := by omega
   have hL : MSet LM lc (SL.map (fun s => s.pl.1)) := by
    have := h3.2
    rw [e3, zu (zy _)] at this
    exact this
   obtain ⟨i, ⟨fo, fb, fq, fl, fn, fc⟩, ⟨do', db, dq, dl, dn, dc⟩⟩ := x8
   have h8 : i ≤ n ∧ Gth (numL (freP (sl.take sn) n (R.map fun r => r.l)) i) (fo, fb, fq, fl, fn, fc) ∧ Gth (numL (dirP (sl.take sn) n (R.map fun r => r.l) vf SL) i) (do', db, dq, dl, dn, dc) := h8
   have h9 : (i : Int) < (n : Int) := ow h9
   change Rw Pg at r
   have hr : R.getD i Rw.nil = r := hr
   have hm : r ∈ R := by rw [← hr]; exact getD_mem (by omega)
   have hk : Rok r := hrok r hm
   have hl : r.l.length < 1000000 := hfew r hm
   have hw : rw (R.map fun r => r.l) i = r.l := by rw [rwR, hr]
   exact ⟨by omega, ⟨by omega, h9⟩, hrok⟩
 · rename_i u0 u1 x3 h3 h4 x8 h8 h9 r hr hob hem hda
   obtain ⟨s3, LM, lc⟩ := x3
   have h3 : s3 ≤ SL.length ∧ MSet LM lc ((SL.take s3).map (fun s => s.pl.1)) := h3
   have h4 : ¬ (s3 : Int) < (Sn : Int) := ov h4
   have e3 : s3 = SL.length := by omega
   have hL : MSet LM lc (SL.map (fun s => s.pl.1)) := by
    have := h3.2
    rw [e3, zu (zy _)] at this
    exact this
   obtain ⟨i, ⟨fo, fb, fq, fl, fn, fc⟩, ⟨do', db, dq, dl, dn, dc⟩⟩ := x8
   have h8 : i ≤ n ∧ Gth (numL (freP (sl.take sn) n (R.map fun r => r.l)) i) (fo, fb, fq, fl, fn, fc) ∧ Gth (numL (dirP (sl.take sn) n (R.map fun r => r.l) vf SL) i) (do', db, dq, dl, dn, dc) := h8
   have h9 : (i : Int) < (n : Int) := ow h9
   change Rw Pg at r
   have hr : R.getD i Rw.nil = r := hr
   have hm : r ∈ R := by rw [← hr]; exact getD_mem (by omega)
   have hk : Rok r := hrok r hm
   have hl : r.l.length < 1000000 := hfew r hm
   have hw : rw (R.map fun r => r.l) i = r.l := by rw [rwR, hr]
   exact ⟨zy _, by show r.l.length < 4611686018427387904; omega, hk.1⟩
 iterate 2 (
  focus
  rename_i u0 u1 x3 h3 h4 x8 h8 h9 r hr hob hem hda u2
  obtain ⟨s3, LM, lc⟩ := x3
  have h3 : s3 ≤ SL.length ∧ MSet LM lc ((SL.take s3).map (fun s => s.pl.1)) := h3
  have h4 : ¬ (s3 : Int) < (Sn : Int) := ov h4
  have e3 : s3 = SL.length := by omega
  have hL : MSet LM lc (SL.map (fun s => s.pl.1)) := by
   have := h3.2
   rw [e3, zu (zy _)] at this
   exact this
  obtain ⟨i, ⟨fo, fb, fq, fl, fn, fc⟩, ⟨do', db, dq, dl, dn, dc⟩⟩ := x8
  have h8 : i ≤ n ∧ Gth (numL (freP (sl.take sn) n (R.map fun r => r.l)) i) (fo, fb, fq, fl, fn, fc) ∧ Gth (numL (dirP (sl.take sn) n (R.map fun r => r.l) vf SL) i) (do', db, dq, dl, dn, dc) := h8
  have h9 : (i : Int) < (n : Int) := ow h9
  change Rw Pg at r
  have hr : R.getD i Rw.nil = r := hr
  have hm : r ∈ R := by rw [← hr]; exact getD_mem (by omega)
  have hk : Rok r := hrok r hm
  have hl : r.l.length < 1000000 := hfew r hm
  have hw : rw (R.map fun r => r.l) i = r.l := by rw [rwR, hr]
  first
   | (have hG := h8.2.2.room
      have hnl := numL_len (p := dirP (sl.take sn) n (R.map fun r => r.l) vf SL) (i := i)
      have hkn : dn ≤ i := by rw [hG.2.2.1]; exact hnl
      rw [by3]
      exact ⟨hG.1, by show 0 + dc ≤ dl.length; omega, by simp, by show (dn + 1) * 8 ≤ _; omega⟩
      done)
   | (exact h8.2.2.room.2.2.2
      done))
 iterate 2 (
  focus
  rename_i u0 u1 x3 h3 h4 x8 h8 h9 r hr hob hem hda u2 b9 q9 sp cp hc1 hc2
  obtain ⟨s3, LM, lc⟩ := x3
  have h3 : s3 ≤ SL.length ∧ MSet LM lc ((SL.take s3).map (fun s => s.pl.1)) := h3
  have h4 : ¬ (s3 : Int) < (Sn : Int) := ov h4
  have e3 : s3 = SL.length := by omega
  have hL : MSet LM lc (SL.map (fun s => s.pl.1)) := by
   have := h3.2
   rw [e3, zu (zy _)] at this
   exact this
  obtain ⟨i, ⟨fo, fb, fq, fl, fn, fc⟩, ⟨do', db, dq, dl, dn, dc⟩⟩ := x8
  have h8 : i ≤ n ∧ Gth (numL (freP (sl.take sn) n (R.map fun r => r.l)) i) (fo, fb, fq, fl, fn, fc) ∧ Gth (numL (dirP (sl.take sn) n (R.map fun r => r.l) vf SL) i) (do', db, dq, dl, dn, dc) := h8
  have h9 : (i : Int) < (n : Int) := ow h9
  change Rw Pg at r
  have hr : R.getD i Rw.nil = r := hr
  have hm : r ∈ R := by rw [← hr]; exact getD_mem (by omega)
  have hk : Rok r := hrok r hm
  have hl : r.l.length < 1000000 := hfew r hm
  have hw : rw (R.map fun r => r.l) i = r.l := by rw [rwR, hr]
  first
   | (exact inR64 (by show -9223372036854775808 ≤ (i : Int) + 1; omega) (by show (i : Int) + 1 ≤ 9223372036854775807; omega)
      done)
   | (have hob : outB (sl.take sn) n (R.map fun r => r.l) i = false := by unfold outB; rw [← hM.get]; exact hob
      have hem : ¬ (r.l.length : Int) = 0 := ov hem
      have hem : ¬ (rw (R.map fun r => r.l) i).length = 0 := by rw [hw]; omega
      have hf : freP (sl.take sn) n (R.map fun r => r.l) i = false := by unfold freP; rw [hob, decide_eq_false hem]; rfl
      have hda : (!isHd (i : Int) (R.getD i Rw.nil).l || !mgetB LM (i : Int) || anyF (amP vf) (r.l.take r.l.length)) = true := hda
      have hdd : (!isHd (i : Int) (rw (R.map fun r => r.l) i) || !decide ((i : Int) ∈ SL.map (fun s => s.pl.1)) || anyF (amP vf) (rw (R.map fun r => r.l) i)) = true := by
       rw [rwR, ← hL.get]
       rw [zu (zy _)] at hda
       rw [← hr] at hda
       exact hda
      have hd : dirP (sl.take sn) n (R.map fun r => r.l) vf SL i = true := by unfold dirP; rw [hob, decide_eq_false hem, hdd]; rfl
      refine Stands.one (i + 1, (fo, fb, fq, fl, fn, fc), (true, b9, q9, dl.take dn ++ [(i : Int)] ++ sp, dn + 1, cp)) ⟨⟨by show i + 1 ≤ n; omega, ?_, ?_⟩, by show n - (i + 1) < n - i; omega, ?_⟩
      · show Gth (numL (freP (sl.take sn) n (R.map fun r => r.l)) (i + 1)) _
        rw [numL_no hf]
        exact h8.2.1
      · show Gth (numL (dirP (sl.take sn) n (R.map fun r => r.l) vf SL) (i + 1)) _
        rw [numL_yes hd]
        exact h8.2.2.snoc hc1 hc2
      exact vgk
      done))
 iterate 2 (
  focus
  rename_i u0 u1 x3 h3 h4 x8 h8 h9 r hr hob hem hda
  obtain ⟨s3, LM, lc⟩ := x3
  have h3 : s3 ≤ SL.length ∧ MSet LM lc ((SL.take s3).map (fun s => s.pl.1)) := h3
  have h4 : ¬ (s3 : Int) < (Sn : Int) := ov h4
  have e3 : s3 = SL.length := by omega
  have hL : MSet LM lc (SL.map (fun s => s.pl.1)) := by
   have := h3.2
   rw [e3, zu (zy _)] at this
   exact this
  obtain ⟨i, ⟨fo, fb, fq, fl, fn, fc⟩, ⟨do', db, dq, dl, dn, dc⟩⟩ := x8
  have h8 : i ≤ n ∧ Gth (numL (freP (sl.take sn) n (R.map fun r => r.l)) i) (fo, fb, fq, fl, fn, fc) ∧ Gth (numL (dirP (sl.take sn) n (R.map fun r => r.l) vf SL) i) (do', db, dq, dl, dn, dc) := h8
  have h9 : (i : Int) < (n : Int) := ow h9
  change Rw Pg at r
  have hr : R.getD i Rw.nil = r := hr
  have hm : r ∈ R := by rw [← hr]; exact getD_mem (by omega)
  have hk : Rok r := hrok r hm
  have hl : r.l.length < 1000000 := hfew r hm
  have hw : rw (R.map fun r => r.l) i = r.l := by rw [rwR, hr]
  first
   | (exact inR64 (by show -9223372036854775808 ≤ (i : Int) + 1; omega) (by show (i : Int) + 1 ≤ 9223372036854775807; omega)
      done)
   | (have hob : outB (sl.take sn) n (R.map fun r => r.l) i = false := by unfold outB; rw [← hM.get]; exact hob
      have hem : ¬ (r.l.length : Int) = 0 := ov hem
      have hem : ¬ (rw (R.map fun r => r.l) i).length = 0 := by rw [hw]; omega
      have hf : freP (sl.take sn) n (R.map fun r => r.l) i = false := by unfold freP; rw [hob, decide_eq_false hem]; rfl
      have hda : (!isHd (i : Int) (R.getD i Rw.nil).l || !mgetB LM (i : Int) || anyF (amP vf) (r.l.take r.l.length)) = false := hda
      have hdd : (!isHd (i : Int) (rw (R.map fun r => r.l) i) || !decide ((i : Int) ∈ SL.map (fun s => s.pl.1)) || anyF (amP vf) (rw (R.map fun r => r.l) i)) = false := by
       rw [rwR, ← hL.get]
       rw [zu (zy _)] at hda
       rw [← hr] at hda
       exact hda
      have hd : dirP (sl.take sn) n (R.map fun r => r.l) vf SL i = false := by unfold dirP; rw [hob, decide_eq_false hem, hdd]; rfl
      refine Stands.one (i + 1, (fo, fb, fq, fl, fn, fc), (do', db, dq, dl, dn, dc)) ⟨⟨by show i + 1 ≤ n; omega, ?_, ?_⟩, by show n - (i + 1) < n - i; omega, ?_⟩
      · show Gth (numL (freP (sl.take sn) n (R.map fun r => r.l)) (i + 1)) _
        rw [numL_no hf]
        exact h8.2.1
      · show Gth (numL (dirP (sl.take sn) n (R.map fun r => r.l) vf SL) (i + 1)) _
        rw [numL_no hd]
        exact h8.2.2
      exact vgk
      done))
 · rename_i u0 u1 x3 h3 h4 x8 h8 h9
   obtain ⟨s3, LM, lc⟩ := x3
   have h3 : s3 ≤ SL.length ∧ MSet LM lc ((SL.take s3).map (fun s => s.pl.1)) := h3
   have h4 : ¬ (s3 : Int) < (Sn : Int) := ov h4
   have e3 : s3 = SL.length := by omega
   have hL : MSet LM lc (SL.map (fun s => s.pl.1)) := by
    have := h3.2
    rw [e3, zu (zy _)] at this
    exact this
   obtain ⟨i, ⟨fo, fb, fq, fl, fn, fc⟩, ⟨do', db, dq, dl, dn, dc⟩⟩ := x8
   have h8 : i ≤ n ∧ Gth (numL (freP (sl.take sn) n (R.map fun r => r.l)) i) (fo, fb, fq, fl, fn, fc) ∧ Gth (numL (dirP (sl.take sn) n (R.map fun r => r.l) vf SL) i) (do', db, dq, dl, dn, dc) := h8
   have h9 : ¬ (i : Int) < (n : Int) := ov h9
   have e : i = n := by omega
   subst e
   refine Ends.one ((fo, fb, fq, fl, fn, fc), (do', db, dq, dl, dn, dc)) ⟨h8.2.1, h8.2.2⟩ ?_
   exact vgk
end Go.Vx.Sc
namespace Go.Vx.Sc
open Go Go.Proofs
variable [Gl]
noncomputable def fcNumbers : Fc Tryd.prog C0 where
 tg := .fn 53
 X := Cx
 args := fun _ => [.ptr 0 0 0]
 mem := fun x => [chW true x out0, chG x, chM true x [] 0, chS x]
 pre := fun x => x.ok
 alts := fun x => [⟨Bm × Nat × Sq Int, fun y => MSet y.1 y.2.1 (badTo x.n x.Q x.n) ∧ Gth (badL x.n x.Q) y.2.2, fun _ => .tup [], fun y => numOut x y⟩]
 mat vs m := match vs with
  | [.ptr a _ _] => match nth m a with
    | ⟨bc, qc, _, _, _, .one (.int _ bs :: .int _ ps :: .int _ ss :: .sl s _ sn sc :: .sl g _ n c :: .mp p :: _)⟩ => match nth m g, nth m p, nth m s with
      | ⟨bg, qg, _, _, _, .rows 63 R⟩, ⟨bm, _, _, _, _, .mp 3 4 _ _⟩, ⟨sb, sq, _, _, so, .rows 3 sl⟩ => some (⟨bc, qc, bs, ps, ss, onOf so, sb, sq, sl, sn, sc, bg, qg, R, n, c, bm⟩, [a, g, p, s])
      | _, _, _ => none
    | _ => none
  | _ => none
 ok := fun x h => numbers_ok x h
noncomputable def fcSlots : Fc Tryd.prog C0 where
 tg := .fn 54
 X := Cx × Nm × Sq Int × Bm × Nat
 args := fun _ => [.ptr 0 0 0]
 mem := fun (x, v, bd, M, clk) => [chW true x (outS v bd .nils .nils), chG x, chM true x M clk, chS x, chB bd]
 pre := fun (x, v, bd, M, clk) => x.ok ∧ MSet M clk (badTo x.n x.Q x.n)
 alts := fun (x, v, bd, M, clk) => [⟨Sq Slot × Sq Pl, fun y => Gth (sloL (geo x) v.f (cTo x x.n) (keyL (geo x) (cTo x x.n))) y.1 ∧ Gth (orfL v.f (cTo x x.n)) y.2, fun _ => .tup [], fun y => sloO x v bd M clk y⟩]
 mat vs m := match vs with
  | [.ptr a _ _] => match nth m a with
    | ⟨bc, qc, _, _, _, .one [.int _ bs, .int _ ps, .int _ ss, .sl s _ sn sc, .sl g _ n c, .mp p, _, .int _ v1, .int _ v2, .int _ v3, .int _ v4, _, _, .sl b _ bn bx, _]⟩ => match nth m g, nth m p, nth m s, nth m b with
      | ⟨bg, qg, _, _, _, .rows 63 R⟩, ⟨bm, _, _, _, _, .mp 3 4 M clk⟩, ⟨sb, sq, _, _, so, .rows 3 sl⟩, ⟨bb, bq, _, _, bo, .rows 3 bl⟩ => some ((⟨bc, qc, bs, ps, ss, onOf so, sb, sq, sl, sn, sc, bg, qg, R, n, c, bm⟩, ⟨v1, v2, v3, v4⟩, (onOf bo, bb, bq, bl, bn, bx), M, clk), [a, g, p, s, b])
      | _, _, _, _ => none
    | _ => none
  | _ => none
 ok := fun (x, v, bd, M, clk) h => slots_ok x h.1 v bd M clk h.2
noncomputable def fcRest : Fc Tryd.prog C0 where
 tg := .fn 55
 X := Cx × Nm × Sq Int × Bm × Nat × Sq Slot × Sq Pl
 args := fun _ => [.ptr 0 0 0]
 mem := fun (x, v, bd, M, clk, S, O) => [chW true x (outS v bd (svL 5 S) (svO 6 O)), chG x, chM true x M clk, chS x, chB bd, chL S, chO O]
 pre := fun (x, v, bd, M, clk, S, O) => x.ok ∧ MSet M clk (badTo x.n x.Q x.n) ∧ Gth (S.2.2.2.1.take S.2.2.2.2.1) S ∧ (S.2.2.2.1.take S.2.2.2.2.1).length ≤ 536871100
 alts := fun (x, v, bd, M, clk, S, O) => [⟨Sq Int × Sq Int, fun y => Gth (numL (freP (skp x) x.n x.Q) x.n) y.1 ∧ Gth (numL (dirP (skp x) x.n x.Q v.f (S.2.2.2.1.take S.2.2.2.2.1)) x.n) y.2, fun _ => .tup [],
  fun y => [chW true x (outR v bd (svL 5 S) (svI 7 y.1) (svI 8 y.2) (svO 6 O)), chG x, chM true x M clk, chS x, chB bd, chL S, chO O, chI y.1, chI y.2]⟩]
 mat vs m := match vs with
  | [.ptr a _ _] => match nth m a with
    | ⟨bc, qc, _, _, _, .one [.int _ bs, .int _ ps, .int _ ss, .sl s _ sn sc, .sl g _ n c, .mp p, .sl u _ un uc, .int _ v1, .int _ v2, .int _ v3, .int _ v4, _, _, .sl b _ bn bx, .sl w _ wn wc]⟩ => match nth m g, nth m p, nth m s, nth m b with
      | ⟨bg, qg, _, _, _, .rows 63 R⟩, ⟨bm, _, _, _, _, .mp 3 4 M clk⟩, ⟨sb, sq, _, _, so, .rows 3 sl⟩, ⟨bb, bq, _, _, bo, .rows 3 bl⟩ => match nth m u, nth m w with
        | ⟨ub, uq, _, _, uo, .rows 88 ul⟩, ⟨wb, wq, _, _, wo, .rows 66 wl⟩ => some ((⟨bc, qc, bs, ps, ss, onOf so, sb, sq, sl, sn, sc, bg, qg, R, n, c, bm⟩, ⟨v1, v2, v3, v4⟩, (onOf bo, bb, bq, bl, bn, bx), M, clk, (onOf uo, ub, uq, ul, un, uc), (onOf wo, wb, wq, wl, wn, wc)), [a, g, p, s, b, u, w])
        | _, _ => none
      | _, _, _, _ => none
    | _ => none
  | _ => none
 ok := fun (x, v, bd, M, clk, S, O) h => rest_ok x h.1 v bd M clk h.2.1 S O _ h.2.2.1 h.2.2.2
end Go.Vx.Sc
namespace Go.Vx.Sc
open Go Go.Proofs
variable [Gl]
def isB (b : Nat) (p : Pg) : Bool := decide (p.pl.1 = (b : Int)) && !decide (p.cl = 2)
@[irreducible] def blkL (L : List Pg) (b : Nat) : List Pg := L.filter (isB b)
section
variable {L : List Pg} {p : Pg} {b : Nat}
theorem blkL_yes (h : isB b p = true) : blkL (L ++ [p]) b = blkL L b ++ [p] := by
 unfold blkL
 rw [ze, yw h, yg]
theorem blkL_no (h : isB b p = false) : blkL (L ++ [p]) b = blkL L b := by
 unfold blkL
 rw [ze, yj (by rw [h]; exact xg), yg, zk]
theorem blkL_nil : blkL [] b = [] := by unfold blkL; rfl
theorem blkL_len : (blkL L b).length ≤ L.length := by unfold blkL; exact xa _ _
end
@[irreducible] def gridL (n : Nat) (L : List Pg) : List (List Pg) := (vh n).map fun b => blkL L b
theorem gridL_at {n : Nat} {L : List Pg} {b : Nat} (h : b < n) : rw (gridL n L) b = blkL L b := by
 unfold gridL rw
 rw [zz, zh, List.getElem?_range h]; rfl
theorem gridL_len {n : Nat} {L : List Pg} : (gridL n L).length = n := by unfold gridL; simp
structure GOK (n : Nat) (so : Bool) (sb : Nat) (lo : Bool) (lb : Nat) (L : List Pg) (R : List (Rw Pg)) : Prop where
 len : R.length = n
 row : ∀ b, b < n → (R.getD b Rw.nil).l = blkL L b
 rok : ∀ b, b < n → ((R.getD b Rw.nil).on = false → (R.getD b Rw.nil).l.length = 0 ∧ (R.getD b Rw.nil).m = 0) ∧ (R.getD b Rw.nil).l.length ≤ (R.getD b Rw.nil).m
 far : ∀ b, b < n → (R.getD b Rw.nil).on = true → (so = true → (R.getD b Rw.nil).b ≠ sb) ∧ (lo = true → (R.getD b Rw.nil).b ≠ lb)
 two : ∀ a b, a < n → b < n → a ≠ b → (R.getD a Rw.nil).on = true → (R.getD b Rw.nil).on = true → (R.getD a Rw.nil).b ≠ (R.getD b Rw.nil).b
theorem getD_repl (n b : Nat) : (zq n (Rw.nil : Rw Pg)).getD b Rw.nil = Rw.nil := by
 rw [zz]
 by_cases h : b < n
 · rw [List.getElem?_replicate, if_pos h]; rfl
 · rw [ya (by simp; omega)]; rfl
theorem getD_put {R : List (Rw Pg)} {a b : Nat} {r : Rw Pg} (h : a < R.length) : (R.set a r).getD b Rw.nil = if a = b then r else R.getD b Rw.nil := by
 rw [zz, zz, List.getElem?_set]
 by_cases e : a = b
 · rw [if_pos e, if_pos h, if_pos e]; rfl
 · rw [if_neg e, if_neg e]
section
variable {n : Nat} {so lo : Bool} {sb lb : Nat} {L : List Pg} {R : List (Rw Pg)}
theorem GOK.nil : GOK n so sb lo lb [] (zq n Rw.nil) := by
 refine ⟨by simp, fun b _ => ?_, fun b _ => ?_, fun b _ h => ?_, fun a b _ _ _ h => ?_⟩
 · rw [getD_repl, blkL_nil]; rfl
 · rw [getD_repl]; exact ⟨fun _ => ⟨rfl, rfl⟩, zy _⟩
 · rw [getD_repl] at h; cases h
 · rw [getD_repl] at h; cases h
theorem GOK.no (h : GOK n so sb lo lb L R) {p : Pg} (hp : p.cl = 2) : GOK n so sb lo lb (L ++ [p]) R :=
 ⟨h.len, fun b hb => by rw [blkL_no (by unfold isB; rw [decide_eq_true hp]; simp)]; exact h.row b hb, h.rok, h.far, h.two⟩
theorem GOK.put (h : GOK n so sb lo lb L R) {p : Pg} {a : Nat} (ha : a < n) (hpa : p.pl.1 = (a : Int)) (hp : ¬ p.cl = 2) {b q c : Nat} (hc : (blkL L a).length + 1 ≤ c)
 (hb : ((R.getD a Rw.nil).on = true ∧ b = (R.getD a Rw.nil).b) ∨ ((so = true → b ≠ sb) ∧ (lo = true → b ≠ lb) ∧ ∀ r ∈ R, b ∉ r.blks)) :
 GOK n so sb lo lb (L ++ [p]) (R.set a ⟨true, b, q, c, blkL L a ++ [p]⟩) := by
 have hla : a < R.length := by rw [h.len]; exact ha
 have hfar : ((so = true → b ≠ sb) ∧ (lo = true → b ≠ lb)) ∧ ∀ j, j < n → j ≠ a → (R.getD j Rw.nil).on = true → (R.getD j Rw.nil).b ≠ b := by
  rcases hb with ⟨h1, rfl⟩ | ⟨h1, h2, h3⟩
  · exact ⟨h.far a ha h1, fun j hj hja hon => h.two j a hj ha hja hon h1⟩
  · refine ⟨⟨h1, h2⟩, fun j hj _ hon e => h3 (R.getD j Rw.nil) (getD_mem (by rw [h.len]; exact hj)) ?_⟩
    unfold Rw.blks
    rw [hon]; exact List.mem_singleton.2 e.symm
 have hya : isB a p = true := by unfold isB; rw [decide_eq_true hpa, decide_eq_false hp]; rfl
 have hno : ∀ j, j ≠ a → isB j p = false := by
  intro j hj
  unfold isB
  rw [decide_eq_false (fun e => hj (by rw [hpa] at e; exact (Int.ofNat.inj e).symm))]; rfl
 refine ⟨by rw [List.length_set]; exact h.len, fun j hj => ?_, fun j hj => ?_, fun j hj hon => ?_, fun i j hi hj hij hon hon' => ?_⟩
 · rw [getD_put hla]
   split
   · rename_i e; subst e; rw [blkL_yes hya]
   · rename_i e; rw [blkL_no (hno j (Ne.symm e))]; exact h.row j hj
 · rw [getD_put hla]
   split
   · exact ⟨fun h => (by cases h), by show (_ ++ [p]).length ≤ c; simp; omega⟩
   · exact h.rok j hj
 · rw [getD_put hla] at hon ⊢
   split
   · exact hfar.1
   · rename_i e; rw [if_neg e] at hon; exact h.far j hj hon
 · rw [getD_put hla] at hon hon' ⊢
   rw [getD_put hla]
   by_cases ei : a = i
   · rw [if_pos ei]
     rw [if_neg (fun e => hij (ei.symm.trans e))] at hon' ⊢
     exact Ne.symm (hfar.2 j hj (fun e => hij (ei.symm.trans e.symm)) hon')
   · rw [if_neg ei] at hon ⊢
     by_cases ej : a = j
     · rw [if_pos ej]; exact hfar.2 i hi (Ne.symm ei) hon
     · rw [if_neg ej] at hon' ⊢; exact h.two i j hi hj hij hon hon'
theorem GOK.mem (h : GOK n so sb lo lb L R) (hl : L.length < 1000000) : ∀ r ∈ R, Rok r ∧ r.l.length < 1000000 := by
 intro r hr
 obtain ⟨b, hb, rfl⟩ := td hr
 have hbn : b < n := by rw [← h.len]; exact hb
 have e : R.getD b Rw.nil = R[b] := by rw [zz, zv hb]; rfl
 have h1 := h.rok b hbn
 have h2 := h.row b hbn
 rw [e] at h1 h2
 have h3 : R[b].l.length ≤ L.length := by rw [h2]; exact blkL_len
 exact ⟨⟨h1.1, h1.2, by omega⟩, by omega⟩
theorem GOK.grid (h : GOK n so sb lo lb L R) : (R.map fun r => r.l) = gridL n L := by
 refine List.ext_getElem (by rw [zt, h.len, gridL_len]) fun b h1 h2 => ?_
 rw [zt] at h1
 have hbn : b < n := by rw [← h.len]; exact h1
 have e : R.getD b Rw.nil = R[b] := by rw [zz, zv h1]; rfl
 have h3 := gridL_at (L := L) hbn
 unfold rw at h3
 rw [zz, zv h2] at h3
 rw [ru, ← e, h.row b hbn]
 exact h3.symm
theorem GOK.excl (h : GOK n so sb lo lb L R) {a : Nat} (ha : a < n) (hon : (R.getD a Rw.nil).on = true) : ∀ j, j < R.length → j ≠ a → (R.getD a Rw.nil).b ∉ (R.getD j Rw.nil).blks := by
 intro j hj hja hb
 unfold Rw.blks at hb
 cases ho : (R.getD j Rw.nil).on with
 | false => rw [ho] at hb; cases hb
 | true =>
   rw [ho] at hb
   exact h.two a j ha (by rw [← h.len]; exact hj) (Ne.symm hja) hon ho (List.mem_singleton.1 hb)
end
def pgBad (bs ps : Int) (sk : List Int) (L : List Pg) (i : Nat) : Bool :=
 !(decide (0 ≤ (L.getD i pg0).pl.1) && decide ((L.getD i pg0).pl.1 < bs) && decide (0 ≤ (L.getD i pg0).pl.2) && decide ((L.getD i pg0).pl.2 < ps))
 || (decide (0 < (i : Int)) && decide (0 ≤ plc (L.getD (i - 1) pg0).pl (L.getD i pg0).pl)) || anyF (eqI (L.getD i pg0).pl.1) sk || decide ((L.getD i pg0).cl < 1) || decide (3 < (L.getD i pg0).cl)
theorem pgBad_no {bs ps : Int} {sk : List Int} {L : List Pg} {i : Nat} (h : pgBad bs ps sk L i = false) :
 0 ≤ (L.getD i pg0).pl.1 ∧ (L.getD i pg0).pl.1 < bs ∧ 0 ≤ (L.getD i pg0).pl.2 ∧ (L.getD i pg0).pl.2 < ps ∧ (0 < i → plLt (L.getD (i - 1) pg0).pl (L.getD i pg0).pl) ∧ anyF (eqI (L.getD i pg0).pl.1) sk = false ∧ 1 ≤ (L.getD i pg0).cl ∧ (L.getD i pg0).cl ≤ 3 := by
 unfold pgBad at h
 simp only [Bool.or_eq_false_iff, Bool.not_eq_false', zx, decide_eq_true_eq, decide_eq_false_iff_not, Bool.and_eq_false_iff] at h
 obtain ⟨⟨⟨⟨⟨⟨⟨h1, h2⟩, h3⟩, h4⟩, h5⟩, h6⟩, h7⟩, h8⟩ := h
 refine ⟨h1, h2, h3, h4, fun hi => ?_, h6, by omega, by omega⟩
 rcases h5 with h5 | h5
 · omega
 · exact plc_lt.1 (by omega)
def nmOf (n : Nat) (Q : List (List Pg)) : Nm := ⟨fTo (mxH Me.seq) allF Q n, fTo (mxH Me.stamp) allF Q n, max (fTo (mxH Me.batch) allF Q n) (fTo flH (cntF n Q) Q n), fTo flH (cntF n Q) Q n⟩
def cntP (n : Nat) (Q : List (List Pg)) : List Pg := pgsTo (cntF n Q) Q n
def sloS (g : Geo) (n : Nat) (Q : List (List Pg)) : List Slot := sloL g (nmOf n Q).f (cntP n Q) (keyL g (cntP n Q))
def freS (sk : List Int) (n : Nat) (Q : List (List Pg)) : List Int := numL (freP sk n Q) n
def dirS (g : Geo) (sk : List Int) (n : Nat) (Q : List (List Pg)) : List Int := numL (dirP sk n Q (nmOf n Q).f (sloS g n Q)) n
def orfS (n : Nat) (Q : List (List Pg)) : List Pl := orfL (nmOf n Q).f (cntP n Q)
end Go.Vx.Sc
