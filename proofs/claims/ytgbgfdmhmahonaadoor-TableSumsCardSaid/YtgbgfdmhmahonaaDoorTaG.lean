/-
  Round 20: a table's slots that are asked for, in order.
  Conditions: none.
-/
import Derived.Test.YtgbgfdmhmahonaaDoorTaF
set_option linter.unusedSectionVars false
set_option maxRecDepth 100000
set_option linter.unusedVariables false
set_option linter.unusedSimpArgs false
namespace Go.Vx
open Go Go.Proofs
variable [Gl]

def pcSlots1 : Pc Tryd.prog C0 where
  tg := .fn 30
  X := Nat × Nat × Slot × Int
  args := fun (b, q, s, n) => [.agg (slotE s), .ptr 0 0 0]
  mem := fun (b, q, s, n) => [⟨b, q, 1, false, none, .one [.int .i64 n]⟩]
  pre := fun _ => True
  res := fun (b, q, s, n) => .bool (.tm (decide (s.pl.1 = n)))
  mat vs m := match vs with
    | [.agg [.int _ k, .int _ a, .int _ p, .int _ m1, .int _ m2, .int _ m3, .int _ m4, .int _ m5, .int _ m6], .ptr r 0 0] => match nth m r with
      | ⟨b, q, _, _, _, .one [.int _ n]⟩ => some ((b, q, ⟨k, (a, p), ⟨m1, m2, m3, m4, m5, m6⟩⟩, n), [r])
      | _ => none
    | _ => none
  ok := fun (b, q, s, n) _ => slots1_ok b q s n
def pcAll1 : Pc Tryd.prog C0 where
  tg := .fn 32
  X := Slot
  args := fun s => [.agg (slotE s)]
  mem := fun _ => []
  pre := fun _ => True
  res := fun _ => .bool .t
  mat vs m := match vs with
    | [.agg [.int _ k, .int _ a, .int _ p, .int _ m1, .int _ m2, .int _ m3, .int _ m4, .int _ m5, .int _ m6]] => some (⟨k, (a, p), ⟨m1, m2, m3, m4, m5, m6⟩⟩, [])
    | _ => none
  ok := fun s _ => all1_ok s
abbrev Ke := Int × Slot × Nat
abbrev bns (v : List Ke) : List Nat := v.map (·.2.2)
abbrev lft (l v : List Ke) : List Ke := leftOf (C0 3) (C0 53) l (bns v)
abbrev Vis (x : Tb) (v : List Ke) : Prop := (v ++ lft x.kl v).Perm x.kl
theorem Vis.nil (x : Tb) : Vis x [] := by
  show ([] ++ leftOf (C0 3) (C0 53) x.kl []).Perm x.kl
  unfold leftOf
  rw [List.nil_append, List.filter_eq_self.2 (fun e _ => by simp)]
theorem Vis.add {x : Tb} (h : Rep x) {v : List Ke} (hv : Vis x v) {e : Ke} (he : e ∈ x.kl ∧ ¬ e.2.2 ∈ bns v) : Vis x (v ++ [e]) ∧ (lft x.kl (v ++ [e])).length < (lft x.kl v).length := by
  have hp := leftOf_perm he.1 he.2 h.bk.nd
  have e1 : bns (v ++ [e]) = bns v ++ [e.2.2] := by simp
  have e2 : lft x.kl (v ++ [e]) = leftOf (C0 3) (C0 53) x.kl (bns v ++ [e.2.2]) := congrArg (leftOf (C0 3) (C0 53) x.kl) e1
  constructor
  · show (v ++ [e] ++ lft x.kl (v ++ [e])).Perm x.kl
    rw [e2, List.append_assoc]
    exact ((List.Perm.append_left v hp.symm).trans hv)
  · rw [e2, hp.length_eq]; exact Nat.lt_succ_self _
theorem Vis.done {x : Tb} {v : List Ke} (hv : Vis x v) (h : ∀ e ∈ x.kl, e.2.2 ∈ bns v) : v.Perm x.kl := by
  have : lft x.kl v = [] := by
    show leftOf (C0 3) (C0 53) x.kl (bns v) = []
    unfold leftOf
    rw [List.filter_eq_nil_iff]
    intro e he
    simpa using h e he
  have hv' : (v ++ lft x.kl v).Perm x.kl := hv
  rw [this, List.append_nil] at hv'
  exact hv'
theorem mat_last {x : Tb} (h : Rep x) {v : List Nat} {e : Ke} (he : e ∈ x.kl) : mat (C0 3) (C0 53) (lastS (v ++ [e.2.2])) x.kl = e := by
  rw [lastS_add]; exact mat_of h.bk.nd he
theorem next_c {x : Tb} (h : Rep x) : ∀ e : Ke, e ∈ x.kl → e.2.2 < x.kc := h.bk.old
theorem entry_c {x : Tb} {v : List Nat} {e : Ke} (he : e ∈ x.kl) : v ++ [e.2.2] ≠ [] ∧ mhasS (C0 3) (C0 53) x.kl (lastS (v ++ [e.2.2])) = true := by
  refine ⟨by simp, ?_⟩
  rw [lastS_add]; exact mhasS_of he
theorem filt_add {p : Slot → Bool} {v : List Ke} {e : Ke} (h : p e.2.1 = true) : ((v ++ [e]).map (·.2.1)).filter p = (v.map (·.2.1)).filter p ++ [e.2.1] := by
  simp [h]
theorem filt_no {p : Slot → Bool} {v : List Ke} {e : Ke} (h : p e.2.1 = false) : ((v ++ [e]).map (·.2.1)).filter p = (v.map (·.2.1)).filter p := by
  simp [h]
/-- Nothing met yet that is asked for. -/
def Sl0 (x : Tb) (p : Slot → Bool) : Inv' C0 := ⟨3, List Ke, fun _ => [(7, .nils)],
  fun v m => match m with
    | [a, b, c, d, it] => [a, b, c, d, ⟨it.block, it.base, it.sz, it.wr, it.gl, .it 1 (bns v) x.kc⟩]
    | m => m,
  fun v => Vis x v ∧ (v.map (·.2.1)).filter p = [], fun v => (lft x.kl v).length⟩
/-- Some are there. -/
def Sl1 (x : Tb) (p : Slot → Bool) : Inv' C0 := ⟨3, List Ke × Nat × Nat × List Slot × Nat × Nat, fun (v, b, q, l, n, c) => [(7, .sl 5 0 n c)],
  fun (v, rb, rq, l, n, c) m => match m with
    | [a, b, c, d, it] => [a, b, c, d, ⟨it.block, it.base, it.sz, it.wr, it.gl, .it 1 (bns v) x.kc⟩, ⟨rb, rq, 9, true, none, .rows 53 l⟩]
    | m => m,
  fun (v, b, q, l, n, c) => Vis x v ∧ (v.map (·.2.1)).filter p = l.take n ∧ 0 < n ∧ n ≤ c ∧ c ≤ l.length ∧ n ≤ v.length, fun (v, _) => (lft x.kl v).length⟩
abbrev tbx : Tb → Nat → Nat → Int → List (Ck C0)
  | ⟨tp, tq, bs, ps, kb, kl, kc, pb, pl, pc⟩, b, q, n => [⟨tp, tq, 4, false, none, .one [.int .i64 bs, .int .i64 ps, .mp 1, .mp 2]⟩, ⟨kb, 0, 0, false, none, .mp 3 53 kl kc⟩, ⟨pb, 0, 0, false, none, .mp 30 3 pl pc⟩, ⟨b, q, 1, false, none, .one [.int .i64 n]⟩]
abbrev inBlk (n : Int) (s : Slot) : Bool := decide (s.pl.1 = n)
theorem by53 : Tryd.prog.types[53].bytes = 72 := by kernel_rfl
theorem Vis.mem {x : Tb} {v : List Ke} (hv : Vis x v) {e : Ke} (he : e ∈ v) : e ∈ x.kl := by
  have hv : (v ++ lft x.kl v).Perm x.kl := hv
  exact hv.subset (List.mem_append_left _ he)
theorem Vis.len {x : Tb} {v : List Ke} (hv : Vis x v) : v.length ≤ x.kl.length := by
  have hv : (v ++ lft x.kl v).Perm x.kl := hv
  rw [← hv.length_eq, List.length_append]; omega
theorem Vis.lt {x : Tb} (h : Rep x) {v : List Ke} (hv : Vis x v) {e : Ke} (he : e ∈ x.kl ∧ ¬ e.2.2 ∈ bns v) : v.length < x.kl.length := by
  have := (hv.add h he).1.len
  rw [List.length_append] at this
  exact this
theorem Vis.slot {x : Tb} {v : List Ke} (hv : Vis x v) {p : Slot → Bool} {l : List Slot} (h : (v.map (·.2.1)).filter p = l) {s : Slot} (hs : s ∈ l) : s ∈ tl x := by
  rw [← h] at hs
  obtain ⟨e, he, rfl⟩ := List.mem_map.1 (List.mem_filter.1 hs).1
  exact List.mem_map.2 ⟨e, hv.mem he, rfl⟩
set_option maxHeartbeats 8000000 in
theorem slotsB_ok (x : Tb) (b q : Nat) (n : Int) (h : Rep x) (hs : ∀ s ∈ tl x, Sm s) (hl : x.kl.length < 1048576) : Does (C := C0) Tryd.prog (.fn 29) (tbx x b q n) [.ptr 0 0 0, .fn (.func 30) [] [.ptr 3 0 0], .fn (.func 31) [] []]
    [⟨Unit, fun _ => (tl x).filter (inBlk n) = [], fun _ => .nils, fun _ => tbx x b q n⟩,
     ⟨Nat × Nat × List Slot × Nat × List Slot, fun y => Srt lePage ((tl x).filter (inBlk n)) y.2.2.1 ∧ 0 < y.2.2.1.length ∧ y.2.2.1.length ≤ y.2.2.2.1 ∧ y.2.2.2.1 ≤ y.2.2.1.length + y.2.2.2.2.length, fun y => .sl 4 0 y.2.2.1.length y.2.2.2.1, fun y => tbx x b q n ++ [⟨y.1, y.2.1, 9, true, none, .rows 53 (y.2.2.1 ++ y.2.2.2.2)⟩]⟩] := by
  refine loc_fn (P := Tryd.prog) (E := ⟨[fcSortP, fcSortN], [pcSlots1], 30, []⟩) (L := [Sl0 x (inBlk n), Sl1 x (inBlk n)]) mix Tryd.func29 rfl (by kernel_rfl) (by kernel_rfl) rfl rfl ?_
  ((conv => (arg 1; reduce)); with_reducible repeat' (first | exact Tr.yes_h | refine Tr.and_h ?_ ?_ | refine Tr.imp_h fun _ => ?_ | refine Tr.all_h fun _ => ?_ | refine Tr.lf_h ?_))
  all_goals try (first | first | (show Region.lexB _ _ = true; kernel_rfl) | (show planned _ _ = true; kernel_rfl) | exact rfl | exact True.intro | (first | exact key3 | exact key30 | exact zero3 | exact zero53 | exact eq30 | exact ⟨key3, zero53⟩ | exact ⟨key30, zero3⟩) | ((try dsimp only [imp, C0, cG, cInt, cPl, cSlot, cDo] at *); (try refine inR64 ?_ ?_) <;> (try simp only [List.length_set, List.length_append, List.length_take, List.length_drop]) <;> omega))
  · rename_i it
    refine Stands.one [] ⟨⟨Vis.nil x, rfl⟩, ?_⟩
    ((conv => (arg 1; reduce)); with_reducible repeat' (first | exact Tr.yes_h | refine Tr.and_h ?_ ?_ | refine Tr.imp_h fun _ => ?_ | refine Tr.all_h fun _ => ?_ | refine Tr.lf_h ?_))
    all_goals (first | first | (show Region.lexB _ _ = true; kernel_rfl) | (show planned _ _ = true; kernel_rfl) | exact rfl | exact True.intro | (first | exact key3 | exact key30 | exact zero3 | exact zero53 | exact eq30 | exact ⟨key3, zero53⟩ | exact ⟨key30, zero3⟩) | ((try dsimp only [imp, C0, cG, cInt, cPl, cSlot, cDo] at *); (try refine inR64 ?_ ?_) <;> (try simp only [List.length_set, List.length_append, List.length_take, List.length_drop]) <;> omega))
  · exact ⟨rfl, rfl, next_c h⟩
  · rename_i it v hv hd u1 u2
    refine Ends.one () ?_ ?_
    · have hp := hv.1.done hd
      have := (hp.map (·.2.1)).filter (inBlk n)
      rw [hv.2] at this
      exact this.nil_eq.symm
    ((conv => (arg 1; reduce)); with_reducible repeat' (first | exact Tr.yes_h | refine Tr.and_h ?_ ?_ | refine Tr.imp_h fun _ => ?_ | refine Tr.all_h fun _ => ?_ | refine Tr.lf_h ?_))
    all_goals (first | first | (show Region.lexB _ _ = true; kernel_rfl) | (show planned _ _ = true; kernel_rfl) | exact rfl | exact True.intro | (first | exact key3 | exact key30 | exact zero3 | exact zero53 | exact eq30 | exact ⟨key3, zero53⟩ | exact ⟨key30, zero3⟩) | ((try dsimp only [imp, C0, cG, cInt, cPl, cSlot, cDo] at *); (try refine inR64 ?_ ?_) <;> (try simp only [List.length_set, List.length_append, List.length_take, List.length_drop]) <;> omega))
  · rename_i it v hv e he
    exact ⟨rfl, rfl, entry_c he.1⟩
  · rw [by53]; exact ⟨Nat.le_refl 1, by decide⟩
  · rename_i it v hv e he b9 hc b1 h01 b2 sp
    change List Ke at v
    change List Slot at sp
    have hm := mat_last h (v := bns v) he.1
    rw [hm] at hc
    obtain ⟨h1, h2⟩ := hv.1.add h he
    refine Stands.next (Stands.one (v ++ [e], b2, 0, e.2.1 :: sp, 1, 1 + sp.length) ⟨⟨h1, ?_, Nat.zero_lt_one, Nat.le_add_right _ _, ?_, ?_⟩, h2, ?_⟩)
    · rw [filt_add hc, hv.2]; rfl
    · rw [List.length_cons, Nat.add_comm]; exact Nat.le_refl _
    · rw [List.length_append]; exact Nat.le_add_left _ _
    ((conv => (arg 1; reduce)); with_reducible repeat' (first | exact Tr.yes_h | refine Tr.and_h ?_ ?_ | refine Tr.imp_h fun _ => ?_ | refine Tr.all_h fun _ => ?_ | refine Tr.lf_h ?_))
    all_goals first | (first | first | (show Region.lexB _ _ = true; kernel_rfl) | (show planned _ _ = true; kernel_rfl) | exact rfl | exact True.intro | (first | exact key3 | exact key30 | exact zero3 | exact zero53 | exact eq30 | exact ⟨key3, zero53⟩ | exact ⟨key30, zero3⟩) | ((try dsimp only [imp, C0, cG, cInt, cPl, cSlot, cDo] at *); (try refine inR64 ?_ ?_) <;> (try simp only [List.length_set, List.length_append, List.length_take, List.length_drop]) <;> omega)) | (rw [hm]; rfl) | (simp; done)
  · rename_i it v hv e he b9 hc
    change List Ke at v
    have hm := mat_last h (v := bns v) he.1
    rw [hm] at hc
    obtain ⟨h1, h2⟩ := hv.1.add h he
    refine Stands.one (v ++ [e]) ⟨⟨h1, by rw [filt_no hc]; exact hv.2⟩, h2, ?_⟩
    ((conv => (arg 1; reduce)); with_reducible repeat' (first | exact Tr.yes_h | refine Tr.and_h ?_ ?_ | refine Tr.imp_h fun _ => ?_ | refine Tr.all_h fun _ => ?_ | refine Tr.lf_h ?_))
    all_goals first | (first | first | (show Region.lexB _ _ = true; kernel_rfl) | (show planned _ _ = true; kernel_rfl) | exact rfl | exact True.intro | (first | exact key3 | exact key30 | exact zero3 | exact zero53 | exact eq30 | exact ⟨key3, zero53⟩ | exact ⟨key30, zero3⟩) | ((try dsimp only [imp, C0, cG, cInt, cPl, cSlot, cDo] at *); (try refine inR64 ?_ ?_) <;> (try simp only [List.length_set, List.length_append, List.length_take, List.length_drop]) <;> omega)) | (simp; done)
  · exact ⟨rfl, rfl, next_c h⟩
  · rename_i it v hv hd
    obtain ⟨v, rb, rq, l, n', c⟩ := v
    obtain ⟨h1, h2, h3, h4, h5, h6⟩ := hv
    have := h1.len
    exact ⟨by show n' ≤ l.length; omega, fun s hs' => hs s (h1.slot h2 hs'), by show n' < 1048576; omega⟩
  · rename_i it v hv hd l' hl'
    obtain ⟨v, rb, rq, l, n', c⟩ := v
    change List Slot at l'
    obtain ⟨h1, h2, h3, h4, h5, h6⟩ := hv
    have hp := h1.done hd
    have hp := (hp.map (·.2.1)).filter (inBlk n)
    rw [h2] at hp
    have hl' : Srt lePage (l.take n') l' := hl'
    have e1 : l'.length = n' := by rw [hl'.perm.length_eq, List.length_take, Nat.min_eq_left (by omega)]
    refine Ends.next (Ends.one (rb, rq, l', c, l.drop n') ⟨⟨hl'.perm.trans hp, hl'.ord⟩, ?_, ?_, ?_⟩ ?_)
    · rw [e1]; exact h3
    · rw [e1]; exact h4
    · rw [e1, List.length_drop]
      show c ≤ n' + (l.length - n')
      omega
    ((conv => (arg 1; reduce)); with_reducible repeat' (first | exact Tr.yes_h | refine Tr.and_h ?_ ?_ | refine Tr.imp_h fun _ => ?_ | refine Tr.all_h fun _ => ?_ | refine Tr.lf_h ?_))
    all_goals first | (first | first | (show Region.lexB _ _ = true; kernel_rfl) | (show planned _ _ = true; kernel_rfl) | exact rfl | exact True.intro | (first | exact key3 | exact key30 | exact zero3 | exact zero53 | exact eq30 | exact ⟨key3, zero53⟩ | exact ⟨key30, zero3⟩) | ((try dsimp only [imp, C0, cG, cInt, cPl, cSlot, cDo] at *); (try refine inR64 ?_ ?_) <;> (try simp only [List.length_set, List.length_append, List.length_take, List.length_drop]) <;> omega)) | exact e1 | exact e1.symm
  · rename_i it v hv e he
    exact ⟨rfl, rfl, entry_c he.1⟩
  · rename_i it v hv e he b9 hc b1
    obtain ⟨v, rb, rq, l, n', c⟩ := v
    obtain ⟨h1, h2, h3, h4, h5, h6⟩ := hv
    have := h1.len
    rw [by53]
    refine ⟨h4, by show 0 + c ≤ l.length; omega, Nat.le_refl 1, ?_⟩
    show (n' + 1) * 72 ≤ _
    omega
  · rename_i it v hv e he b9 hc b1 b2 q2 sp cap g1 g2
    obtain ⟨v, rb, rq, l, n', c⟩ := v
    change List Slot at sp
    have g1 : n' + 1 ≤ cap := g1
    have g2 : cap ≤ n' + 1 + sp.length := g2
    obtain ⟨h1, h2, h3, h4, h5, h6⟩ := hv
    have hm := mat_last h (v := bns v) he.1
    rw [hm] at hc
    have hlt := h1.lt h he
    obtain ⟨k1, k2⟩ := h1.add h he
    have e2 : (l.take n' ++ [e.2.1] ++ sp).take (n' + 1) = l.take n' ++ [e.2.1] := by
      rw [List.take_append_of_le_length (by simp; omega), List.take_of_length_le (by simp; omega)]
    refine Stands.next (Stands.one (v ++ [e], b2, q2, l.take n' ++ [e.2.1] ++ sp, n' + 1, cap) ⟨⟨k1, ?_, Nat.succ_pos _, g1, ?_, ?_⟩, k2, ?_⟩)
    · rw [filt_add hc, h2, e2]
    · simp only [List.length_append, List.length_take, List.length_cons, List.length_nil]; omega
    · rw [List.length_append]; exact Nat.succ_le_succ h6
    ((conv => (arg 1; reduce)); with_reducible repeat' (first | exact Tr.yes_h | refine Tr.and_h ?_ ?_ | refine Tr.imp_h fun _ => ?_ | refine Tr.all_h fun _ => ?_ | refine Tr.lf_h ?_))
    all_goals first | (first | first | (show Region.lexB _ _ = true; kernel_rfl) | (show planned _ _ = true; kernel_rfl) | exact rfl | exact True.intro | (first | exact key3 | exact key30 | exact zero3 | exact zero53 | exact eq30 | exact ⟨key3, zero53⟩ | exact ⟨key30, zero3⟩) | ((try dsimp only [imp, C0, cG, cInt, cPl, cSlot, cDo] at *); (try refine inR64 ?_ ?_) <;> (try simp only [List.length_set, List.length_append, List.length_take, List.length_drop]) <;> omega)) | (rw [hm]; rfl) | (simp; done)
  · rename_i it v hv e he b9 hc
    obtain ⟨v, rb, rq, l, n', c⟩ := v
    obtain ⟨h1, h2, h3, h4, h5, h6⟩ := hv
    have hm := mat_last h (v := bns v) he.1
    rw [hm] at hc
    obtain ⟨k1, k2⟩ := h1.add h he
    refine Stands.next (Stands.one (v ++ [e], rb, rq, l, n', c) ⟨⟨k1, by rw [filt_no hc]; exact h2, h3, h4, h5, ?_⟩, k2, ?_⟩)
    · rw [List.length_append]; exact Nat.le_succ_of_le h6
    ((conv => (arg 1; reduce)); with_reducible repeat' (first | exact Tr.yes_h | refine Tr.and_h ?_ ?_ | refine Tr.imp_h fun _ => ?_ | refine Tr.all_h fun _ => ?_ | refine Tr.lf_h ?_))
    all_goals first | (first | first | (show Region.lexB _ _ = true; kernel_rfl) | (show planned _ _ = true; kernel_rfl) | exact rfl | exact True.intro | (first | exact key3 | exact key30 | exact zero3 | exact zero53 | exact eq30 | exact ⟨key3, zero53⟩ | exact ⟨key30, zero3⟩) | ((try dsimp only [imp, C0, cG, cInt, cPl, cSlot, cDo] at *); (try refine inR64 ?_ ?_) <;> (try simp only [List.length_set, List.length_append, List.length_take, List.length_drop]) <;> omega)) | (simp; done)
noncomputable def fcSlotsB : Fc Tryd.prog C0 where
  tg := .fn 29
  X := Tb × Nat × Nat × Int
  args := fun (x, b, q, n) => [.ptr 0 0 0, .fn (.func 30) [] [.ptr 3 0 0], .fn (.func 31) [] []]
  mem := fun (x, b, q, n) => tbx x b q n
  pre := fun (x, b, q, n) => Rep x ∧ (∀ s ∈ tl x, Sm s) ∧ x.kl.length < 1048576
  alts := fun (x, b, q, n) => [⟨Unit, fun _ => (tl x).filter (inBlk n) = [], fun _ => .nils, fun _ => tbx x b q n⟩,
     ⟨Nat × Nat × List Slot × Nat × List Slot, fun y => Srt lePage ((tl x).filter (inBlk n)) y.2.2.1 ∧ 0 < y.2.2.1.length ∧ y.2.2.1.length ≤ y.2.2.2.1 ∧ y.2.2.2.1 ≤ y.2.2.1.length + y.2.2.2.2.length, fun y => .sl 4 0 y.2.2.1.length y.2.2.2.1, fun y => tbx x b q n ++ [⟨y.1, y.2.1, 9, true, none, .rows 53 (y.2.2.1 ++ y.2.2.2.2)⟩]⟩]
  mat vs m := match vs with
    | [.ptr p 0 0, .fn (.func 30) [] [.ptr r 0 0], .fn (.func 31) [] []] => match tbOf m p, nth m r with
      | some (x, l), ⟨b, q, _, _, _, .one [.int _ n]⟩ => some ((x, b, q, n), l ++ [r])
      | _, _ => none
    | _ => none
  ok := fun (x, b, q, n) h => slotsB_ok x b q n h.1 h.2.1 h.2.2
end Go.Vx
