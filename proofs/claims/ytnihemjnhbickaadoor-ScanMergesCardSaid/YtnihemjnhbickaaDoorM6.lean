/-
  Round 22: slices.Clone, slices.Compact, lists that are joined.
  Round 22: lists that are joined.
  The symbolic evaluator: the plan of a great region, looked at in pieces.
  Round 22: the order of the great region of Merge (the print of tools/bigplan.py).
  Round 22: what a scan says, plainly.
  Round 22: rows by their blocks; how many keys there may be: plain facts.
  Round 22: the order of the great regions (the print of tools/bigplan.py).
  Round 22: the order of the great regions (the print of tools/bigplan.py).
  Round 22: what is bad, and the numbers.
  Round 22: the pages of each key, plainly; the map in which they are gathered.
  Round 22: fresh blocks; how many pages there may be.
  Round 22: how many keys and slots there may be.
  Conditions: none.
-/
import Derived.Test.YtnihemjnhbickaaDoorM3
import Derived.Test.YtnihemjnhbickaaDoorM4
import Derived.Test.YtnihemjnhbickaaDoorM5
import Derived.Laws.StructEq
set_option linter.unusedVariables false
set_option linter.unusedSimpArgs false
set_option linter.unusedSectionVars false
set_option maxRecDepth 100000
namespace Go.Vx
open Go Go.Proofs
variable [Gl]
@[irreducible] def ddp {α : Type} [DecidableEq α] (l : List α) : List α := l.foldl (fun out x => if out.getLast? = some x then out else out ++ [x]) []
theorem ddp_nil {α : Type} [DecidableEq α] : ddp ([] : List α) = [] := by unfold ddp; rfl
theorem ddp_snoc {α : Type} [DecidableEq α] (l : List α) (x : α) : ddp (l ++ [x]) = if (ddp l).getLast? = some x then ddp l else ddp l ++ [x] := by
  unfold ddp; rw [List.foldl_append]; rfl
theorem ddp_last {α : Type} [DecidableEq α] (l : List α) (x : α) : (ddp (l ++ [x])).getLast? = some x := by
  rw [ddp_snoc]
  split
  · assumption
  · simp
theorem ddp_one {α : Type} [DecidableEq α] {l : List α} (h : l.length ≤ 1) : ddp l = l := by
  match l, h with
  | [], _ => exact ddp_nil
  | [x], _ =>
    have := ddp_snoc ([] : List α) x
    rw [ddp_nil] at this
    simpa using this
theorem ddp_take {α : Type} [DecidableEq α] {l : List α} {j : Nat} {d : α} (h1 : 1 ≤ j) (h : j < l.length) : ddp (l.take (j + 1)) = if l.getD j d = l.getD (j - 1) d then ddp (l.take j) else ddp (l.take j) ++ [l.getD j d] := by
  have e : l.take j = l.take (j - 1) ++ [l.getD (j - 1) d] := by
    have := take_snoc (A := l) (i := j - 1) (d := d) (by omega)
    rwa [show j - 1 + 1 = j by omega] at this
  have e2 : (ddp (l.take j)).getLast? = some (l.getD (j - 1) d) := by rw [e, ddp_last]
  rw [take_snoc (d := d) h, ddp_snoc, e2]
  by_cases h : l.getD j d = l.getD (j - 1) d
  · rw [if_pos h, if_pos (by rw [h])]
  · rw [if_neg h, if_neg (by intro h'; exact h (Option.some.inj h').symm)]
theorem take_set_snoc {α : Type} {l : List α} {k : Nat} {x : α} (h : k < l.length) : (l.set k x).take (k + 1) = l.take k ++ [x] := by
  rw [take_snoc (d := x) (by rw [List.length_set]; exact h), List.take_set_of_le (Nat.le_refl _)]
  simp [List.getD, h]
theorem getD_set_ne {α : Type} {l : List α} {k i : Nat} {x d : α} (h : k ≠ i) : (l.set k x).getD i d = l.getD i d := by
  simp only [List.getD_eq_getElem?_getD, List.getElem?_set_ne h]
theorem on_of0 {o : Bool} {n : Nat} (ho : o = false → n = 0) (h : 0 < n) : o = true := by
  cases o with
  | true => rfl
  | false => have := ho rfl; omega
theorem srow_lt {c k : Nat} (h : k < c) : srow c k 0 = k := by unfold srow; rw [if_neg (by omega)]; omega
theorem und36 : Tryd.prog.underlying 36 = some (.struct (Tryd.prog.fieldsOf 36)) := by kernel_rfl
theorem fields36 : (Tryd.prog.fieldsOf 36).toList.map (fun f => (f.name, f.type, f.offset)) = [("Block", 3, 0), ("Page", 3, 1)] := by kernel_rfl
theorem held36 : Tryd.prog.stoodInHeld 36 = false := by kernel_rfl
theorem fs36 : ∃ f g : Field, (Tryd.prog.fieldsOf 36) = #[f, g] ∧ (f.name ≠ "_" ∧ f.type = 3 ∧ f.offset = 0) ∧ (g.name ≠ "_" ∧ g.type = 3 ∧ g.offset = 1) := by
  have h := fields36
  generalize Tryd.prog.fieldsOf 36 = F at h
  obtain ⟨F⟩ := F
  have hl := congrArg List.length h
  simp only [List.length_map, List.length_cons, List.length_nil] at hl
  rcases F with _ | ⟨f, _ | ⟨g, _ | ⟨x, r⟩⟩⟩
  · cases hl
  · cases hl
  · simp only [List.map_cons, List.map_nil, List.cons.injEq, Prod.mk.injEq] at h
    obtain ⟨⟨h1, h2, h3⟩, ⟨h4, h5, h6⟩, _⟩ := h
    exact ⟨f, g, rfl, ⟨by rw [h1]; decide, h2, h3⟩, ⟨by rw [h4]; decide, h5, h6⟩⟩
  · simp at hl
theorem part3 (a b : Int) (w : World) : (part 3 #[.int .i64 a, .int .i64 b] 0).run Tryd.prog w = .ok (.int .i64 a) w ∧ (part 3 #[.int .i64 a, .int .i64 b] 1).run Tryd.prog w = .ok (.int .i64 b) w := by
  constructor <;> simp [part, isAgg, run_underlying' und3]
theorem equal36 (a b : Pl) (w : World) : (Op.equal 36 (packV (C0 36) a) (packV (C0 36) b)).run Tryd.prog w = .ok ((C0 36).beq a b) w := by
  show (Op.equalIn (9998 + 1 + 1) 36 (.agg #[.int .i64 a.1, .int .i64 a.2]) (.agg #[.int .i64 b.1, .int .i64 b.2])).run Tryd.prog w = .ok (decide (a.1 = b.1) && decide (a.2 = b.2)) w
  generalize 9998 = n
  rw [run_equalIn_struct w (n + 1) 36 _ _ und36 held36]
  obtain ⟨f, g, hF, ⟨f1, f2, f3⟩, ⟨g1, g2, g3⟩⟩ := fs36
  rw [hF]
  have e1 : (a.1 == b.1) = decide (a.1 = b.1) := Bool.eq_iff_iff.2 (by simp)
  have e2 : (a.2 == b.2) = decide (a.2 = b.2) := Bool.eq_iff_iff.2 (by simp)
  simp only [Op.eqFields, f1, g1, ne_eq, not_false_eq_true, if_true, f2, f3, g2, g3, Sem.run_bind, (part3 _ _ _).1, (part3 _ _ _).2, Result.andThen_ok, run_equalIn_int _ n 3 .i64 .i64 _ _ und3, e1, e2]
  cases decide (a.1 = b.1)
  · rfl
  · simp only [Bool.not_true, Bool.false_eq_true, if_false, Sem.run_bind, (part3 _ _ _).1, (part3 _ _ _).2, Result.andThen_ok, run_equalIn_int _ n 3 .i64 .i64 _ _ und3, e2]
    cases decide (a.2 = b.2) <;> rfl
theorem eq36 : EqOK Tryd.prog 36 (C0 36) := ⟨equal36, by kernel_rfl⟩
theorem beq36 {p q : Pl} : (decide (p.1 = q.1) && decide (p.2 = q.2)) = true ↔ p = q := by simp [Prod.ext_iff]
theorem not_nf {b : Bool} (h : (!b) = false) : b = true := by simpa using h
theorem not_nt {b : Bool} (h : (!b) = true) : b = false := by simpa using h
theorem beq36n {p q : Pl} : (decide (p.1 = q.1) && decide (p.2 = q.2)) = false ↔ ¬ p = q := by
  rw [← beq36]; simp
theorem byCI : Tryd.prog.types[3].bytes = 8 := by kernel_rfl
set_option maxHeartbeats 4000000 in
theorem cloneI_ok (o : Bool) (b q : Nat) (l : List Int) (n c : Nat) (h : n ≤ l.length) (hn : n < 1000000000) (ho : o = false → n = 0 ∧ c = 0) :
    Does (C := C0) Tryd.prog (.fn 48) [⟨b, q, 1, false, some o, .rows 3 l⟩] [.sl 0 0 n c]
    [⟨Sq Int, fun y => Gth (l.take n) y, fun y => .sl 1 0 y.2.2.2.2.1 y.2.2.2.2.2, fun y => [⟨b, q, 1, false, some o, .rows 3 l⟩, ⟨y.2.1, y.2.2.1, 1, true, some y.1, .rows 3 y.2.2.2.1⟩]⟩] := by
  have hL := tk_len h
  refine loc_fn (P := Tryd.prog) (E := ⟨[], [], 8, [], [], []⟩) (L := []) mix Tryd.func48 rfl (by kernel_rfl) (by kernel_rfl) rfl rfl ?_
  ((conv => (arg 1; reduce)); with_reducible repeat' (first | exact Tr.yes_h | refine Tr.and_h ?_ ?_ | refine Tr.imp_h fun _ => ?_ | refine Tr.all_h fun _ => ?_ | refine Tr.lf_h ?_))
  all_goals try (first | first | (show Region.lexB _ _ = true; kernel_rfl) | (show planned _ _ = true; kernel_rfl) | exact rfl | exact True.intro | (first | exact key3 | exact zeroB | exact zeroR | exact zeroS | exact ⟨key3, zeroB⟩ | exact ⟨key3, zeroR⟩ | exact ⟨key3, zeroS⟩) | ((try dsimp only [imp, C0, cG, cInt, cPl, cSlot, cPg, gwCodec] at *); (try refine inR64 ?_ ?_) <;> (try simp only [List.length_set, List.length_append, List.length_take, List.length_drop]) <;> omega))
  · rename_i h1
    have h1 : (!o) = true := h1
    have h2 : o = false := by simpa using h1
    obtain ⟨rfl, rfl⟩ := ho h2
    refine Ends.one ((false, 0, 0, [], 0, 0) : Sq Int) Gth.nil ?_
    ((conv => (arg 1; reduce)); with_reducible repeat' (first | exact Tr.yes_h | refine Tr.and_h ?_ ?_ | refine Tr.imp_h fun _ => ?_ | refine Tr.all_h fun _ => ?_ | refine Tr.lf_h ?_))
    all_goals (first | first | (show Region.lexB _ _ = true; kernel_rfl) | (show planned _ _ = true; kernel_rfl) | exact rfl | exact True.intro | (first | exact key3 | exact zeroB | exact zeroR | exact zeroS | exact ⟨key3, zeroB⟩ | exact ⟨key3, zeroR⟩ | exact ⟨key3, zeroS⟩) | ((try dsimp only [imp, C0, cG, cInt, cPl, cSlot, cPg, gwCodec] at *); (try refine inR64 ?_ ?_) <;> (try simp only [List.length_set, List.length_append, List.length_take, List.length_drop]) <;> omega))
  · rw [byCI]
    exact ⟨Nat.le_refl _, Nat.le_refl _, by omega, by show (0 + n) * 8 ≤ _; omega⟩
  · exact fun h9 => ⟨(ho h9).1, (ho h9).1⟩
  · rename_i h1 b1 b2 q2 sp cp e1 e2
    change List Int at sp
    refine Ends.one ((true, b2, q2, [] ++ l.take n ++ sp, n, cp) : Sq Int) ⟨?_, hL, ?_, ?_, fun h => by cases h⟩ ?_
    · show ([] ++ l.take n ++ sp).take n = l.take n
      rw [List.nil_append, List.take_append_of_le_length (by omega), List.take_take, Nat.min_self]
    · show n ≤ cp
      omega
    · show cp ≤ ([] ++ l.take n ++ sp).length
      rw [List.nil_append, List.length_append, hL]
      omega
    ((conv => (arg 1; reduce)); with_reducible repeat' (first | exact Tr.yes_h | refine Tr.and_h ?_ ?_ | refine Tr.imp_h fun _ => ?_ | refine Tr.all_h fun _ => ?_ | refine Tr.lf_h ?_))
    all_goals first | (first | first | (show Region.lexB _ _ = true; kernel_rfl) | (show planned _ _ = true; kernel_rfl) | exact rfl | exact True.intro | (first | exact key3 | exact zeroB | exact zeroR | exact zeroS | exact ⟨key3, zeroB⟩ | exact ⟨key3, zeroR⟩ | exact ⟨key3, zeroS⟩) | ((try dsimp only [imp, C0, cG, cInt, cPl, cSlot, cPg, gwCodec] at *); (try refine inR64 ?_ ?_) <;> (try simp only [List.length_set, List.length_append, List.length_take, List.length_drop]) <;> omega)) | (show 0 + n = n; omega)
def fcCloneI : Fc Tryd.prog C0 where
  tg := .fn 48
  X := Bool × Nat × Nat × List Int × Nat × Nat
  args := fun (o, b, q, l, n, c) => [.sl 0 0 n c]
  mem := fun (o, b, q, l, n, c) => [⟨b, q, 1, false, some o, .rows 3 l⟩]
  pre := fun (o, b, q, l, n, c) => n ≤ l.length ∧ n < 1000000000 ∧ (o = false → n = 0 ∧ c = 0)
  alts := fun (o, b, q, l, n, c) => [⟨Sq Int, fun y => Gth (l.take n) y, fun y => .sl 1 0 y.2.2.2.2.1 y.2.2.2.2.2, fun y => [⟨b, q, 1, false, some o, .rows 3 l⟩, ⟨y.2.1, y.2.2.1, 1, true, some y.1, .rows 3 y.2.2.2.1⟩]⟩]
  mat vs m := match vs with
    | [.sl a 0 n c] => match nth m a with
      | ⟨b, q, _, _, g, .rows 3 l⟩ => some ((onOf g, b, q, l, n, c), [a])
      | _ => none
    | _ => none
  ok := fun (o, b, q, l, n, c) h => cloneI_ok o b q l n c h.1 h.2.1 h.2.2
def Cm1I (b q : Nat) (o : Bool) (l : List Int) (n c : Nat) : Inv' C0 := ⟨4, Nat, fun k => [(3, .int .i64 (k : Int))], fun _ m => m,
  fun k => 1 ≤ k ∧ k ≤ n ∧ ddp (l.take k) = l.take k, fun k => n - k⟩
def Cm2I (b q : Nat) (o : Bool) (l : List Int) (n c : Nat) : Inv' C0 := ⟨9, Nat × Nat × Nat × List Int, fun y => [(3, .int .i64 (y.2.1 : Int)), (4, .sl 0 y.1 (n - y.1) (c - y.1)), (5, .int .i64 (y.2.2.1 : Int))],
  fun y _ => [⟨b, q, 1, true, some o, .rows 3 y.2.2.2⟩],
  fun y => 1 ≤ y.1 ∧ 1 ≤ y.2.2.1 ∧ y.1 + y.2.2.1 ≤ n ∧ 1 ≤ y.2.1 ∧ y.2.1 < y.1 + y.2.2.1 ∧ y.2.2.2.length = l.length ∧ y.2.2.2.take y.2.1 = ddp (l.take (y.1 + y.2.2.1)) ∧ (∀ i, y.1 + y.2.2.1 - 1 ≤ i → y.2.2.2.getD i 0 = l.getD i 0), fun y => n - y.1 - y.2.2.1⟩
set_option maxHeartbeats 4000000 in
theorem compactI_ok (o : Bool) (b q : Nat) (l : List Int) (n c : Nat) (h : n ≤ l.length) (hn : n < 1000000000) (hc : n ≤ c) (ho0 : o = false → n = 0) :
    Does (C := C0) Tryd.prog (.fn 50) [⟨b, q, 1, true, some o, .rows 3 l⟩] [.sl 0 0 n c]
    [⟨Nat × List Int, fun y => y.2.length = l.length ∧ y.2.take y.1 = ddp (l.take n) ∧ y.1 ≤ n, fun y => .sl 0 0 y.1 c, fun y => [⟨b, q, 1, true, some o, .rows 3 y.2⟩]⟩] := by
  have hL := tk_len h
  refine loc_fn (P := Tryd.prog) (E := ⟨[], [], 61, [], [], []⟩) (L := [Cm1I b q o l n c, Cm2I b q o l n c]) mix Tryd.func50 rfl (by kernel_rfl) (by kernel_rfl) rfl rfl ?_
  ((conv => (arg 1; reduce)); with_reducible repeat' (first | exact Tr.yes_h | refine Tr.and_h ?_ ?_ | refine Tr.imp_h fun _ => ?_ | refine Tr.all_h fun _ => ?_ | refine Tr.lf_h ?_))
  all_goals try (first | exact eq36 | (first | (first | first | (show Region.lexB _ _ = true; kernel_rfl) | (show planned _ _ = true; kernel_rfl) | exact rfl | exact True.intro | (first | exact key3 | exact zeroB | exact zeroR | exact zeroS | exact ⟨key3, zeroB⟩ | exact ⟨key3, zeroR⟩ | exact ⟨key3, zeroS⟩) | ((try dsimp only [imp, C0, cG, cInt, cPl, cSlot, cPg, gwCodec] at *); (try refine inR64 ?_ ?_) <;> (try simp only [List.length_set, List.length_append, List.length_take, List.length_drop]) <;> omega)) | ((try dsimp only [imp, C0, cG, cInt, cPl, cSlot, cPg, gwCodec, Cm1I, Cm2I] at *); (try simp only [decide_eq_true_eq, decide_eq_false_iff_not, Bool.and_eq_true, Bool.or_eq_true, Bool.or_eq_false_iff, Bool.and_eq_false_iff, Bool.not_eq_true', Bool.not_eq_false', SB.val, List.length_append, List.length_cons, List.length_nil, List.length_take, List.length_drop] at *); (first | omega | exact inR64 (by omega) (by omega) | (refine inR64 ?_ ?_ <;> omega)))) | (refine on_of0 ho0 ?_; ((try dsimp only [imp, C0, cG, cInt, cPl, cSlot, cPg, gwCodec, Cm1I, Cm2I] at *); (try simp only [decide_eq_true_eq, decide_eq_false_iff_not, Bool.and_eq_true, Bool.or_eq_true, Bool.or_eq_false_iff, Bool.and_eq_false_iff, Bool.not_eq_true', Bool.not_eq_false', SB.val, List.length_append, List.length_cons, List.length_nil, List.length_take, List.length_drop] at *); (first | omega | exact inR64 (by omega) (by omega) | (refine inR64 ?_ ?_ <;> omega)))) | (intro h9; exfalso; have h8 := ho0 h9; ((try dsimp only [imp, C0, cG, cInt, cPl, cSlot, cPg, gwCodec, Cm1I, Cm2I] at *); (try simp only [decide_eq_true_eq, decide_eq_false_iff_not, Bool.and_eq_true, Bool.or_eq_true, Bool.or_eq_false_iff, Bool.and_eq_false_iff, Bool.not_eq_true', Bool.not_eq_false', SB.val, List.length_append, List.length_cons, List.length_nil, List.length_take, List.length_drop] at *); (first | omega | exact inR64 (by omega) (by omega) | (refine inR64 ?_ ?_ <;> omega)))))
  · rename_i g1
    have g1 := of_decide_eq_true g1
    refine Ends.one ((n, l) : Nat × List Int) ⟨rfl, (ddp_one (by rw [hL]; omega)).symm, Nat.le_refl _⟩ ?_
    ((conv => (arg 1; reduce)); with_reducible repeat' (first | exact Tr.yes_h | refine Tr.and_h ?_ ?_ | refine Tr.imp_h fun _ => ?_ | refine Tr.all_h fun _ => ?_ | refine Tr.lf_h ?_))
    all_goals (first | first | (show Region.lexB _ _ = true; kernel_rfl) | (show planned _ _ = true; kernel_rfl) | exact rfl | exact True.intro | (first | exact key3 | exact zeroB | exact zeroR | exact zeroS | exact ⟨key3, zeroB⟩ | exact ⟨key3, zeroR⟩ | exact ⟨key3, zeroS⟩) | ((try dsimp only [imp, C0, cG, cInt, cPl, cSlot, cPg, gwCodec] at *); (try refine inR64 ?_ ?_) <;> (try simp only [List.length_set, List.length_append, List.length_take, List.length_drop]) <;> omega))
  · rename_i g1
    have g1 := of_decide_eq_false g1
    refine Stands.one (1 : Nat) ⟨⟨Nat.le_refl _, by omega, ddp_one (by rw [List.length_take]; omega)⟩, ?_⟩
    ((conv => (arg 1; reduce)); with_reducible repeat' (first | exact Tr.yes_h | refine Tr.and_h ?_ ?_ | refine Tr.imp_h fun _ => ?_ | refine Tr.all_h fun _ => ?_ | refine Tr.lf_h ?_))
    all_goals (first | first | (show Region.lexB _ _ = true; kernel_rfl) | (show planned _ _ = true; kernel_rfl) | exact rfl | exact True.intro | (first | exact key3 | exact zeroB | exact zeroR | exact zeroS | exact ⟨key3, zeroB⟩ | exact ⟨key3, zeroR⟩ | exact ⟨key3, zeroS⟩) | ((try dsimp only [imp, C0, cG, cInt, cPl, cSlot, cPg, gwCodec] at *); (try refine inR64 ?_ ?_) <;> (try simp only [List.length_set, List.length_append, List.length_take, List.length_drop]) <;> omega))
  · rename_i k hk g2 g3
    change Nat at k
    obtain ⟨a1, a2, a3⟩ := hk
    have g2 : (k : Int) < (n : Int) := of_decide_eq_true g2
    have g3 : l.getD ((k : Int).toNat + 0) 0 = l.getD (((k : Int) - 1).toNat + 0) 0 := of_decide_eq_true g3
    have e1 : ((k : Int) - 1).toNat = k - 1 := by omega
    rw [e1] at g3
    change l.getD k 0 = l.getD (k - 1) 0 at g3
    refine Stands.one ((k, k, 1, l) : Nat × Nat × Nat × List Int) ⟨⟨a1, Nat.le_refl _, by show k + 1 ≤ n; omega, a1, by show k < k + 1; omega, rfl, ?_, fun _ _ => rfl⟩, ?_⟩
    · show l.take k = ddp (l.take (k + 1))
      rw [ddp_take (d := 0) a1 (by omega), if_pos g3, a3]
    ((conv => (arg 1; reduce)); with_reducible repeat' (first | exact Tr.yes_h | refine Tr.and_h ?_ ?_ | refine Tr.imp_h fun _ => ?_ | refine Tr.all_h fun _ => ?_ | refine Tr.lf_h ?_))
    all_goals first | (first | first | (show Region.lexB _ _ = true; kernel_rfl) | (show planned _ _ = true; kernel_rfl) | exact rfl | exact True.intro | (first | exact key3 | exact zeroB | exact zeroR | exact zeroS | exact ⟨key3, zeroB⟩ | exact ⟨key3, zeroR⟩ | exact ⟨key3, zeroS⟩) | ((try dsimp only [imp, C0, cG, cInt, cPl, cSlot, cPg, gwCodec] at *); (try refine inR64 ?_ ?_) <;> (try simp only [List.length_set, List.length_append, List.length_take, List.length_drop]) <;> omega)) | exact srow_lt (by omega)
  · rename_i k hk g1 g2 y hy g3 g4
    obtain ⟨k0, k1, k2, L⟩ := y
    obtain ⟨a1, a2, a3, a4, a5, a6, a7, a8⟩ := hy
    change 1 ≤ k0 at a1
    change 1 ≤ k2 at a2
    change k0 + k2 ≤ n at a3
    change 1 ≤ k1 at a4
    change k1 < k0 + k2 at a5
    change L.length = l.length at a6
    change L.take k1 = ddp (l.take (k0 + k2)) at a7
    change ∀ i, k0 + k2 - 1 ≤ i → L.getD i 0 = l.getD i 0 at a8
    have g3 : (k2 : Int) < ((n - k0 : Nat) : Int) := of_decide_eq_true g3
    have g4 : ¬ L.getD ((k2 : Int).toNat + k0) 0 = L.getD (((k2 : Int) - 1).toNat + k0) 0 := of_decide_eq_true g4
    have e1 : ((k2 : Int) - 1).toNat + k0 = k0 + k2 - 1 := by omega
    have e2 : (k2 : Int).toNat + k0 = k0 + k2 := by omega
    rw [e1, e2, a8 _ (by omega), a8 _ (by omega)] at g4
    refine Stands.one ((k0, k1 + 1, k2 + 1, L.set k1 (L.getD (k2 + k0) 0)) : Nat × Nat × Nat × List Int) ⟨⟨a1, by show 1 ≤ k2 + 1; omega, by show k0 + (k2 + 1) ≤ n; omega, by show 1 ≤ k1 + 1; omega, by show k1 + 1 < k0 + (k2 + 1); omega, by show (L.set k1 _).length = l.length; rw [List.length_set]; exact a6, ?_, ?_⟩, by show n - k0 - (k2 + 1) < n - k0 - k2; omega, ?_⟩
    · show (L.set k1 (L.getD (k2 + k0) 0)).take (k1 + 1) = ddp (l.take (k0 + (k2 + 1)))
      rw [take_set_snoc (by omega), a7, show k0 + (k2 + 1) = k0 + k2 + 1 by omega, ddp_take (d := 0) (by omega) (by omega), if_neg g4, show k2 + k0 = k0 + k2 by omega, a8 _ (by omega)]
    · intro i hi
      change k0 + (k2 + 1) - 1 ≤ i at hi
      show (L.set k1 (L.getD (k2 + k0) 0)).getD i 0 = l.getD i 0
      rw [getD_set_ne (by omega)]
      exact a8 i (by omega)
    ((conv => (arg 1; reduce)); with_reducible repeat' (first | exact Tr.yes_h | refine Tr.and_h ?_ ?_ | refine Tr.imp_h fun _ => ?_ | refine Tr.all_h fun _ => ?_ | refine Tr.lf_h ?_))
    all_goals (first | first | (show Region.lexB _ _ = true; kernel_rfl) | (show planned _ _ = true; kernel_rfl) | exact rfl | exact True.intro | (first | exact key3 | exact zeroB | exact zeroR | exact zeroS | exact ⟨key3, zeroB⟩ | exact ⟨key3, zeroR⟩ | exact ⟨key3, zeroS⟩) | ((try dsimp only [imp, C0, cG, cInt, cPl, cSlot, cPg, gwCodec] at *); (try refine inR64 ?_ ?_) <;> (try simp only [List.length_set, List.length_append, List.length_take, List.length_drop]) <;> omega))
  · rename_i k hk g1 g2 y hy g3 g4
    obtain ⟨k0, k1, k2, L⟩ := y
    obtain ⟨a1, a2, a3, a4, a5, a6, a7, a8⟩ := hy
    change 1 ≤ k0 at a1
    change 1 ≤ k2 at a2
    change k0 + k2 ≤ n at a3
    change 1 ≤ k1 at a4
    change k1 < k0 + k2 at a5
    change L.length = l.length at a6
    change L.take k1 = ddp (l.take (k0 + k2)) at a7
    change ∀ i, k0 + k2 - 1 ≤ i → L.getD i 0 = l.getD i 0 at a8
    have g3 : (k2 : Int) < ((n - k0 : Nat) : Int) := of_decide_eq_true g3
    have g4 : L.getD ((k2 : Int).toNat + k0) 0 = L.getD (((k2 : Int) - 1).toNat + k0) 0 := (Decidable.of_not_not (of_decide_eq_false g4))
    have e1 : ((k2 : Int) - 1).toNat + k0 = k0 + k2 - 1 := by omega
    have e2 : (k2 : Int).toNat + k0 = k0 + k2 := by omega
    rw [e1, e2, a8 _ (by omega), a8 _ (by omega)] at g4
    refine Stands.one ((k0, k1, k2 + 1, L) : Nat × Nat × Nat × List Int) ⟨⟨a1, by show 1 ≤ k2 + 1; omega, by show k0 + (k2 + 1) ≤ n; omega, a4, by show k1 < k0 + (k2 + 1); omega, a6, ?_, fun i hi => a8 i (by change k0 + (k2 + 1) - 1 ≤ i at hi; omega)⟩, by show n - k0 - (k2 + 1) < n - k0 - k2; omega, ?_⟩
    · show L.take k1 = ddp (l.take (k0 + (k2 + 1)))
      rw [a7, show k0 + (k2 + 1) = k0 + k2 + 1 by omega, ddp_take (d := 0) (by omega) (by omega), if_pos g4]
    ((conv => (arg 1; reduce)); with_reducible repeat' (first | exact Tr.yes_h | refine Tr.and_h ?_ ?_ | refine Tr.imp_h fun _ => ?_ | refine Tr.all_h fun _ => ?_ | refine Tr.lf_h ?_))
    all_goals (first | first | (show Region.lexB _ _ = true; kernel_rfl) | (show planned _ _ = true; kernel_rfl) | exact rfl | exact True.intro | (first | exact key3 | exact zeroB | exact zeroR | exact zeroS | exact ⟨key3, zeroB⟩ | exact ⟨key3, zeroR⟩ | exact ⟨key3, zeroS⟩) | ((try dsimp only [imp, C0, cG, cInt, cPl, cSlot, cPg, gwCodec] at *); (try refine inR64 ?_ ?_) <;> (try simp only [List.length_set, List.length_append, List.length_take, List.length_drop]) <;> omega))
  · rename_i k hk g1 g2 y hy g3
    obtain ⟨k0, k1, k2, L⟩ := y
    obtain ⟨a1, a2, a3, a4, a5, a6, a7, a8⟩ := hy
    change k0 + k2 ≤ n at a3
    change k1 < k0 + k2 at a5
    change L.length = l.length at a6
    show srow c k1 0 + (n - k1) ≤ L.length
    rw [srow_lt (by omega)]
    omega
  · rename_i k hk g1 g2 y hy g3
    obtain ⟨k0, k1, k2, L⟩ := y
    obtain ⟨a1, a2, a3, a4, a5, a6, a7, a8⟩ := hy
    change k0 + k2 ≤ n at a3
    change k1 < k0 + k2 at a5
    change L.length = l.length at a6
    change L.take k1 = ddp (l.take (k0 + k2)) at a7
    have g3 : ¬ (k2 : Int) < ((n - k0 : Nat) : Int) := of_decide_eq_false g3
    have hs : srow c k1 0 = k1 := srow_lt (by omega)
    refine Ends.one ((k1, L.take (srow c k1 0) ++ List.replicate (n - k1) 0 ++ L.drop (srow c k1 0 + (n - k1))) : Nat × List Int) ⟨?_, ?_, by show k1 ≤ n; omega⟩ ?_
    · show (L.take (srow c k1 0) ++ List.replicate (n - k1) 0 ++ L.drop (srow c k1 0 + (n - k1))).length = l.length
      simp only [List.length_append, List.length_take, List.length_replicate, List.length_drop, hs]
      omega
    · show (L.take (srow c k1 0) ++ List.replicate (n - k1) 0 ++ L.drop (srow c k1 0 + (n - k1))).take k1 = ddp (l.take n)
      rw [hs, List.append_assoc, List.take_append_of_le_length (by rw [List.length_take]; omega), List.take_take, Nat.min_self, a7, show k0 + k2 = n by omega]
    ((conv => (arg 1; reduce)); with_reducible repeat' (first | exact Tr.yes_h | refine Tr.and_h ?_ ?_ | refine Tr.imp_h fun _ => ?_ | refine Tr.all_h fun _ => ?_ | refine Tr.lf_h ?_))
    all_goals (first | first | (show Region.lexB _ _ = true; kernel_rfl) | (show planned _ _ = true; kernel_rfl) | exact rfl | exact True.intro | (first | exact key3 | exact zeroB | exact zeroR | exact zeroS | exact ⟨key3, zeroB⟩ | exact ⟨key3, zeroR⟩ | exact ⟨key3, zeroS⟩) | ((try dsimp only [imp, C0, cG, cInt, cPl, cSlot, cPg, gwCodec] at *); (try refine inR64 ?_ ?_) <;> (try simp only [List.length_set, List.length_append, List.length_take, List.length_drop]) <;> omega))
  · rename_i k hk g2 g3
    change Nat at k
    obtain ⟨a1, a2, a3⟩ := hk
    have g2 : (k : Int) < (n : Int) := of_decide_eq_true g2
    have g3 : ¬ l.getD ((k : Int).toNat + 0) 0 = l.getD (((k : Int) - 1).toNat + 0) 0 := of_decide_eq_false g3
    have e1 : ((k : Int) - 1).toNat = k - 1 := by omega
    rw [e1] at g3
    change ¬ l.getD k 0 = l.getD (k - 1) 0 at g3
    refine Stands.one (k + 1 : Nat) ⟨⟨by omega, by omega, ?_⟩, by show n - (k + 1) < n - k; omega, ?_⟩
    · show ddp (l.take (k + 1)) = l.take (k + 1)
      rw [ddp_take (d := 0) a1 (by omega), if_neg g3, a3, take_snoc (d := 0) (by omega)]
    ((conv => (arg 1; reduce)); with_reducible repeat' (first | exact Tr.yes_h | refine Tr.and_h ?_ ?_ | refine Tr.imp_h fun _ => ?_ | refine Tr.all_h fun _ => ?_ | refine Tr.lf_h ?_))
    all_goals (first | first | (show Region.lexB _ _ = true; kernel_rfl) | (show planned _ _ = true; kernel_rfl) | exact rfl | exact True.intro | (first | exact key3 | exact zeroB | exact zeroR | exact zeroS | exact ⟨key3, zeroB⟩ | exact ⟨key3, zeroR⟩ | exact ⟨key3, zeroS⟩) | ((try dsimp only [imp, C0, cG, cInt, cPl, cSlot, cPg, gwCodec] at *); (try refine inR64 ?_ ?_) <;> (try simp only [List.length_set, List.length_append, List.length_take, List.length_drop]) <;> omega))
  · rename_i k hk g2
    change Nat at k
    obtain ⟨a1, a2, a3⟩ := hk
    have g2 : ¬ (k : Int) < (n : Int) := of_decide_eq_false g2
    have e : k = n := by omega
    subst e
    refine Ends.one ((k, l) : Nat × List Int) ⟨rfl, a3.symm, Nat.le_refl _⟩ ?_
    ((conv => (arg 1; reduce)); with_reducible repeat' (first | exact Tr.yes_h | refine Tr.and_h ?_ ?_ | refine Tr.imp_h fun _ => ?_ | refine Tr.all_h fun _ => ?_ | refine Tr.lf_h ?_))
    all_goals (first | first | (show Region.lexB _ _ = true; kernel_rfl) | (show planned _ _ = true; kernel_rfl) | exact rfl | exact True.intro | (first | exact key3 | exact zeroB | exact zeroR | exact zeroS | exact ⟨key3, zeroB⟩ | exact ⟨key3, zeroR⟩ | exact ⟨key3, zeroS⟩) | ((try dsimp only [imp, C0, cG, cInt, cPl, cSlot, cPg, gwCodec] at *); (try refine inR64 ?_ ?_) <;> (try simp only [List.length_set, List.length_append, List.length_take, List.length_drop]) <;> omega))
noncomputable def fcCompactI : Fc Tryd.prog C0 where
  tg := .fn 50
  X := Bool × Nat × Nat × List Int × Nat × Nat
  args := fun (o, b, q, l, n, c) => [.sl 0 0 n c]
  mem := fun (o, b, q, l, n, c) => [⟨b, q, 1, true, some o, .rows 3 l⟩]
  pre := fun (o, b, q, l, n, c) => n ≤ l.length ∧ n < 1000000000 ∧ n ≤ c ∧ (o = false → n = 0)
  alts := fun (o, b, q, l, n, c) => [⟨Nat × List Int, fun y => y.2.length = l.length ∧ y.2.take y.1 = ddp (l.take n) ∧ y.1 ≤ n, fun y => .sl 0 0 y.1 c, fun y => [⟨b, q, 1, true, some o, .rows 3 y.2⟩]⟩]
  mat vs m := match vs with
    | [.sl a 0 n c] => match nth m a with
      | ⟨b, q, _, _, g, .rows 3 l⟩ => some ((onOf g, b, q, l, n, c), [a])
      | _ => none
    | _ => none
  ok := fun (o, b, q, l, n, c) h => compactI_ok o b q l n c h.1 h.2.1 h.2.2.1 h.2.2.2
theorem byCP : Tryd.prog.types[36].bytes = 16 := by kernel_rfl
set_option maxHeartbeats 4000000 in
theorem cloneP_ok (o : Bool) (b q : Nat) (l : List Pl) (n c : Nat) (h : n ≤ l.length) (hn : n < 1000000000) (ho : o = false → n = 0 ∧ c = 0) :
    Does (C := C0) Tryd.prog (.fn 52) [⟨b, q, 2, false, some o, .rows 36 l⟩] [.sl 0 0 n c]
    [⟨Sq Pl, fun y => Gth (l.take n) y, fun y => .sl 1 0 y.2.2.2.2.1 y.2.2.2.2.2, fun y => [⟨b, q, 2, false, some o, .rows 36 l⟩, ⟨y.2.1, y.2.2.1, 2, true, some y.1, .rows 36 y.2.2.2.1⟩]⟩] := by
  have hL := tk_len h
  refine loc_fn (P := Tryd.prog) (E := ⟨[], [], 8, [], [], []⟩) (L := []) mix Tryd.func52 rfl (by kernel_rfl) (by kernel_rfl) rfl rfl ?_
  ((conv => (arg 1; reduce)); with_reducible repeat' (first | exact Tr.yes_h | refine Tr.and_h ?_ ?_ | refine Tr.imp_h fun _ => ?_ | refine Tr.all_h fun _ => ?_ | refine Tr.lf_h ?_))
  all_goals try (first | first | (show Region.lexB _ _ = true; kernel_rfl) | (show planned _ _ = true; kernel_rfl) | exact rfl | exact True.intro | (first | exact key3 | exact zeroB | exact zeroR | exact zeroS | exact ⟨key3, zeroB⟩ | exact ⟨key3, zeroR⟩ | exact ⟨key3, zeroS⟩) | ((try dsimp only [imp, C0, cG, cInt, cPl, cSlot, cPg, gwCodec] at *); (try refine inR64 ?_ ?_) <;> (try simp only [List.length_set, List.length_append, List.length_take, List.length_drop]) <;> omega))
  · rename_i h1
    have h1 : (!o) = true := h1
    have h2 : o = false := by simpa using h1
    obtain ⟨rfl, rfl⟩ := ho h2
    refine Ends.one ((false, 0, 0, [], 0, 0) : Sq Pl) Gth.nil ?_
    ((conv => (arg 1; reduce)); with_reducible repeat' (first | exact Tr.yes_h | refine Tr.and_h ?_ ?_ | refine Tr.imp_h fun _ => ?_ | refine Tr.all_h fun _ => ?_ | refine Tr.lf_h ?_))
    all_goals (first | first | (show Region.lexB _ _ = true; kernel_rfl) | (show planned _ _ = true; kernel_rfl) | exact rfl | exact True.intro | (first | exact key3 | exact zeroB | exact zeroR | exact zeroS | exact ⟨key3, zeroB⟩ | exact ⟨key3, zeroR⟩ | exact ⟨key3, zeroS⟩) | ((try dsimp only [imp, C0, cG, cInt, cPl, cSlot, cPg, gwCodec] at *); (try refine inR64 ?_ ?_) <;> (try simp only [List.length_set, List.length_append, List.length_take, List.length_drop]) <;> omega))
  · rw [byCP]
    exact ⟨Nat.le_refl _, Nat.le_refl _, by omega, by show (0 + n) * 16 ≤ _; omega⟩
  · exact fun h9 => ⟨(ho h9).1, (ho h9).1⟩
  · rename_i h1 b1 b2 q2 sp cp e1 e2
    change List Pl at sp
    refine Ends.one ((true, b2, q2, [] ++ l.take n ++ sp, n, cp) : Sq Pl) ⟨?_, hL, ?_, ?_, fun h => by cases h⟩ ?_
    · show ([] ++ l.take n ++ sp).take n = l.take n
      rw [List.nil_append, List.take_append_of_le_length (by omega), List.take_take, Nat.min_self]
    · show n ≤ cp
      omega
    · show cp ≤ ([] ++ l.take n ++ sp).length
      rw [List.nil_append, List.length_append, hL]
      omega
    ((conv => (arg 1; reduce)); with_reducible repeat' (first | exact Tr.yes_h | refine Tr.and_h ?_ ?_ | refine Tr.imp_h fun _ => ?_ | refine Tr.all_h fun _ => ?_ | refine Tr.lf_h ?_))
    all_goals first | (first | first | (show Region.lexB _ _ = true; kernel_rfl) | (show planned _ _ = true; kernel_rfl) | exact rfl | exact True.intro | (first | exact key3 | exact zeroB | exact zeroR | exact zeroS | exact ⟨key3, zeroB⟩ | exact ⟨key3, zeroR⟩ | exact ⟨key3, zeroS⟩) | ((try dsimp only [imp, C0, cG, cInt, cPl, cSlot, cPg, gwCodec] at *); (try refine inR64 ?_ ?_) <;> (try simp only [List.length_set, List.length_append, List.length_take, List.length_drop]) <;> omega)) | (show 0 + n = n; omega)
def fcCloneP : Fc Tryd.prog C0 where
  tg := .fn 52
  X := Bool × Nat × Nat × List Pl × Nat × Nat
  args := fun (o, b, q, l, n, c) => [.sl 0 0 n c]
  mem := fun (o, b, q, l, n, c) => [⟨b, q, 2, false, some o, .rows 36 l⟩]
  pre := fun (o, b, q, l, n, c) => n ≤ l.length ∧ n < 1000000000 ∧ (o = false → n = 0 ∧ c = 0)
  alts := fun (o, b, q, l, n, c) => [⟨Sq Pl, fun y => Gth (l.take n) y, fun y => .sl 1 0 y.2.2.2.2.1 y.2.2.2.2.2, fun y => [⟨b, q, 2, false, some o, .rows 36 l⟩, ⟨y.2.1, y.2.2.1, 2, true, some y.1, .rows 36 y.2.2.2.1⟩]⟩]
  mat vs m := match vs with
    | [.sl a 0 n c] => match nth m a with
      | ⟨b, q, _, _, g, .rows 36 l⟩ => some ((onOf g, b, q, l, n, c), [a])
      | _ => none
    | _ => none
  ok := fun (o, b, q, l, n, c) h => cloneP_ok o b q l n c h.1 h.2.1 h.2.2
def Cm1P (b q : Nat) (o : Bool) (l : List Pl) (n c : Nat) : Inv' C0 := ⟨4, Nat, fun k => [(3, .int .i64 (k : Int))], fun _ m => m,
  fun k => 1 ≤ k ∧ k ≤ n ∧ ddp (l.take k) = l.take k, fun k => n - k⟩
def Cm2P (b q : Nat) (o : Bool) (l : List Pl) (n c : Nat) : Inv' C0 := ⟨9, Nat × Nat × Nat × List Pl, fun y => [(3, .int .i64 (y.2.1 : Int)), (4, .sl 0 y.1 (n - y.1) (c - y.1)), (5, .int .i64 (y.2.2.1 : Int))],
  fun y _ => [⟨b, q, 2, true, some o, .rows 36 y.2.2.2⟩],
  fun y => 1 ≤ y.1 ∧ 1 ≤ y.2.2.1 ∧ y.1 + y.2.2.1 ≤ n ∧ 1 ≤ y.2.1 ∧ y.2.1 < y.1 + y.2.2.1 ∧ y.2.2.2.length = l.length ∧ y.2.2.2.take y.2.1 = ddp (l.take (y.1 + y.2.2.1)) ∧ (∀ i, y.1 + y.2.2.1 - 1 ≤ i → y.2.2.2.getD i (0, 0) = l.getD i (0, 0)), fun y => n - y.1 - y.2.2.1⟩
set_option maxHeartbeats 4000000 in
theorem compactP_ok (o : Bool) (b q : Nat) (l : List Pl) (n c : Nat) (h : n ≤ l.length) (hn : n < 1000000000) (hc : n ≤ c) (ho0 : o = false → n = 0) :
    Does (C := C0) Tryd.prog (.fn 54) [⟨b, q, 2, true, some o, .rows 36 l⟩] [.sl 0 0 n c]
    [⟨Nat × List Pl, fun y => y.2.length = l.length ∧ y.2.take y.1 = ddp (l.take n) ∧ y.1 ≤ n, fun y => .sl 0 0 y.1 c, fun y => [⟨b, q, 2, true, some o, .rows 36 y.2⟩]⟩] := by
  have hL := tk_len h
  refine loc_fn (P := Tryd.prog) (E := ⟨[], [], 61, [], [], []⟩) (L := [Cm1P b q o l n c, Cm2P b q o l n c]) mix Tryd.func54 rfl (by kernel_rfl) (by kernel_rfl) rfl rfl ?_
  ((conv => (arg 1; reduce)); with_reducible repeat' (first | exact Tr.yes_h | refine Tr.and_h ?_ ?_ | refine Tr.imp_h fun _ => ?_ | refine Tr.all_h fun _ => ?_ | refine Tr.lf_h ?_))
  all_goals try (first | exact eq36 | (first | (first | first | (show Region.lexB _ _ = true; kernel_rfl) | (show planned _ _ = true; kernel_rfl) | exact rfl | exact True.intro | (first | exact key3 | exact zeroB | exact zeroR | exact zeroS | exact ⟨key3, zeroB⟩ | exact ⟨key3, zeroR⟩ | exact ⟨key3, zeroS⟩) | ((try dsimp only [imp, C0, cG, cInt, cPl, cSlot, cPg, gwCodec] at *); (try refine inR64 ?_ ?_) <;> (try simp only [List.length_set, List.length_append, List.length_take, List.length_drop]) <;> omega)) | ((try dsimp only [imp, C0, cG, cInt, cPl, cSlot, cPg, gwCodec, Cm1P, Cm2P] at *); (try simp only [decide_eq_true_eq, decide_eq_false_iff_not, Bool.and_eq_true, Bool.or_eq_true, Bool.or_eq_false_iff, Bool.and_eq_false_iff, Bool.not_eq_true', Bool.not_eq_false', SB.val, List.length_append, List.length_cons, List.length_nil, List.length_take, List.length_drop] at *); (first | omega | exact inR64 (by omega) (by omega) | (refine inR64 ?_ ?_ <;> omega)))) | (refine on_of0 ho0 ?_; ((try dsimp only [imp, C0, cG, cInt, cPl, cSlot, cPg, gwCodec, Cm1P, Cm2P] at *); (try simp only [decide_eq_true_eq, decide_eq_false_iff_not, Bool.and_eq_true, Bool.or_eq_true, Bool.or_eq_false_iff, Bool.and_eq_false_iff, Bool.not_eq_true', Bool.not_eq_false', SB.val, List.length_append, List.length_cons, List.length_nil, List.length_take, List.length_drop] at *); (first | omega | exact inR64 (by omega) (by omega) | (refine inR64 ?_ ?_ <;> omega)))) | (intro h9; exfalso; have h8 := ho0 h9; ((try dsimp only [imp, C0, cG, cInt, cPl, cSlot, cPg, gwCodec, Cm1P, Cm2P] at *); (try simp only [decide_eq_true_eq, decide_eq_false_iff_not, Bool.and_eq_true, Bool.or_eq_true, Bool.or_eq_false_iff, Bool.and_eq_false_iff, Bool.not_eq_true', Bool.not_eq_false', SB.val, List.length_append, List.length_cons, List.length_nil, List.length_take, List.length_drop] at *); (first | omega | exact inR64 (by omega) (by omega) | (refine inR64 ?_ ?_ <;> omega)))))
  · rename_i g1
    have g1 := of_decide_eq_true g1
    refine Ends.one ((n, l) : Nat × List Pl) ⟨rfl, (ddp_one (by rw [hL]; omega)).symm, Nat.le_refl _⟩ ?_
    ((conv => (arg 1; reduce)); with_reducible repeat' (first | exact Tr.yes_h | refine Tr.and_h ?_ ?_ | refine Tr.imp_h fun _ => ?_ | refine Tr.all_h fun _ => ?_ | refine Tr.lf_h ?_))
    all_goals (first | first | (show Region.lexB _ _ = true; kernel_rfl) | (show planned _ _ = true; kernel_rfl) | exact rfl | exact True.intro | (first | exact key3 | exact zeroB | exact zeroR | exact zeroS | exact ⟨key3, zeroB⟩ | exact ⟨key3, zeroR⟩ | exact ⟨key3, zeroS⟩) | ((try dsimp only [imp, C0, cG, cInt, cPl, cSlot, cPg, gwCodec] at *); (try refine inR64 ?_ ?_) <;> (try simp only [List.length_set, List.length_append, List.length_take, List.length_drop]) <;> omega))
  · rename_i g1
    have g1 := of_decide_eq_false g1
    refine Stands.one (1 : Nat) ⟨⟨Nat.le_refl _, by omega, ddp_one (by rw [List.length_take]; omega)⟩, ?_⟩
    ((conv => (arg 1; reduce)); with_reducible repeat' (first | exact Tr.yes_h | refine Tr.and_h ?_ ?_ | refine Tr.imp_h fun _ => ?_ | refine Tr.all_h fun _ => ?_ | refine Tr.lf_h ?_))
    all_goals (first | first | (show Region.lexB _ _ = true; kernel_rfl) | (show planned _ _ = true; kernel_rfl) | exact rfl | exact True.intro | (first | exact key3 | exact zeroB | exact zeroR | exact zeroS | exact ⟨key3, zeroB⟩ | exact ⟨key3, zeroR⟩ | exact ⟨key3, zeroS⟩) | ((try dsimp only [imp, C0, cG, cInt, cPl, cSlot, cPg, gwCodec] at *); (try refine inR64 ?_ ?_) <;> (try simp only [List.length_set, List.length_append, List.length_take, List.length_drop]) <;> omega))
  · rename_i k hk g2 g3
    change Nat at k
    obtain ⟨a1, a2, a3⟩ := hk
    have g2 : (k : Int) < (n : Int) := of_decide_eq_true g2
    have g3 : l.getD ((k : Int).toNat + 0) (0, 0) = l.getD (((k : Int) - 1).toNat + 0) (0, 0) := beq36.1 g3
    have e1 : ((k : Int) - 1).toNat = k - 1 := by omega
    rw [e1] at g3
    change l.getD k (0, 0) = l.getD (k - 1) (0, 0) at g3
    refine Stands.one ((k, k, 1, l) : Nat × Nat × Nat × List Pl) ⟨⟨a1, Nat.le_refl _, by show k + 1 ≤ n; omega, a1, by show k < k + 1; omega, rfl, ?_, fun _ _ => rfl⟩, ?_⟩
    · show l.take k = ddp (l.take (k + 1))
      rw [ddp_take (d := (0, 0)) a1 (by omega), if_pos g3, a3]
    ((conv => (arg 1; reduce)); with_reducible repeat' (first | exact Tr.yes_h | refine Tr.and_h ?_ ?_ | refine Tr.imp_h fun _ => ?_ | refine Tr.all_h fun _ => ?_ | refine Tr.lf_h ?_))
    all_goals first | (first | first | (show Region.lexB _ _ = true; kernel_rfl) | (show planned _ _ = true; kernel_rfl) | exact rfl | exact True.intro | (first | exact key3 | exact zeroB | exact zeroR | exact zeroS | exact ⟨key3, zeroB⟩ | exact ⟨key3, zeroR⟩ | exact ⟨key3, zeroS⟩) | ((try dsimp only [imp, C0, cG, cInt, cPl, cSlot, cPg, gwCodec] at *); (try refine inR64 ?_ ?_) <;> (try simp only [List.length_set, List.length_append, List.length_take, List.length_drop]) <;> omega)) | exact srow_lt (by omega)
  · rename_i k hk g1 g2 y hy g3 g4
    obtain ⟨k0, k1, k2, L⟩ := y
    obtain ⟨a1, a2, a3, a4, a5, a6, a7, a8⟩ := hy
    change 1 ≤ k0 at a1
    change 1 ≤ k2 at a2
    change k0 + k2 ≤ n at a3
    change 1 ≤ k1 at a4
    change k1 < k0 + k2 at a5
    change L.length = l.length at a6
    change L.take k1 = ddp (l.take (k0 + k2)) at a7
    change ∀ i, k0 + k2 - 1 ≤ i → L.getD i (0, 0) = l.getD i (0, 0) at a8
    have g3 : (k2 : Int) < ((n - k0 : Nat) : Int) := of_decide_eq_true g3
    have g4 : ¬ L.getD ((k2 : Int).toNat + k0) (0, 0) = L.getD (((k2 : Int) - 1).toNat + k0) (0, 0) := beq36n.1 (not_nt g4)
    have e1 : ((k2 : Int) - 1).toNat + k0 = k0 + k2 - 1 := by omega
    have e2 : (k2 : Int).toNat + k0 = k0 + k2 := by omega
    rw [e1, e2, a8 _ (by omega), a8 _ (by omega)] at g4
    refine Stands.one ((k0, k1 + 1, k2 + 1, L.set k1 (L.getD (k2 + k0) (0, 0))) : Nat × Nat × Nat × List Pl) ⟨⟨a1, by show 1 ≤ k2 + 1; omega, by show k0 + (k2 + 1) ≤ n; omega, by show 1 ≤ k1 + 1; omega, by show k1 + 1 < k0 + (k2 + 1); omega, by show (L.set k1 _).length = l.length; rw [List.length_set]; exact a6, ?_, ?_⟩, by show n - k0 - (k2 + 1) < n - k0 - k2; omega, ?_⟩
    · show (L.set k1 (L.getD (k2 + k0) (0, 0))).take (k1 + 1) = ddp (l.take (k0 + (k2 + 1)))
      rw [take_set_snoc (by omega), a7, show k0 + (k2 + 1) = k0 + k2 + 1 by omega, ddp_take (d := (0, 0)) (by omega) (by omega), if_neg g4, show k2 + k0 = k0 + k2 by omega, a8 _ (by omega)]
    · intro i hi
      change k0 + (k2 + 1) - 1 ≤ i at hi
      show (L.set k1 (L.getD (k2 + k0) (0, 0))).getD i (0, 0) = l.getD i (0, 0)
      rw [getD_set_ne (by omega)]
      exact a8 i (by omega)
    ((conv => (arg 1; reduce)); with_reducible repeat' (first | exact Tr.yes_h | refine Tr.and_h ?_ ?_ | refine Tr.imp_h fun _ => ?_ | refine Tr.all_h fun _ => ?_ | refine Tr.lf_h ?_))
    all_goals (first | first | (show Region.lexB _ _ = true; kernel_rfl) | (show planned _ _ = true; kernel_rfl) | exact rfl | exact True.intro | (first | exact key3 | exact zeroB | exact zeroR | exact zeroS | exact ⟨key3, zeroB⟩ | exact ⟨key3, zeroR⟩ | exact ⟨key3, zeroS⟩) | ((try dsimp only [imp, C0, cG, cInt, cPl, cSlot, cPg, gwCodec] at *); (try refine inR64 ?_ ?_) <;> (try simp only [List.length_set, List.length_append, List.length_take, List.length_drop]) <;> omega))
  · rename_i k hk g1 g2 y hy g3 g4
    obtain ⟨k0, k1, k2, L⟩ := y
    obtain ⟨a1, a2, a3, a4, a5, a6, a7, a8⟩ := hy
    change 1 ≤ k0 at a1
    change 1 ≤ k2 at a2
    change k0 + k2 ≤ n at a3
    change 1 ≤ k1 at a4
    change k1 < k0 + k2 at a5
    change L.length = l.length at a6
    change L.take k1 = ddp (l.take (k0 + k2)) at a7
    change ∀ i, k0 + k2 - 1 ≤ i → L.getD i (0, 0) = l.getD i (0, 0) at a8
    have g3 : (k2 : Int) < ((n - k0 : Nat) : Int) := of_decide_eq_true g3
    have g4 : L.getD ((k2 : Int).toNat + k0) (0, 0) = L.getD (((k2 : Int) - 1).toNat + k0) (0, 0) := beq36.1 (not_nf g4)
    have e1 : ((k2 : Int) - 1).toNat + k0 = k0 + k2 - 1 := by omega
    have e2 : (k2 : Int).toNat + k0 = k0 + k2 := by omega
    rw [e1, e2, a8 _ (by omega), a8 _ (by omega)] at g4
    refine Stands.one ((k0, k1, k2 + 1, L) : Nat × Nat × Nat × List Pl) ⟨⟨a1, by show 1 ≤ k2 + 1; omega, by show k0 + (k2 + 1) ≤ n; omega, a4, by show k1 < k0 + (k2 + 1); omega, a6, ?_, fun i hi => a8 i (by change k0 + (k2 + 1) - 1 ≤ i at hi; omega)⟩, by show n - k0 - (k2 + 1) < n - k0 - k2; omega, ?_⟩
    · show L.take k1 = ddp (l.take (k0 + (k2 + 1)))
      rw [a7, show k0 + (k2 + 1) = k0 + k2 + 1 by omega, ddp_take (d := (0, 0)) (by omega) (by omega), if_pos g4]
    ((conv => (arg 1; reduce)); with_reducible repeat' (first | exact Tr.yes_h | refine Tr.and_h ?_ ?_ | refine Tr.imp_h fun _ => ?_ | refine Tr.all_h fun _ => ?_ | refine Tr.lf_h ?_))
    all_goals (first | first | (show Region.lexB _ _ = true; kernel_rfl) | (show planned _ _ = true; kernel_rfl) | exact rfl | exact True.intro | (first | exact key3 | exact zeroB | exact zeroR | exact zeroS | exact ⟨key3, zeroB⟩ | exact ⟨key3, zeroR⟩ | exact ⟨key3, zeroS⟩) | ((try dsimp only [imp, C0, cG, cInt, cPl, cSlot, cPg, gwCodec] at *); (try refine inR64 ?_ ?_) <;> (try simp only [List.length_set, List.length_append, List.length_take, List.length_drop]) <;> omega))
  · rename_i k hk g1 g2 y hy g3
    obtain ⟨k0, k1, k2, L⟩ := y
    obtain ⟨a1, a2, a3, a4, a5, a6, a7, a8⟩ := hy
    change k0 + k2 ≤ n at a3
    change k1 < k0 + k2 at a5
    change L.length = l.length at a6
    show srow c k1 0 + (n - k1) ≤ L.length
    rw [srow_lt (by omega)]
    omega
  · rename_i k hk g1 g2 y hy g3
    obtain ⟨k0, k1, k2, L⟩ := y
    obtain ⟨a1, a2, a3, a4, a5, a6, a7, a8⟩ := hy
    change k0 + k2 ≤ n at a3
    change k1 < k0 + k2 at a5
    change L.length = l.length at a6
    change L.take k1 = ddp (l.take (k0 + k2)) at a7
    have g3 : ¬ (k2 : Int) < ((n - k0 : Nat) : Int) := of_decide_eq_false g3
    have hs : srow c k1 0 = k1 := srow_lt (by omega)
    refine Ends.one ((k1, L.take (srow c k1 0) ++ List.replicate (n - k1) (0, 0) ++ L.drop (srow c k1 0 + (n - k1))) : Nat × List Pl) ⟨?_, ?_, by show k1 ≤ n; omega⟩ ?_
    · show (L.take (srow c k1 0) ++ List.replicate (n - k1) (0, 0) ++ L.drop (srow c k1 0 + (n - k1))).length = l.length
      simp only [List.length_append, List.length_take, List.length_replicate, List.length_drop, hs]
      omega
    · show (L.take (srow c k1 0) ++ List.replicate (n - k1) (0, 0) ++ L.drop (srow c k1 0 + (n - k1))).take k1 = ddp (l.take n)
      rw [hs, List.append_assoc, List.take_append_of_le_length (by rw [List.length_take]; omega), List.take_take, Nat.min_self, a7, show k0 + k2 = n by omega]
    ((conv => (arg 1; reduce)); with_reducible repeat' (first | exact Tr.yes_h | refine Tr.and_h ?_ ?_ | refine Tr.imp_h fun _ => ?_ | refine Tr.all_h fun _ => ?_ | refine Tr.lf_h ?_))
    all_goals (first | first | (show Region.lexB _ _ = true; kernel_rfl) | (show planned _ _ = true; kernel_rfl) | exact rfl | exact True.intro | (first | exact key3 | exact zeroB | exact zeroR | exact zeroS | exact ⟨key3, zeroB⟩ | exact ⟨key3, zeroR⟩ | exact ⟨key3, zeroS⟩) | ((try dsimp only [imp, C0, cG, cInt, cPl, cSlot, cPg, gwCodec] at *); (try refine inR64 ?_ ?_) <;> (try simp only [List.length_set, List.length_append, List.length_take, List.length_drop]) <;> omega))
  · rename_i k hk g2 g3
    change Nat at k
    obtain ⟨a1, a2, a3⟩ := hk
    have g2 : (k : Int) < (n : Int) := of_decide_eq_true g2
    have g3 : ¬ l.getD ((k : Int).toNat + 0) (0, 0) = l.getD (((k : Int) - 1).toNat + 0) (0, 0) := beq36n.1 g3
    have e1 : ((k : Int) - 1).toNat = k - 1 := by omega
    rw [e1] at g3
    change ¬ l.getD k (0, 0) = l.getD (k - 1) (0, 0) at g3
    refine Stands.one (k + 1 : Nat) ⟨⟨by omega, by omega, ?_⟩, by show n - (k + 1) < n - k; omega, ?_⟩
    · show ddp (l.take (k + 1)) = l.take (k + 1)
      rw [ddp_take (d := (0, 0)) a1 (by omega), if_neg g3, a3, take_snoc (d := (0, 0)) (by omega)]
    ((conv => (arg 1; reduce)); with_reducible repeat' (first | exact Tr.yes_h | refine Tr.and_h ?_ ?_ | refine Tr.imp_h fun _ => ?_ | refine Tr.all_h fun _ => ?_ | refine Tr.lf_h ?_))
    all_goals (first | first | (show Region.lexB _ _ = true; kernel_rfl) | (show planned _ _ = true; kernel_rfl) | exact rfl | exact True.intro | (first | exact key3 | exact zeroB | exact zeroR | exact zeroS | exact ⟨key3, zeroB⟩ | exact ⟨key3, zeroR⟩ | exact ⟨key3, zeroS⟩) | ((try dsimp only [imp, C0, cG, cInt, cPl, cSlot, cPg, gwCodec] at *); (try refine inR64 ?_ ?_) <;> (try simp only [List.length_set, List.length_append, List.length_take, List.length_drop]) <;> omega))
  · rename_i k hk g2
    change Nat at k
    obtain ⟨a1, a2, a3⟩ := hk
    have g2 : ¬ (k : Int) < (n : Int) := of_decide_eq_false g2
    have e : k = n := by omega
    subst e
    refine Ends.one ((k, l) : Nat × List Pl) ⟨rfl, a3.symm, Nat.le_refl _⟩ ?_
    ((conv => (arg 1; reduce)); with_reducible repeat' (first | exact Tr.yes_h | refine Tr.and_h ?_ ?_ | refine Tr.imp_h fun _ => ?_ | refine Tr.all_h fun _ => ?_ | refine Tr.lf_h ?_))
    all_goals (first | first | (show Region.lexB _ _ = true; kernel_rfl) | (show planned _ _ = true; kernel_rfl) | exact rfl | exact True.intro | (first | exact key3 | exact zeroB | exact zeroR | exact zeroS | exact ⟨key3, zeroB⟩ | exact ⟨key3, zeroR⟩ | exact ⟨key3, zeroS⟩) | ((try dsimp only [imp, C0, cG, cInt, cPl, cSlot, cPg, gwCodec] at *); (try refine inR64 ?_ ?_) <;> (try simp only [List.length_set, List.length_append, List.length_take, List.length_drop]) <;> omega))
noncomputable def fcCompactP : Fc Tryd.prog C0 where
  tg := .fn 54
  X := Bool × Nat × Nat × List Pl × Nat × Nat
  args := fun (o, b, q, l, n, c) => [.sl 0 0 n c]
  mem := fun (o, b, q, l, n, c) => [⟨b, q, 2, true, some o, .rows 36 l⟩]
  pre := fun (o, b, q, l, n, c) => n ≤ l.length ∧ n < 1000000000 ∧ n ≤ c ∧ (o = false → n = 0)
  alts := fun (o, b, q, l, n, c) => [⟨Nat × List Pl, fun y => y.2.length = l.length ∧ y.2.take y.1 = ddp (l.take n) ∧ y.1 ≤ n, fun y => .sl 0 0 y.1 c, fun y => [⟨b, q, 2, true, some o, .rows 36 y.2⟩]⟩]
  mat vs m := match vs with
    | [.sl a 0 n c] => match nth m a with
      | ⟨b, q, _, _, g, .rows 36 l⟩ => some ((onOf g, b, q, l, n, c), [a])
      | _ => none
    | _ => none
  ok := fun (o, b, q, l, n, c) h => compactP_ok o b q l n c h.1 h.2.1 h.2.2.1 h.2.2.2
theorem byCS : Tryd.prog.types[40].bytes = 72 := by kernel_rfl
set_option maxHeartbeats 4000000 in
theorem cloneS_ok (o : Bool) (b q : Nat) (l : List Slot) (n c : Nat) (h : n ≤ l.length) (hn : n < 1000000000) (ho : o = false → n = 0 ∧ c = 0) :
    Does (C := C0) Tryd.prog (.fn 33) [⟨b, q, 9, false, some o, .rows 40 l⟩] [.sl 0 0 n c]
    [⟨Sq Slot, fun y => Gth (l.take n) y, fun y => .sl 1 0 y.2.2.2.2.1 y.2.2.2.2.2, fun y => [⟨b, q, 9, false, some o, .rows 40 l⟩, ⟨y.2.1, y.2.2.1, 9, true, some y.1, .rows 40 y.2.2.2.1⟩]⟩] := by
  have hL := tk_len h
  refine loc_fn (P := Tryd.prog) (E := ⟨[], [], 8, [], [], []⟩) (L := []) mix Tryd.func33 rfl (by kernel_rfl) (by kernel_rfl) rfl rfl ?_
  ((conv => (arg 1; reduce)); with_reducible repeat' (first | exact Tr.yes_h | refine Tr.and_h ?_ ?_ | refine Tr.imp_h fun _ => ?_ | refine Tr.all_h fun _ => ?_ | refine Tr.lf_h ?_))
  all_goals try (first | first | (show Region.lexB _ _ = true; kernel_rfl) | (show planned _ _ = true; kernel_rfl) | exact rfl | exact True.intro | (first | exact key3 | exact zeroB | exact zeroR | exact zeroS | exact ⟨key3, zeroB⟩ | exact ⟨key3, zeroR⟩ | exact ⟨key3, zeroS⟩) | ((try dsimp only [imp, C0, cG, cInt, cPl, cSlot, cPg, gwCodec] at *); (try refine inR64 ?_ ?_) <;> (try simp only [List.length_set, List.length_append, List.length_take, List.length_drop]) <;> omega))
  · rename_i h1
    have h1 : (!o) = true := h1
    have h2 : o = false := by simpa using h1
    obtain ⟨rfl, rfl⟩ := ho h2
    refine Ends.one ((false, 0, 0, [], 0, 0) : Sq Slot) Gth.nil ?_
    ((conv => (arg 1; reduce)); with_reducible repeat' (first | exact Tr.yes_h | refine Tr.and_h ?_ ?_ | refine Tr.imp_h fun _ => ?_ | refine Tr.all_h fun _ => ?_ | refine Tr.lf_h ?_))
    all_goals (first | first | (show Region.lexB _ _ = true; kernel_rfl) | (show planned _ _ = true; kernel_rfl) | exact rfl | exact True.intro | (first | exact key3 | exact zeroB | exact zeroR | exact zeroS | exact ⟨key3, zeroB⟩ | exact ⟨key3, zeroR⟩ | exact ⟨key3, zeroS⟩) | ((try dsimp only [imp, C0, cG, cInt, cPl, cSlot, cPg, gwCodec] at *); (try refine inR64 ?_ ?_) <;> (try simp only [List.length_set, List.length_append, List.length_take, List.length_drop]) <;> omega))
  · rw [byCS]
    exact ⟨Nat.le_refl _, Nat.le_refl _, by omega, by show (0 + n) * 72 ≤ _; omega⟩
  · exact fun h9 => ⟨(ho h9).1, (ho h9).1⟩
  · rename_i h1 b1 b2 q2 sp cp e1 e2
    change List Slot at sp
    refine Ends.one ((true, b2, q2, [] ++ l.take n ++ sp, n, cp) : Sq Slot) ⟨?_, hL, ?_, ?_, fun h => by cases h⟩ ?_
    · show ([] ++ l.take n ++ sp).take n = l.take n
      rw [List.nil_append, List.take_append_of_le_length (by omega), List.take_take, Nat.min_self]
    · show n ≤ cp
      omega
    · show cp ≤ ([] ++ l.take n ++ sp).length
      rw [List.nil_append, List.length_append, hL]
      omega
    ((conv => (arg 1; reduce)); with_reducible repeat' (first | exact Tr.yes_h | refine Tr.and_h ?_ ?_ | refine Tr.imp_h fun _ => ?_ | refine Tr.all_h fun _ => ?_ | refine Tr.lf_h ?_))
    all_goals first | (first | first | (show Region.lexB _ _ = true; kernel_rfl) | (show planned _ _ = true; kernel_rfl) | exact rfl | exact True.intro | (first | exact key3 | exact zeroB | exact zeroR | exact zeroS | exact ⟨key3, zeroB⟩ | exact ⟨key3, zeroR⟩ | exact ⟨key3, zeroS⟩) | ((try dsimp only [imp, C0, cG, cInt, cPl, cSlot, cPg, gwCodec] at *); (try refine inR64 ?_ ?_) <;> (try simp only [List.length_set, List.length_append, List.length_take, List.length_drop]) <;> omega)) | (show 0 + n = n; omega)
def fcCloneS : Fc Tryd.prog C0 where
  tg := .fn 33
  X := Bool × Nat × Nat × List Slot × Nat × Nat
  args := fun (o, b, q, l, n, c) => [.sl 0 0 n c]
  mem := fun (o, b, q, l, n, c) => [⟨b, q, 9, false, some o, .rows 40 l⟩]
  pre := fun (o, b, q, l, n, c) => n ≤ l.length ∧ n < 1000000000 ∧ (o = false → n = 0 ∧ c = 0)
  alts := fun (o, b, q, l, n, c) => [⟨Sq Slot, fun y => Gth (l.take n) y, fun y => .sl 1 0 y.2.2.2.2.1 y.2.2.2.2.2, fun y => [⟨b, q, 9, false, some o, .rows 40 l⟩, ⟨y.2.1, y.2.2.1, 9, true, some y.1, .rows 40 y.2.2.2.1⟩]⟩]
  mat vs m := match vs with
    | [.sl a 0 n c] => match nth m a with
      | ⟨b, q, _, _, g, .rows 40 l⟩ => some ((onOf g, b, q, l, n, c), [a])
      | _ => none
    | _ => none
  ok := fun (o, b, q, l, n, c) h => cloneS_ok o b q l n c h.1 h.2.1 h.2.2
end Go.Vx
set_option maxRecDepth 100000
namespace Go.Vx
open Go Go.Proofs
variable [Gl]
def Gth0 {α : Type} (A : List α) (y : Sq α) : Prop := y.2.2.2.1.take y.2.2.2.2.1 = A ∧ A.length = y.2.2.2.2.1 ∧ y.2.2.2.2.1 ≤ y.2.2.2.2.2 ∧ y.2.2.2.2.2 ≤ y.2.2.2.1.length ∧ (y.1 = false → y.2.2.2.2.1 = 0)
theorem off_or {u : Nat} {y : Bool} {n : Nat} (h : y = false → n = 0) (hf : (Nat.blt 0 u || y) = false) : n + u = 0 := by
  rw [Bool.or_eq_false_iff] at hf
  have h1 := h hf.2
  have h2 : ¬ 0 < u := by
    intro h3
    have := hf.1
    rw [show Nat.blt 0 u = true by simpa using h3] at this
    cases this
  omega
set_option maxHeartbeats 4000000 in
theorem joinI_ok (s u : Sq Int) (hs : s.2.2.2.2.1 ≤ s.2.2.2.1.length ∧ s.2.2.2.2.1 < 100000000 ∧ (s.1 = false → s.2.2.2.2.1 = 0 ∧ s.2.2.2.2.2 = 0)) (hu : u.2.2.2.2.1 ≤ u.2.2.2.1.length ∧ u.2.2.2.2.1 < 100000000 ∧ (u.1 = false → u.2.2.2.2.1 = 0 ∧ u.2.2.2.2.2 = 0)) :
    Does (C := C0) Tryd.prog (.fn 30) [⟨s.2.1, s.2.2.1, 1, false, some s.1, .rows 3 s.2.2.2.1⟩, ⟨u.2.1, u.2.2.1, 1, false, some u.1, .rows 3 u.2.2.2.1⟩] [.sl 0 0 s.2.2.2.2.1 s.2.2.2.2.2, .sl 1 0 u.2.2.2.2.1 u.2.2.2.2.2, .fn (.func 31) [] []]
    [⟨Sq Int, fun y => Gth0 (ddp (srt (s.li ++ u.li))) y, fun y => .sl 2 0 y.2.2.2.2.1 y.2.2.2.2.2, fun y => [⟨s.2.1, s.2.2.1, 1, false, some s.1, .rows 3 s.2.2.2.1⟩, ⟨u.2.1, u.2.2.1, 1, false, some u.1, .rows 3 u.2.2.2.1⟩, ⟨y.2.1, y.2.2.1, 1, true, some y.1, .rows 3 y.2.2.2.1⟩]⟩] := by
  obtain ⟨so, sb, sq, sl, sn, sc⟩ := s
  obtain ⟨uo, ub, uq, ul, un, uc⟩ := u
  obtain ⟨hs1, hs2, hs3⟩ := hs
  obtain ⟨hu1, hu2, hu3⟩ := hu
  refine loc_fn (P := Tryd.prog) (E := ⟨[fcCloneI, fcSortFI, fcCompactI], [], 17, [], [], []⟩) (L := []) mix Tryd.func30 rfl (by kernel_rfl) (by kernel_rfl) rfl rfl ?_
  ((conv => (arg 1; reduce)); with_reducible repeat' (first | exact Tr.yes_h | refine Tr.and_h ?_ ?_ | refine Tr.imp_h fun _ => ?_ | refine Tr.all_h fun _ => ?_ | refine Tr.lf_h ?_))
  all_goals try (first | first | (show Region.lexB _ _ = true; kernel_rfl) | (show planned _ _ = true; kernel_rfl) | exact rfl | exact True.intro | (first | exact key3 | exact zeroB | exact zeroR | exact zeroS | exact ⟨key3, zeroB⟩ | exact ⟨key3, zeroR⟩ | exact ⟨key3, zeroS⟩) | ((try dsimp only [imp, C0, cG, cInt, cPl, cSlot, cPg, gwCodec] at *); (try refine inR64 ?_ ?_) <;> (try simp only [List.length_set, List.length_append, List.length_take, List.length_drop]) <;> omega))
  · exact ⟨hs1, Nat.lt_trans hs2 (by decide), hs3⟩
  · rename_i y hy
    obtain ⟨yo, yb, yq, yl, yn, yc⟩ := y
    obtain ⟨y1, y2, y3, y4, y5⟩ := hy
    change sn ≤ sl.length at hs1
    change sn < 100000000 at hs2
    change un ≤ ul.length at hu1
    change un < 100000000 at hu2
    change (sl.take sn).length = yn at y2
    rw [tk_len hs1] at y2
    subst y2
    rw [byCI]
    exact ⟨y3, by show 0 + yc ≤ yl.length; have : yc ≤ yl.length := y4; omega, by show 0 + un ≤ ul.length; omega, by show (sn + un) * 8 ≤ _; omega⟩
  · rename_i y hy
    exact hy.2.2.2.2
  · exact fun h9 => ⟨(hu3 h9).1, (hu3 h9).1⟩
  all_goals (
    change sn ≤ sl.length at hs1
    change sn < 100000000 at hs2
    change un ≤ ul.length at hu1
    change un < 100000000 at hu2)
  · rename_i y hy b2 q2 sp cap e1 e2
    obtain ⟨yo, yb, yq, yl, yn, yc⟩ := y
    obtain ⟨y1, y2, y3, y4, y5⟩ := hy
    change (sl.take sn).length = yn at y2
    rw [tk_len hs1] at y2
    subst y2
    change sn ≤ yc at y3
    change yc ≤ yl.length at y4
    change List Int at sp
    refine ⟨?_, by show sn + un < _; omega, fun h9 => off_or (fun h8 => (y5 h8).1) h9⟩
    show sn + un ≤ (yl.take sn ++ ul.take un ++ sp).length
    simp only [List.length_append, List.length_take]
    omega
  · rename_i y hy b2 q2 sp cap e1 e2 u9 hu9
    obtain ⟨yo, yb, yq, yl, yn, yc⟩ := y
    obtain ⟨y1, y2, y3, y4, y5⟩ := hy
    change (sl.take sn).length = yn at y2
    rw [tk_len hs1] at y2
    subst y2
    change sn ≤ yc at y3
    change yc ≤ yl.length at y4
    change List Int at sp
    refine ⟨?_, by show sn + un < _; omega, e1, fun h9 => off_or (fun h8 => (y5 h8).1) h9⟩
    show sn + un ≤ (srt ((yl.take sn ++ ul.take un ++ sp).take (sn + un)) ++ (yl.take sn ++ ul.take un ++ sp).drop (sn + un)).length
    have hS : (srt ((yl.take sn ++ ul.take un ++ sp).take (sn + un))).length = sn + un := by rw [srt_len, List.length_take]; simp only [List.length_append, List.length_take]; omega
    rw [List.length_append, hS]
    omega
  · rename_i y hy b2 q2 sp cap e1 e2 u9 hu9 z hz
    obtain ⟨yo, yb, yq, yl, yn, yc⟩ := y
    obtain ⟨y1, y2, y3, y4, y5⟩ := hy
    change (sl.take sn).length = yn at y2
    change yl.take yn = sl.take sn at y1
    rw [tk_len hs1] at y2
    subst y2
    change sn ≤ yc at y3
    change yc ≤ yl.length at y4
    change List Int at sp
    obtain ⟨zn, zl⟩ := z
    obtain ⟨z1, z2, z3⟩ := hz
    change zl.length = (srt ((yl.take sn ++ ul.take un ++ sp).take (sn + un)) ++ (yl.take sn ++ ul.take un ++ sp).drop (sn + un)).length at z1
    change zl.take zn = ddp ((srt ((yl.take sn ++ ul.take un ++ sp).take (sn + un)) ++ (yl.take sn ++ ul.take un ++ sp).drop (sn + un)).take (sn + un)) at z2
    change zn ≤ sn + un at z3
    change cap ≤ sn + un + sp.length at e2
    change sn + un ≤ cap at e1
    have hS : (srt ((yl.take sn ++ ul.take un ++ sp).take (sn + un))).length = sn + un := by rw [srt_len, List.length_take]; simp only [List.length_append, List.length_take]; omega
    have hLl : (yl.take sn ++ ul.take un ++ sp).length = sn + un + sp.length := by
      simp only [List.length_append, List.length_take]; omega
    have hz1 : zl.length = sn + un + sp.length := by
      rw [z1, List.length_append, hS, List.length_drop, hLl]; omega
    refine Ends.one ((Nat.blt 0 un || yo, b2, q2, zl, zn, cap) : Sq Int) ⟨?_, ?_, by show zn ≤ cap; omega, by show cap ≤ zl.length; omega, fun h9 => ?_⟩ ?_
    · show zl.take zn = ddp (srt (sl.take sn ++ ul.take un))
      rw [z2, List.take_append_of_le_length (by omega), List.take_of_length_le (by omega), List.take_append_of_le_length (by simp only [List.length_append, List.length_take]; omega), List.take_of_length_le (by simp only [List.length_append, List.length_take]; omega), y1]
    · show (ddp (srt (sl.take sn ++ ul.take un))).length = zn
      have e : zl.take zn = ddp (srt (sl.take sn ++ ul.take un)) := by
        rw [z2, List.take_append_of_le_length (by omega), List.take_of_length_le (by omega), List.take_append_of_le_length (by simp only [List.length_append, List.length_take]; omega), List.take_of_length_le (by simp only [List.length_append, List.length_take]; omega), y1]
      rw [← e]
      exact tk_len (by omega)
    · have : sn + un = 0 := off_or (fun h8 => (y5 h8).1) h9
      show zn = 0
      omega
    ((conv => (arg 1; reduce)); with_reducible repeat' (first | exact Tr.yes_h | refine Tr.and_h ?_ ?_ | refine Tr.imp_h fun _ => ?_ | refine Tr.all_h fun _ => ?_ | refine Tr.lf_h ?_))
    all_goals (first | first | (show Region.lexB _ _ = true; kernel_rfl) | (show planned _ _ = true; kernel_rfl) | exact rfl | exact True.intro | (first | exact key3 | exact zeroB | exact zeroR | exact zeroS | exact ⟨key3, zeroB⟩ | exact ⟨key3, zeroR⟩ | exact ⟨key3, zeroS⟩) | ((try dsimp only [imp, C0, cG, cInt, cPl, cSlot, cPg, gwCodec] at *); (try refine inR64 ?_ ?_) <;> (try simp only [List.length_set, List.length_append, List.length_take, List.length_drop]) <;> omega))
noncomputable def fcJoinI : Fc Tryd.prog C0 where
  tg := .fn 30
  X := Sq Int × Sq Int
  args := fun (s, u) => [.sl 0 0 s.2.2.2.2.1 s.2.2.2.2.2, .sl 1 0 u.2.2.2.2.1 u.2.2.2.2.2, .fn (.func 31) [] []]
  mem := fun (s, u) => [⟨s.2.1, s.2.2.1, 1, false, some s.1, .rows 3 s.2.2.2.1⟩, ⟨u.2.1, u.2.2.1, 1, false, some u.1, .rows 3 u.2.2.2.1⟩]
  pre := fun (s, u) => (s.2.2.2.2.1 ≤ s.2.2.2.1.length ∧ s.2.2.2.2.1 < 100000000 ∧ (s.1 = false → s.2.2.2.2.1 = 0 ∧ s.2.2.2.2.2 = 0)) ∧ (u.2.2.2.2.1 ≤ u.2.2.2.1.length ∧ u.2.2.2.2.1 < 100000000 ∧ (u.1 = false → u.2.2.2.2.1 = 0 ∧ u.2.2.2.2.2 = 0))
  alts := fun (s, u) => [⟨Sq Int, fun y => Gth0 (ddp (srt (s.li ++ u.li))) y, fun y => .sl 2 0 y.2.2.2.2.1 y.2.2.2.2.2, fun y => [⟨s.2.1, s.2.2.1, 1, false, some s.1, .rows 3 s.2.2.2.1⟩, ⟨u.2.1, u.2.2.1, 1, false, some u.1, .rows 3 u.2.2.2.1⟩, ⟨y.2.1, y.2.2.1, 1, true, some y.1, .rows 3 y.2.2.2.1⟩]⟩]
  mat vs m := match vs with
    | [.sl a 0 n c, .sl d 0 n2 c2, .fn (.func 31) _ _] => match nth m a, nth m d with
      | ⟨b, q, _, _, g, .rows 3 l⟩, ⟨b2, q2, _, _, g2, .rows 3 l2⟩ => some (((onOf g, b, q, l, n, c), (onOf g2, b2, q2, l2, n2, c2)), [a, d])
      | _, _ => none
    | _ => none
  ok := fun (s, u) h => joinI_ok s u h.1 h.2
set_option maxHeartbeats 4000000 in
theorem joinP_ok (s u : Sq Pl) (hs : s.2.2.2.2.1 ≤ s.2.2.2.1.length ∧ s.2.2.2.2.1 < 100000000 ∧ (s.1 = false → s.2.2.2.2.1 = 0 ∧ s.2.2.2.2.2 = 0)) (hu : u.2.2.2.2.1 ≤ u.2.2.2.1.length ∧ u.2.2.2.2.1 < 100000000 ∧ (u.1 = false → u.2.2.2.2.1 = 0 ∧ u.2.2.2.2.2 = 0)) :
    Does (C := C0) Tryd.prog (.fn 32) [⟨s.2.1, s.2.2.1, 2, false, some s.1, .rows 36 s.2.2.2.1⟩, ⟨u.2.1, u.2.2.1, 2, false, some u.1, .rows 36 u.2.2.2.1⟩] [.sl 0 0 s.2.2.2.2.1 s.2.2.2.2.2, .sl 1 0 u.2.2.2.2.1 u.2.2.2.2.2, .fn (.func 25) [] []]
    [⟨Sq Pl, fun y => ∃ A, Gth0 A y, fun y => .sl 2 0 y.2.2.2.2.1 y.2.2.2.2.2, fun y => [⟨s.2.1, s.2.2.1, 2, false, some s.1, .rows 36 s.2.2.2.1⟩, ⟨u.2.1, u.2.2.1, 2, false, some u.1, .rows 36 u.2.2.2.1⟩, ⟨y.2.1, y.2.2.1, 2, true, some y.1, .rows 36 y.2.2.2.1⟩]⟩] := by
  obtain ⟨so, sb, sq, sl, sn, sc⟩ := s
  obtain ⟨uo, ub, uq, ul, un, uc⟩ := u
  obtain ⟨hs1, hs2, hs3⟩ := hs
  obtain ⟨hu1, hu2, hu3⟩ := hu
  refine loc_fn (P := Tryd.prog) (E := ⟨[fcCloneP, fcSortFP, fcCompactP], [], 17, [], [], []⟩) (L := []) mix Tryd.func32 rfl (by kernel_rfl) (by kernel_rfl) rfl rfl ?_
  ((conv => (arg 1; reduce)); with_reducible repeat' (first | exact Tr.yes_h | refine Tr.and_h ?_ ?_ | refine Tr.imp_h fun _ => ?_ | refine Tr.all_h fun _ => ?_ | refine Tr.lf_h ?_))
  all_goals try (first | first | (show Region.lexB _ _ = true; kernel_rfl) | (show planned _ _ = true; kernel_rfl) | exact rfl | exact True.intro | (first | exact key3 | exact zeroB | exact zeroR | exact zeroS | exact ⟨key3, zeroB⟩ | exact ⟨key3, zeroR⟩ | exact ⟨key3, zeroS⟩) | ((try dsimp only [imp, C0, cG, cInt, cPl, cSlot, cPg, gwCodec] at *); (try refine inR64 ?_ ?_) <;> (try simp only [List.length_set, List.length_append, List.length_take, List.length_drop]) <;> omega))
  · exact ⟨hs1, Nat.lt_trans hs2 (by decide), hs3⟩
  · rename_i y hy
    obtain ⟨yo, yb, yq, yl, yn, yc⟩ := y
    obtain ⟨y1, y2, y3, y4, y5⟩ := hy
    change sn ≤ sl.length at hs1
    change sn < 100000000 at hs2
    change un ≤ ul.length at hu1
    change un < 100000000 at hu2
    change (sl.take sn).length = yn at y2
    rw [tk_len hs1] at y2
    subst y2
    rw [byCP]
    exact ⟨y3, by show 0 + yc ≤ yl.length; have : yc ≤ yl.length := y4; omega, by show 0 + un ≤ ul.length; omega, by show (sn + un) * 16 ≤ _; omega⟩
  · rename_i y hy
    exact hy.2.2.2.2
  · exact fun h9 => ⟨(hu3 h9).1, (hu3 h9).1⟩
  all_goals (
    change sn ≤ sl.length at hs1
    change sn < 100000000 at hs2
    change un ≤ ul.length at hu1
    change un < 100000000 at hu2)
  · rename_i y hy b2 q2 sp cap e1 e2
    obtain ⟨yo, yb, yq, yl, yn, yc⟩ := y
    obtain ⟨y1, y2, y3, y4, y5⟩ := hy
    change (sl.take sn).length = yn at y2
    rw [tk_len hs1] at y2
    subst y2
    change sn ≤ yc at y3
    change yc ≤ yl.length at y4
    change List Pl at sp
    refine ⟨?_, by show sn + un < _; omega, fun h9 => off_or (fun h8 => (y5 h8).1) h9⟩
    show sn + un ≤ (yl.take sn ++ ul.take un ++ sp).length
    simp only [List.length_append, List.length_take]
    omega
  · rename_i y hy b2 q2 sp cap e1 e2 xs hu9
    obtain ⟨yo, yb, yq, yl, yn, yc⟩ := y
    obtain ⟨y1, y2, y3, y4, y5⟩ := hy
    change (sl.take sn).length = yn at y2
    rw [tk_len hs1] at y2
    subst y2
    change sn ≤ yc at y3
    change yc ≤ yl.length at y4
    change List Pl at sp
    refine ⟨?_, by show sn + un < _; omega, e1, fun h9 => off_or (fun h8 => (y5 h8).1) h9⟩
    show sn + un ≤ (xs ++ (yl.take sn ++ ul.take un ++ sp).drop (sn + un)).length
    have hS : xs.length = sn + un := hu9
    rw [List.length_append, hS]
    omega
  · rename_i y hy b2 q2 sp cap e1 e2 xs hu9 z hz
    obtain ⟨yo, yb, yq, yl, yn, yc⟩ := y
    obtain ⟨y1, y2, y3, y4, y5⟩ := hy
    change (sl.take sn).length = yn at y2
    change yl.take yn = sl.take sn at y1
    rw [tk_len hs1] at y2
    subst y2
    change sn ≤ yc at y3
    change yc ≤ yl.length at y4
    change List Pl at sp
    obtain ⟨zn, zl⟩ := z
    obtain ⟨z1, z2, z3⟩ := hz
    change zl.length = (xs ++ (yl.take sn ++ ul.take un ++ sp).drop (sn + un)).length at z1
    change zl.take zn = ddp ((xs ++ (yl.take sn ++ ul.take un ++ sp).drop (sn + un)).take (sn + un)) at z2
    change zn ≤ sn + un at z3
    change cap ≤ sn + un + sp.length at e2
    change sn + un ≤ cap at e1
    have hS : xs.length = sn + un := hu9
    have hLl : (yl.take sn ++ ul.take un ++ sp).length = sn + un + sp.length := by
      simp only [List.length_append, List.length_take]; omega
    have hz1 : zl.length = sn + un + sp.length := by
      rw [z1, List.length_append, hS, List.length_drop, hLl]; omega
    refine Ends.one ((Nat.blt 0 un || yo, b2, q2, zl, zn, cap) : Sq Pl) ⟨zl.take zn, rfl, tk_len (by show zn ≤ zl.length; omega), by show zn ≤ cap; omega, by show cap ≤ zl.length; omega, fun h9 => ?_⟩ ?_
    · have : sn + un = 0 := off_or (fun h8 => (y5 h8).1) h9
      show zn = 0
      omega
    ((conv => (arg 1; reduce)); with_reducible repeat' (first | exact Tr.yes_h | refine Tr.and_h ?_ ?_ | refine Tr.imp_h fun _ => ?_ | refine Tr.all_h fun _ => ?_ | refine Tr.lf_h ?_))
    all_goals (first | first | (show Region.lexB _ _ = true; kernel_rfl) | (show planned _ _ = true; kernel_rfl) | exact rfl | exact True.intro | (first | exact key3 | exact zeroB | exact zeroR | exact zeroS | exact ⟨key3, zeroB⟩ | exact ⟨key3, zeroR⟩ | exact ⟨key3, zeroS⟩) | ((try dsimp only [imp, C0, cG, cInt, cPl, cSlot, cPg, gwCodec] at *); (try refine inR64 ?_ ?_) <;> (try simp only [List.length_set, List.length_append, List.length_take, List.length_drop]) <;> omega))
noncomputable def fcJoinP : Fc Tryd.prog C0 where
  tg := .fn 32
  X := Sq Pl × Sq Pl
  args := fun (s, u) => [.sl 0 0 s.2.2.2.2.1 s.2.2.2.2.2, .sl 1 0 u.2.2.2.2.1 u.2.2.2.2.2, .fn (.func 25) [] []]
  mem := fun (s, u) => [⟨s.2.1, s.2.2.1, 2, false, some s.1, .rows 36 s.2.2.2.1⟩, ⟨u.2.1, u.2.2.1, 2, false, some u.1, .rows 36 u.2.2.2.1⟩]
  pre := fun (s, u) => (s.2.2.2.2.1 ≤ s.2.2.2.1.length ∧ s.2.2.2.2.1 < 100000000 ∧ (s.1 = false → s.2.2.2.2.1 = 0 ∧ s.2.2.2.2.2 = 0)) ∧ (u.2.2.2.2.1 ≤ u.2.2.2.1.length ∧ u.2.2.2.2.1 < 100000000 ∧ (u.1 = false → u.2.2.2.2.1 = 0 ∧ u.2.2.2.2.2 = 0))
  alts := fun (s, u) => [⟨Sq Pl, fun y => ∃ A, Gth0 A y, fun y => .sl 2 0 y.2.2.2.2.1 y.2.2.2.2.2, fun y => [⟨s.2.1, s.2.2.1, 2, false, some s.1, .rows 36 s.2.2.2.1⟩, ⟨u.2.1, u.2.2.1, 2, false, some u.1, .rows 36 u.2.2.2.1⟩, ⟨y.2.1, y.2.2.1, 2, true, some y.1, .rows 36 y.2.2.2.1⟩]⟩]
  mat vs m := match vs with
    | [.sl a 0 n c, .sl d 0 n2 c2, .fn (.func 25) _ _] => match nth m a, nth m d with
      | ⟨b, q, _, _, g, .rows 36 l⟩, ⟨b2, q2, _, _, g2, .rows 36 l2⟩ => some (((onOf g, b, q, l, n, c), (onOf g2, b2, q2, l2, n2, c2)), [a, d])
      | _, _ => none
    | _ => none
  ok := fun (s, u) h => joinP_ok s u h.1 h.2
end Go.Vx
namespace Go.Vx
open Go
def getOps : Code → Nat → Option (Array Oper)
  | .region id ops _, n => match Nat.beq id n with
    | true => some ops
    | false => none
  | .seq a b, n => match getOps a n with
    | some o => some o
    | none => getOps b n
  | .cond _ a b, n => match getOps a n with
    | some o => some o
    | none => getOps b n
  | .block _ c, n => getOps c n
  | .loop c, n => getOps c n
  | _, _ => none
def opsOf (fn : Func) (n : Nat) : Option (Array Oper) := match fn.body with
  | some c => getOps c n
  | none => none
def tkI : Tk → Nat
  | .p i => i
  | .q i => i
  | .e i => i
  | .f i => i
  | .t _ => 0
def listedBy : List Tk → Array Bool → Array Bool
  | [], l => l
  | t :: r, l => listedBy r (l.setIfInBounds (tkI t) true)
def stepOKL (ops : Array Oper) (W L : List Nat) (late : Bool) : Tk → Array Bool → Bool
  | .p i, listed => (Region.ready .any ops listed).contains i && Region.free .any ops listed i && !kW W i &&
      reachP ops L late i listed (if late || L.isEmpty then Array.replicate ops.size true else reach ops i ops.size listed)
  | .q i, listed => (Region.ready .any ops listed).contains i && Region.free .any ops listed i && !kW W i && reachOK ops W i listed (reach ops i ops.size listed)
  | .e i, listed => (match Region.ready .any ops listed with
      | [j] => Nat.beq j i
      | _ => false) && kW W i
  | .f i, listed => (match Region.ready .any ops listed with
      | [j] => Nat.beq j i
      | _ => false) && kW W i && L.contains i
  | .t _, _ => false
def lateBy : Bool → List Tk → Bool
  | late, [] => late
  | _, .f _ :: r => lateBy true r
  | late, .p _ :: r => lateBy late r
  | late, .q _ :: r => lateBy late r
  | late, .e _ :: r => lateBy late r
  | late, .t _ :: r => lateBy late r
def stepsOKL (ops : Array Oper) (W L : List Nat) : Bool → List Tk → Array Bool → Bool
  | _, [], _ => true
  | late, t :: r, listed => stepOKL ops W L late t listed && stepsOKL ops W L (lateBy late [t]) r (listed.setIfInBounds (tkI t) true)
theorem plan_cutL {ops : Array Oper} {W L : List Nat} : ∀ (a b : List Tk) (late : Bool) (listed : Array Bool), stepsOKL ops W L late a listed = true → planOK ops W L (lateBy late a) (PTree.of b) (listedBy a listed) = true → planOK ops W L late (PTree.of (a ++ b)) listed = true
  | [], b, late, listed, _, h => h
  | t :: r, b, late, listed, hs, h => by
    simp only [stepsOKL, Bool.and_eq_true] at hs
    cases t with
    | p i =>
      have ih := plan_cutL r b _ _ hs.2 h
      have h1 := hs.1
      simp only [stepOKL, Bool.and_eq_true] at h1
      simp only [List.cons_append, PTree.of, planOK, Bool.and_eq_true]
      exact ⟨⟨⟨⟨h1.1.1.1, h1.1.1.2⟩, h1.1.2⟩, h1.2⟩, ih⟩
    | q i =>
      have ih := plan_cutL r b _ _ hs.2 h
      have h1 := hs.1
      simp only [stepOKL, Bool.and_eq_true] at h1
      simp only [List.cons_append, PTree.of, planOK, Bool.and_eq_true]
      exact ⟨⟨⟨⟨h1.1.1.1, h1.1.1.2⟩, h1.1.2⟩, h1.2⟩, ih⟩
    | e i =>
      have ih := plan_cutL r b _ _ hs.2 h
      have h1 := hs.1
      simp only [stepOKL, Bool.and_eq_true] at h1
      simp only [List.cons_append, PTree.of, planOK, Bool.and_eq_true]
      exact ⟨⟨h1.1, h1.2⟩, ih⟩
    | f i =>
      have ih := plan_cutL r b _ _ hs.2 h
      have h1 := hs.1
      simp only [stepOKL, Bool.and_eq_true] at h1
      simp only [List.cons_append, PTree.of, planOK, Bool.and_eq_true]
      exact ⟨⟨⟨h1.1.1, h1.1.2⟩, h1.2⟩, ih⟩
    | t i => simp [stepOKL] at hs
end Go.Vx
set_option maxRecDepth 1000000
namespace Go.Vx
open Go Go.Proofs
abbrev merB : List Tk := [.p 0, .p 1, .p 2, .p 3, .p 5, .p 6, .p 7, .p 8, .p 10, .p 11, .p 12, .p 13, .e 4, .p 15, .e 9, .e 14, .e 16, .p 17, .e 18, .p 19, .e 20]
noncomputable def merB_ops : Array Oper := match opsOf Tryd.f23 2 with
  | some o => o
  | none => #[]
def merB_w : List Nat := [4, 9, 14, 16, 18, 20]
def merB_f : List Nat := []
def merB_l0 : Array Bool := #[false, false, false, false, false, false, false, false, false, false, false, false, false, false, false, false, false, false, false, false, false]
theorem merB_s0 : stepsOKL merB_ops merB_w merB_f false [.p 0, .p 1, .p 2, .p 3] merB_l0 = true := by kernel_rfl
def merB_l1 : Array Bool := #[true, true, true, true, false, false, false, false, false, false, false, false, false, false, false, false, false, false, false, false, false]
theorem merB_a0 : listedBy [.p 0, .p 1, .p 2, .p 3] merB_l0 = merB_l1 := by kernel_rfl
theorem merB_s1 : stepsOKL merB_ops merB_w merB_f false [.p 5, .p 6, .p 7, .p 8] merB_l1 = true := by kernel_rfl
def merB_l2 : Array Bool := #[true, true, true, true, false, true, true, true, true, false, false, false, false, false, false, false, false, false, false, false, false]
theorem merB_a1 : listedBy [.p 5, .p 6, .p 7, .p 8] merB_l1 = merB_l2 := by kernel_rfl
theorem merB_s2 : stepsOKL merB_ops merB_w merB_f false [.p 10, .p 11, .p 12, .p 13] merB_l2 = true := by kernel_rfl
def merB_l3 : Array Bool := #[true, true, true, true, false, true, true, true, true, false, true, true, true, true, false, false, false, false, false, false, false]
theorem merB_a2 : listedBy [.p 10, .p 11, .p 12, .p 13] merB_l2 = merB_l3 := by kernel_rfl
theorem merB_s3 : stepsOKL merB_ops merB_w merB_f false [.e 4, .p 15, .e 9, .e 14] merB_l3 = true := by kernel_rfl
def merB_l4 : Array Bool := #[true, true, true, true, true, true, true, true, true, true, true, true, true, true, true, true, false, false, false, false, false]
theorem merB_a3 : listedBy [.e 4, .p 15, .e 9, .e 14] merB_l3 = merB_l4 := by kernel_rfl
theorem merB_s4 : stepsOKL merB_ops merB_w merB_f false [.e 16, .p 17, .e 18, .p 19] merB_l4 = true := by kernel_rfl
def merB_l5 : Array Bool := #[true, true, true, true, true, true, true, true, true, true, true, true, true, true, true, true, true, true, true, true, false]
theorem merB_a4 : listedBy [.e 16, .p 17, .e 18, .p 19] merB_l4 = merB_l5 := by kernel_rfl
theorem merB_s5 : stepsOKL merB_ops merB_w merB_f false [.e 20] merB_l5 = true := by kernel_rfl
def merB_l6 : Array Bool := #[true, true, true, true, true, true, true, true, true, true, true, true, true, true, true, true, true, true, true, true, true]
theorem merB_a5 : listedBy [.e 20] merB_l5 = merB_l6 := by kernel_rfl
theorem merB_k6 : planOK merB_ops merB_w merB_f false (PTree.of []) merB_l6 = true := by kernel_rfl
theorem merB_k5 : planOK merB_ops merB_w merB_f false (PTree.of [.e 20]) merB_l5 = true := plan_cutL [.e 20] _ _ _ merB_s5 (by rw [merB_a5]; exact merB_k6)
theorem merB_k4 : planOK merB_ops merB_w merB_f false (PTree.of [.e 16, .p 17, .e 18, .p 19, .e 20]) merB_l4 = true := plan_cutL [.e 16, .p 17, .e 18, .p 19] _ _ _ merB_s4 (by rw [merB_a4]; exact merB_k5)
theorem merB_k3 : planOK merB_ops merB_w merB_f false (PTree.of [.e 4, .p 15, .e 9, .e 14, .e 16, .p 17, .e 18, .p 19, .e 20]) merB_l3 = true := plan_cutL [.e 4, .p 15, .e 9, .e 14] _ _ _ merB_s3 (by rw [merB_a3]; exact merB_k4)
theorem merB_k2 : planOK merB_ops merB_w merB_f false (PTree.of [.p 10, .p 11, .p 12, .p 13, .e 4, .p 15, .e 9, .e 14, .e 16, .p 17, .e 18, .p 19, .e 20]) merB_l2 = true := plan_cutL [.p 10, .p 11, .p 12, .p 13] _ _ _ merB_s2 (by rw [merB_a2]; exact merB_k3)
theorem merB_k1 : planOK merB_ops merB_w merB_f false (PTree.of [.p 5, .p 6, .p 7, .p 8, .p 10, .p 11, .p 12, .p 13, .e 4, .p 15, .e 9, .e 14, .e 16, .p 17, .e 18, .p 19, .e 20]) merB_l1 = true := plan_cutL [.p 5, .p 6, .p 7, .p 8] _ _ _ merB_s1 (by rw [merB_a1]; exact merB_k2)
theorem merB_k0 : planOK merB_ops merB_w merB_f false (PTree.of [.p 0, .p 1, .p 2, .p 3, .p 5, .p 6, .p 7, .p 8, .p 10, .p 11, .p 12, .p 13, .e 4, .p 15, .e 9, .e 14, .e 16, .p 17, .e 18, .p 19, .e 20]) merB_l0 = true := plan_cutL [.p 0, .p 1, .p 2, .p 3] _ _ _ merB_s0 (by rw [merB_a0]; exact merB_k1)
theorem merB_ok (ops : Array Oper) (h : opsOf Tryd.f23 2 = some ops) : planned ops (PTree.of merB) = true := by
  have e : ops = merB_ops := by unfold merB_ops; rw [h]
  subst e
  unfold planned
  rw [show effs (PTree.of merB) = merB_w from rfl, show lates (PTree.of merB) = merB_f from rfl, show Array.replicate merB_ops.size false = merB_l0 by kernel_rfl, merB_k0, show Region.noSelect merB_ops = true by kernel_rfl, show Nat.beq (PTree.of merB).len merB_ops.size = true by kernel_rfl]
  rfl
end Go.Vx
set_option maxRecDepth 100000
namespace Go.Vx
open Go Go.Proofs
variable [Gl]
abbrev rw (Q : List (List Pg)) (i : Nat) : List Pg := Q.getD i []
def pgsTo (f : Nat → List Pg → Bool) (Q : List (List Pg)) : Nat → List Pg
  | 0 => []
  | i + 1 => pgsTo f Q i ++ (if f i (rw Q i) then rw Q i else [])
def pgsAt (f : Nat → List Pg → Bool) (Q : List (List Pg)) (i j : Nat) : List Pg := pgsTo f Q i ++ (if f i (rw Q i) then (rw Q i).take j else [])
section
variable {f : Nat → List Pg → Bool} {Q : List (List Pg)} {i j : Nat}
theorem pgsAt_zero : pgsAt f Q i 0 = pgsTo f Q i := by
  unfold pgsAt
  split <;> simp
theorem pgsAt_all (h : (rw Q i).length ≤ j) : pgsAt f Q i j = pgsTo f Q (i + 1) := by
  unfold pgsAt
  rw [List.take_of_length_le h]; rfl
theorem pgsAt_yes (h : j < (rw Q i).length) (hf : f i (rw Q i) = true) : pgsAt f Q i (j + 1) = pgsAt f Q i j ++ [(rw Q i).getD j pg0] := by
  unfold pgsAt
  rw [if_pos hf, if_pos hf, take_snoc (d := pg0) h, List.append_assoc]
theorem pgsAt_off (hf : f i (rw Q i) = false) : pgsAt f Q i (j + 1) = pgsAt f Q i j := by
  unfold pgsAt
  rw [if_neg (by rw [hf]; exact Bool.false_ne_true), if_neg (by rw [hf]; exact Bool.false_ne_true)]
end
@[irreducible] def fTo (h : Int → Pg → Int) (f : Nat → List Pg → Bool) (Q : List (List Pg)) (i : Nat) : Int := ((pgsTo f Q i).filter fun p => decide (p.cl = 1)).foldl h 0
@[irreducible] def fAt (h : Int → Pg → Int) (f : Nat → List Pg → Bool) (Q : List (List Pg)) (i j : Nat) : Int := ((pgsAt f Q i j).filter fun p => decide (p.cl = 1)).foldl h 0
section
variable {h : Int → Pg → Int} {f : Nat → List Pg → Bool} {Q : List (List Pg)} {i j : Nat}
theorem fTo_zero : fTo h f Q 0 = 0 := by unfold fTo; rfl
theorem fAt_zero : fAt h f Q i 0 = fTo h f Q i := by unfold fAt fTo; rw [pgsAt_zero]
theorem fAt_all (hj : (rw Q i).length ≤ j) : fAt h f Q i j = fTo h f Q (i + 1) := by unfold fAt fTo; rw [pgsAt_all hj]
theorem fAt_yes (hj : j < (rw Q i).length) (hf : f i (rw Q i) = true) (hc : ((rw Q i).getD j pg0).cl = 1) : fAt h f Q i (j + 1) = h (fAt h f Q i j) ((rw Q i).getD j pg0) := by
  unfold fAt
  rw [pgsAt_yes hj hf, List.filter_append, List.filter_cons_of_pos (by simpa using hc), List.filter_nil, List.foldl_append]; rfl
theorem fAt_torn (hj : j < (rw Q i).length) (hc : ¬ ((rw Q i).getD j pg0).cl = 1) : fAt h f Q i (j + 1) = fAt h f Q i j := by
  unfold fAt
  cases hf : f i (rw Q i) with
  | true => rw [pgsAt_yes hj hf, List.filter_append, List.filter_cons_of_neg (by simpa using hc), List.filter_nil, List.append_nil]
  | false => rw [pgsAt_off hf]
theorem fAt_off (hf : f i (rw Q i) = false) : fAt h f Q i (j + 1) = fAt h f Q i j := by
  unfold fAt
  rw [pgsAt_off hf]
end
def isBad (n : Nat) (p : Pg) : Bool := decide (p.cl = 1) && decide (p.me.kind = 5) && decide (p.me.batch = 0) && decide (0 ≤ p.me.key) && decide (p.me.key < (n : Int))
abbrev hdF : Nat → List Pg → Bool := fun i r => isHd (i : Int) r
abbrev allF : Nat → List Pg → Bool := fun _ _ => true
@[irreducible] def badTo (n : Nat) (Q : List (List Pg)) (i : Nat) : List Int := ((pgsTo hdF Q i).filter (isBad n)).map fun p => p.me.key
@[irreducible] def badAt (n : Nat) (Q : List (List Pg)) (i j : Nat) : List Int := ((pgsAt hdF Q i j).filter (isBad n)).map fun p => p.me.key
section
variable {n : Nat} {Q : List (List Pg)} {i j : Nat}
theorem badTo_zero : badTo n Q 0 = [] := by unfold badTo; rfl
theorem badAt_zero : badAt n Q i 0 = badTo n Q i := by unfold badAt badTo; rw [pgsAt_zero]
theorem badAt_all (hj : (rw Q i).length ≤ j) : badAt n Q i j = badTo n Q (i + 1) := by unfold badAt badTo; rw [pgsAt_all hj]
theorem badAt_yes (hj : j < (rw Q i).length) (hf : isHd i (rw Q i) = true) (hc : isBad n ((rw Q i).getD j pg0) = true) : badAt n Q i (j + 1) = badAt n Q i j ++ [((rw Q i).getD j pg0).me.key] := by
  unfold badAt
  rw [pgsAt_yes hj hf, List.filter_append, List.filter_cons_of_pos hc, List.filter_nil, List.map_append]; rfl
theorem badAt_no (hj : j < (rw Q i).length) (hc : (isHd i (rw Q i) && isBad n ((rw Q i).getD j pg0)) = false) : badAt n Q i (j + 1) = badAt n Q i j := by
  unfold badAt
  cases hf : isHd (i : Int) (rw Q i) with
  | true =>
    rw [hf, Bool.true_and] at hc
    rw [pgsAt_yes hj hf, List.filter_append, List.filter_cons_of_neg (by rw [hc]; exact Bool.false_ne_true), List.filter_nil, List.append_nil]
  | false => rw [pgsAt_off hf]
theorem mem_badTo {k : Int} (h : k ∈ badTo n Q i) : 0 ≤ k ∧ k < (n : Int) := by
  unfold badTo at h
  obtain ⟨p, hp, rfl⟩ := List.mem_map.1 h
  have := (List.mem_filter.1 hp).2
  unfold isBad at this
  simp only [Bool.and_eq_true, decide_eq_true_eq] at this
  exact ⟨this.1.2, this.2⟩
end
@[irreducible] def badL (n : Nat) (Q : List (List Pg)) : List Int := (upTo n).filter fun k => decide (k ∈ badTo n Q n)
theorem mem_badL {n : Nat} {Q : List (List Pg)} {k : Int} : k ∈ badL n Q ↔ k ∈ badTo n Q n := by
  unfold badL
  rw [List.mem_filter, mem_upTo, decide_eq_true_eq]
  exact ⟨fun h => h.2, fun h => ⟨mem_badTo h, h⟩⟩
theorem rise_badL (n : Nat) (Q : List (List Pg)) : Rise (badL n Q) := by unfold badL; exact (rise_upTo n).filter _
abbrev cntF (n : Nat) (Q : List (List Pg)) : Nat → List Pg → Bool := fun i r => isHd (i : Int) r && !decide ((i : Int) ∈ badTo n Q n)
abbrev mxH (g : Me → Int) : Int → Pg → Int := fun a p => max a (g p.me)
abbrev flH : Int → Pg → Int := fun a p => if p.me.kind = 4 then max (max a p.me.floor) p.me.key else max a p.me.floor
end Go.Vx
set_option maxRecDepth 100000
namespace Go.Vx
open Go Go.Proofs
variable [Gl]
theorem rwR (R : List (Rw Pg)) (i : Nat) : rw (R.map fun r => r.l) i = (R.getD i Rw.nil).l := by
  unfold rw
  rw [List.getD_eq_getElem?_getD, List.getD_eq_getElem?_getD, List.getElem?_map]
  cases R[i]? <;> rfl
theorem nd_len : ∀ (A B : List Int), A.Nodup → (∀ x ∈ A, x ∈ B) → A.length ≤ B.length := by
  intro A
  induction A with
  | nil => intro B _ _; exact Nat.zero_le _
  | cons a r ih =>
    intro B hn hs
    rw [List.nodup_cons] at hn
    have hb := hs a (by simp)
    have := ih (B.erase a) hn.2 fun x hx => (List.mem_erase_of_ne (fun e => hn.1 (by rw [← e]; exact hx))).2 (hs x (by simp [hx]))
    rw [List.length_erase_of_mem hb] at this
    have := List.length_pos_of_mem hb
    simp only [List.length_cons]; omega
theorem and_six (h a b c d e : Bool) : (h && (a && b && c && d && e)) = (a && b && c && h && d && e) := by
  cases a <;> cases b <;> cases c <;> cases h <;> cases d <;> cases e <;> rfl
theorem not_t {b : Bool} (h : (!b) = true) : b = false := by cases b; rfl; cases h
theorem not_f {b : Bool} (h : (!b) = false) : b = true := by cases b; cases h; rfl
theorem upTo_len (n : Nat) : (upTo n).length = n := by unfold upTo; simp
section
variable {d : Codec}
theorem MKeys.self {M : List (Ent' (C0 3) d)} {clk : Nat} {S : List Int} (h : MKeys M clk S) : MKeys M clk (M.map fun e => (e.1 : Int)) := ⟨h.born, h.nd, fun _ => Iff.rfl⟩
theorem MKeys.few {M : List (Ent' (C0 3) d)} {clk : Nat} {S : List Int} (h : MKeys M clk S) {n : Nat} (hS : ∀ k ∈ S, 0 ≤ k ∧ k < (n : Int)) : M.length ≤ n := by
  have := nd_len _ (upTo n) h.nd fun k hk => mem_upTo.2 (hS k ((h.mem k).1 hk))
  rwa [List.length_map, upTo_len] at this
end
theorem sd_bad {M : MpB} {clk n : Nat} {Q : List (List Pg)} (h : MSet M clk (badTo n Q n)) {y : Sq Int} (hy : SdB (M.map fun e => e.1) y) : Gth (badL n Q) y := by
  obtain ⟨A, h1, h2, h3⟩ := hy
  have : A = badL n Q := rise_one h1 (rise_badL n Q) fun k => (h2 k).trans ((h.keys.mem k).trans mem_badL.symm)
  rw [← this]; exact h3
omit [Gl] in
theorem Tr.via {t : Tr} (t' : Tr) (h : t' = t) (g : t'.holds) : t.holds := h ▸ g
end Go.Vx
set_option maxRecDepth 1000000
namespace Go.Vx
open Go Go.Proofs
abbrev numB : List Tk := [.p 0, .p 1, .p 2, .p 3, .p 4, .p 5, .p 6, .q 7, .p 8, .p 9, .p 10, .p 11, .p 12, .p 13, .p 14, .q 15, .p 16, .p 17, .p 18, .p 19, .p 20, .p 21, .p 22, .q 23, .p 24, .p 25, .p 26, .p 27, .p 28, .p 29, .e 30, .p 31, .p 32, .p 33, .e 34, .p 35, .p 36, .p 37, .e 38]
noncomputable def numB_ops : Array Oper := match opsOf Tryd.f27 20 with
  | some o => o
  | none => #[]
def numB_w : List Nat := [30, 34, 38]
def numB_f : List Nat := []
def numB_l0 : Array Bool := #[false, false, false, false, false, false, false, false, false, false, false, false, false, false, false, false, false, false, false, false, false, false, false, false, false, false, false, false, false, false, false, false, false, false, false, false, false, false, false]
theorem numB_s0 : stepsOKL numB_ops numB_w numB_f false [.p 0, .p 1, .p 2, .p 3] numB_l0 = true := by kernel_rfl
def numB_l1 : Array Bool := #[true, true, true, true, false, false, false, false, false, false, false, false, false, false, false, false, false, false, false, false, false, false, false, false, false, false, false, false, false, false, false, false, false, false, false, false, false, false, false]
theorem numB_a0 : listedBy [.p 0, .p 1, .p 2, .p 3] numB_l0 = numB_l1 := by kernel_rfl
theorem numB_s1 : stepsOKL numB_ops numB_w numB_f false [.p 4, .p 5, .p 6, .q 7] numB_l1 = true := by kernel_rfl
def numB_l2 : Array Bool := #[true, true, true, true, true, true, true, true, false, false, false, false, false, false, false, false, false, false, false, false, false, false, false, false, false, false, false, false, false, false, false, false, false, false, false, false, false, false, false]
theorem numB_a1 : listedBy [.p 4, .p 5, .p 6, .q 7] numB_l1 = numB_l2 := by kernel_rfl
theorem numB_s2 : stepsOKL numB_ops numB_w numB_f false [.p 8, .p 9, .p 10, .p 11] numB_l2 = true := by kernel_rfl
def numB_l3 : Array Bool := #[true, true, true, true, true, true, true, true, true, true, true, true, false, false, false, false, false, false, false, false, false, false, false, false, false, false, false, false, false, false, false, false, false, false, false, false, false, false, false]
theorem numB_a2 : listedBy [.p 8, .p 9, .p 10, .p 11] numB_l2 = numB_l3 := by kernel_rfl
theorem numB_s3 : stepsOKL numB_ops numB_w numB_f false [.p 12, .p 13, .p 14, .q 15] numB_l3 = true := by kernel_rfl
def numB_l4 : Array Bool := #[true, true, true, true, true, true, true, true, true, true, true, true, true, true, true, true, false, false, false, false, false, false, false, false, false, false, false, false, false, false, false, false, false, false, false, false, false, false, false]
theorem numB_a3 : listedBy [.p 12, .p 13, .p 14, .q 15] numB_l3 = numB_l4 := by kernel_rfl
theorem numB_s4 : stepsOKL numB_ops numB_w numB_f false [.p 16, .p 17, .p 18, .p 19] numB_l4 = true := by kernel_rfl
def numB_l5 : Array Bool := #[true, true, true, true, true, true, true, true, true, true, true, true, true, true, true, true, true, true, true, true, false, false, false, false, false, false, false, false, false, false, false, false, false, false, false, false, false, false, false]
theorem numB_a4 : listedBy [.p 16, .p 17, .p 18, .p 19] numB_l4 = numB_l5 := by kernel_rfl
theorem numB_s5 : stepsOKL numB_ops numB_w numB_f false [.p 20, .p 21, .p 22, .q 23] numB_l5 = true := by kernel_rfl
def numB_l6 : Array Bool := #[true, true, true, true, true, true, true, true, true, true, true, true, true, true, true, true, true, true, true, true, true, true, true, true, false, false, false, false, false, false, false, false, false, false, false, false, false, false, false]
theorem numB_a5 : listedBy [.p 20, .p 21, .p 22, .q 23] numB_l5 = numB_l6 := by kernel_rfl
theorem numB_s6 : stepsOKL numB_ops numB_w numB_f false [.p 24, .p 25, .p 26, .p 27] numB_l6 = true := by kernel_rfl
def numB_l7 : Array Bool := #[true, true, true, true, true, true, true, true, true, true, true, true, true, true, true, true, true, true, true, true, true, true, true, true, true, true, true, true, false, false, false, false, false, false, false, false, false, false, false]
theorem numB_a6 : listedBy [.p 24, .p 25, .p 26, .p 27] numB_l6 = numB_l7 := by kernel_rfl
theorem numB_s7 : stepsOKL numB_ops numB_w numB_f false [.p 28, .p 29, .e 30, .p 31] numB_l7 = true := by kernel_rfl
def numB_l8 : Array Bool := #[true, true, true, true, true, true, true, true, true, true, true, true, true, true, true, true, true, true, true, true, true, true, true, true, true, true, true, true, true, true, true, true, false, false, false, false, false, false, false]
theorem numB_a7 : listedBy [.p 28, .p 29, .e 30, .p 31] numB_l7 = numB_l8 := by kernel_rfl
theorem numB_s8 : stepsOKL numB_ops numB_w numB_f false [.p 32, .p 33, .e 34, .p 35] numB_l8 = true := by kernel_rfl
def numB_l9 : Array Bool := #[true, true, true, true, true, true, true, true, true, true, true, true, true, true, true, true, true, true, true, true, true, true, true, true, true, true, true, true, true, true, true, true, true, true, true, true, false, false, false]
theorem numB_a8 : listedBy [.p 32, .p 33, .e 34, .p 35] numB_l8 = numB_l9 := by kernel_rfl
theorem numB_s9 : stepsOKL numB_ops numB_w numB_f false [.p 36, .p 37, .e 38] numB_l9 = true := by kernel_rfl
def numB_l10 : Array Bool := #[true, true, true, true, true, true, true, true, true, true, true, true, true, true, true, true, true, true, true, true, true, true, true, true, true, true, true, true, true, true, true, true, true, true, true, true, true, true, true]
theorem numB_a9 : listedBy [.p 36, .p 37, .e 38] numB_l9 = numB_l10 := by kernel_rfl
theorem numB_k10 : planOK numB_ops numB_w numB_f false (PTree.of []) numB_l10 = true := by kernel_rfl
theorem numB_k9 : planOK numB_ops numB_w numB_f false (PTree.of [.p 36, .p 37, .e 38]) numB_l9 = true := plan_cutL [.p 36, .p 37, .e 38] _ _ _ numB_s9 (by rw [numB_a9]; exact numB_k10)
theorem numB_k8 : planOK numB_ops numB_w numB_f false (PTree.of [.p 32, .p 33, .e 34, .p 35, .p 36, .p 37, .e 38]) numB_l8 = true := plan_cutL [.p 32, .p 33, .e 34, .p 35] _ _ _ numB_s8 (by rw [numB_a8]; exact numB_k9)
theorem numB_k7 : planOK numB_ops numB_w numB_f false (PTree.of [.p 28, .p 29, .e 30, .p 31, .p 32, .p 33, .e 34, .p 35, .p 36, .p 37, .e 38]) numB_l7 = true := plan_cutL [.p 28, .p 29, .e 30, .p 31] _ _ _ numB_s7 (by rw [numB_a7]; exact numB_k8)
theorem numB_k6 : planOK numB_ops numB_w numB_f false (PTree.of [.p 24, .p 25, .p 26, .p 27, .p 28, .p 29, .e 30, .p 31, .p 32, .p 33, .e 34, .p 35, .p 36, .p 37, .e 38]) numB_l6 = true := plan_cutL [.p 24, .p 25, .p 26, .p 27] _ _ _ numB_s6 (by rw [numB_a6]; exact numB_k7)
theorem numB_k5 : planOK numB_ops numB_w numB_f false (PTree.of [.p 20, .p 21, .p 22, .q 23, .p 24, .p 25, .p 26, .p 27, .p 28, .p 29, .e 30, .p 31, .p 32, .p 33, .e 34, .p 35, .p 36, .p 37, .e 38]) numB_l5 = true := plan_cutL [.p 20, .p 21, .p 22, .q 23] _ _ _ numB_s5 (by rw [numB_a5]; exact numB_k6)
theorem numB_k4 : planOK numB_ops numB_w numB_f false (PTree.of [.p 16, .p 17, .p 18, .p 19, .p 20, .p 21, .p 22, .q 23, .p 24, .p 25, .p 26, .p 27, .p 28, .p 29, .e 30, .p 31, .p 32, .p 33, .e 34, .p 35, .p 36, .p 37, .e 38]) numB_l4 = true := plan_cutL [.p 16, .p 17, .p 18, .p 19] _ _ _ numB_s4 (by rw [numB_a4]; exact numB_k5)
theorem numB_k3 : planOK numB_ops numB_w numB_f false (PTree.of [.p 12, .p 13, .p 14, .q 15, .p 16, .p 17, .p 18, .p 19, .p 20, .p 21, .p 22, .q 23, .p 24, .p 25, .p 26, .p 27, .p 28, .p 29, .e 30, .p 31, .p 32, .p 33, .e 34, .p 35, .p 36, .p 37, .e 38]) numB_l3 = true := plan_cutL [.p 12, .p 13, .p 14, .q 15] _ _ _ numB_s3 (by rw [numB_a3]; exact numB_k4)
theorem numB_k2 : planOK numB_ops numB_w numB_f false (PTree.of [.p 8, .p 9, .p 10, .p 11, .p 12, .p 13, .p 14, .q 15, .p 16, .p 17, .p 18, .p 19, .p 20, .p 21, .p 22, .q 23, .p 24, .p 25, .p 26, .p 27, .p 28, .p 29, .e 30, .p 31, .p 32, .p 33, .e 34, .p 35, .p 36, .p 37, .e 38]) numB_l2 = true := plan_cutL [.p 8, .p 9, .p 10, .p 11] _ _ _ numB_s2 (by rw [numB_a2]; exact numB_k3)
theorem numB_k1 : planOK numB_ops numB_w numB_f false (PTree.of [.p 4, .p 5, .p 6, .q 7, .p 8, .p 9, .p 10, .p 11, .p 12, .p 13, .p 14, .q 15, .p 16, .p 17, .p 18, .p 19, .p 20, .p 21, .p 22, .q 23, .p 24, .p 25, .p 26, .p 27, .p 28, .p 29, .e 30, .p 31, .p 32, .p 33, .e 34, .p 35, .p 36, .p 37, .e 38]) numB_l1 = true := plan_cutL [.p 4, .p 5, .p 6, .q 7] _ _ _ numB_s1 (by rw [numB_a1]; exact numB_k2)
theorem numB_k0 : planOK numB_ops numB_w numB_f false (PTree.of [.p 0, .p 1, .p 2, .p 3, .p 4, .p 5, .p 6, .q 7, .p 8, .p 9, .p 10, .p 11, .p 12, .p 13, .p 14, .q 15, .p 16, .p 17, .p 18, .p 19, .p 20, .p 21, .p 22, .q 23, .p 24, .p 25, .p 26, .p 27, .p 28, .p 29, .e 30, .p 31, .p 32, .p 33, .e 34, .p 35, .p 36, .p 37, .e 38]) numB_l0 = true := plan_cutL [.p 0, .p 1, .p 2, .p 3] _ _ _ numB_s0 (by rw [numB_a0]; exact numB_k1)
theorem numB_ok (ops : Array Oper) (h : opsOf Tryd.f27 20 = some ops) : planned ops (PTree.of numB) = true := by
  have e : ops = numB_ops := by unfold numB_ops; rw [h]
  subst e
  unfold planned
  rw [show effs (PTree.of numB) = numB_w from rfl, show lates (PTree.of numB) = numB_f from rfl, show Array.replicate numB_ops.size false = numB_l0 by kernel_rfl, numB_k0, show Region.noSelect numB_ops = true by kernel_rfl, show Nat.beq (PTree.of numB).len numB_ops.size = true by kernel_rfl]
  rfl
end Go.Vx
set_option maxRecDepth 1000000
namespace Go.Vx
open Go Go.Proofs
abbrev numE : List Tk := [.p 0, .p 1, .p 2, .p 3, .p 4, .p 5, .p 6, .p 7, .p 8, .p 9, .p 10, .p 11, .p 12, .p 13, .p 14, .f 15]
noncomputable def numE_ops : Array Oper := match opsOf Tryd.f27 27 with
  | some o => o
  | none => #[]
def numE_w : List Nat := [15]
def numE_f : List Nat := [15]
def numE_l0 : Array Bool := #[false, false, false, false, false, false, false, false, false, false, false, false, false, false, false, false]
theorem numE_s0 : stepsOKL numE_ops numE_w numE_f false [.p 0, .p 1, .p 2, .p 3] numE_l0 = true := by kernel_rfl
def numE_l1 : Array Bool := #[true, true, true, true, false, false, false, false, false, false, false, false, false, false, false, false]
theorem numE_a0 : listedBy [.p 0, .p 1, .p 2, .p 3] numE_l0 = numE_l1 := by kernel_rfl
theorem numE_s1 : stepsOKL numE_ops numE_w numE_f false [.p 4, .p 5, .p 6, .p 7] numE_l1 = true := by kernel_rfl
def numE_l2 : Array Bool := #[true, true, true, true, true, true, true, true, false, false, false, false, false, false, false, false]
theorem numE_a1 : listedBy [.p 4, .p 5, .p 6, .p 7] numE_l1 = numE_l2 := by kernel_rfl
theorem numE_s2 : stepsOKL numE_ops numE_w numE_f false [.p 8, .p 9, .p 10, .p 11] numE_l2 = true := by kernel_rfl
def numE_l3 : Array Bool := #[true, true, true, true, true, true, true, true, true, true, true, true, false, false, false, false]
theorem numE_a2 : listedBy [.p 8, .p 9, .p 10, .p 11] numE_l2 = numE_l3 := by kernel_rfl
theorem numE_s3 : stepsOKL numE_ops numE_w numE_f false [.p 12, .p 13, .p 14, .f 15] numE_l3 = true := by kernel_rfl
def numE_l4 : Array Bool := #[true, true, true, true, true, true, true, true, true, true, true, true, true, true, true, true]
theorem numE_a3 : listedBy [.p 12, .p 13, .p 14, .f 15] numE_l3 = numE_l4 := by kernel_rfl
theorem numE_k4 : planOK numE_ops numE_w numE_f true (PTree.of []) numE_l4 = true := by kernel_rfl
theorem numE_k3 : planOK numE_ops numE_w numE_f false (PTree.of [.p 12, .p 13, .p 14, .f 15]) numE_l3 = true := plan_cutL [.p 12, .p 13, .p 14, .f 15] _ _ _ numE_s3 (by rw [numE_a3]; exact numE_k4)
theorem numE_k2 : planOK numE_ops numE_w numE_f false (PTree.of [.p 8, .p 9, .p 10, .p 11, .p 12, .p 13, .p 14, .f 15]) numE_l2 = true := plan_cutL [.p 8, .p 9, .p 10, .p 11] _ _ _ numE_s2 (by rw [numE_a2]; exact numE_k3)
theorem numE_k1 : planOK numE_ops numE_w numE_f false (PTree.of [.p 4, .p 5, .p 6, .p 7, .p 8, .p 9, .p 10, .p 11, .p 12, .p 13, .p 14, .f 15]) numE_l1 = true := plan_cutL [.p 4, .p 5, .p 6, .p 7] _ _ _ numE_s1 (by rw [numE_a1]; exact numE_k2)
theorem numE_k0 : planOK numE_ops numE_w numE_f false (PTree.of [.p 0, .p 1, .p 2, .p 3, .p 4, .p 5, .p 6, .p 7, .p 8, .p 9, .p 10, .p 11, .p 12, .p 13, .p 14, .f 15]) numE_l0 = true := plan_cutL [.p 0, .p 1, .p 2, .p 3] _ _ _ numE_s0 (by rw [numE_a0]; exact numE_k1)
theorem numE_ok (ops : Array Oper) (h : opsOf Tryd.f27 27 = some ops) : planned ops (PTree.of numE) = true := by
  have e : ops = numE_ops := by unfold numE_ops; rw [h]
  subst e
  unfold planned
  rw [show effs (PTree.of numE) = numE_w from rfl, show lates (PTree.of numE) = numE_f from rfl, show Array.replicate numE_ops.size false = numE_l0 by kernel_rfl, numE_k0, show Region.noSelect numE_ops = true by kernel_rfl, show Nat.beq (PTree.of numE).len numE_ops.size = true by kernel_rfl]
  rfl
abbrev sloB : List Tk := [.p 0, .p 1, .p 2, .p 3, .p 4, .p 5, .p 6, .p 7, .p 8, .p 9, .p 10, .p 11, .e 12, .e 13, .p 14, .p 15, .p 16, .f 17]
abbrev ofB : List Tk := [.p 0, .p 1, .p 2, .p 3, .p 4, .p 5, .p 6, .p 7, .p 8, .p 9, .p 10, .p 11, .p 12, .p 13, .p 14, .e 15, .e 16, .p 17, .f 18]
end Go.Vx
set_option maxRecDepth 100000
namespace Go.Vx
open Go Go.Proofs
variable [Gl]
structure Cx where
  bc : Nat
  qc : Nat
  bs : Int
  ps : Int
  ss : Int
  so : Bool
  sb : Nat
  sq : Nat
  sl : List Int
  sn : Nat
  sc : Nat
  bg : Nat
  qg : Nat
  R : List (Rw Pg)
  n : Nat
  c : Nat
  bm : Nat
abbrev Cx.Q (x : Cx) : List (List Pg) := x.R.map fun r => r.l
structure Cx.ok (x : Cx) : Prop where
  bs : x.bs = (x.n : Int)
  n : x.n = x.R.length
  n64 : x.n ≤ 64
  ps : 0 ≤ x.ps ∧ x.ps ≤ 64
  ss : 0 ≤ x.ss ∧ x.ss ≤ 536870912
  rok : ∀ r ∈ x.R, Rok r
  few : ∀ r ∈ x.R, r.l.length < 1000000
  skip : x.sn ≤ x.sl.length ∧ x.sn < 1000000000 ∧ (x.so = false → x.sn = 0 ∧ x.sc = 0)
abbrev chW (w : Bool) : Cx → List SV → Ck C0
  | ⟨bc, qc, bs, ps, ss, so, sb, sq, sl, sn, sc, bg, qg, R, n, c, bm⟩, out => ⟨bc, qc, 15, w, none, .one (.int .i64 bs :: .int .i64 ps :: .int .i64 ss :: .sl 3 0 sn sc :: .sl 1 0 n c :: .mp 2 :: out)⟩
abbrev chG : Cx → Ck C0
  | ⟨bc, qc, bs, ps, ss, so, sb, sq, sl, sn, sc, bg, qg, R, n, c, bm⟩ => gridR bg qg R
abbrev chM (w : Bool) : Cx → Bm → Nat → Ck C0
  | ⟨bc, qc, bs, ps, ss, so, sb, sq, sl, sn, sc, bg, qg, R, n, c, bm⟩, M, clk => ⟨bm, 0, 0, w, none, .mp 3 4 M clk⟩
abbrev chS : Cx → Ck C0
  | ⟨bc, qc, bs, ps, ss, so, sb, sq, sl, sn, sc, bg, qg, R, n, c, bm⟩ => ⟨sb, sq, 1, false, some so, .rows 3 sl⟩
abbrev out0 : List SV := [.nils, .int .i64 0, .int .i64 0, .int .i64 0, .int .i64 0, .nils, .nils, .nils, .nils]
abbrev outI (a b c d : Int) (n q : Nat) : List SV := [.nils, .int .i64 a, .int .i64 b, .int .i64 c, .int .i64 d, .nils, .nils, .sl 4 0 n q, .nils]
abbrev sqF (x : Cx) (i : Nat) : Int := fTo (mxH Me.seq) allF x.Q i
abbrev stF (x : Cx) (i : Nat) : Int := fTo (mxH Me.stamp) allF x.Q i
abbrev baF (x : Cx) (i : Nat) : Int := fTo (mxH Me.batch) allF x.Q i
abbrev flF (x : Cx) (i : Nat) : Int := fTo flH (cntF x.n x.Q) x.Q i
abbrev sqJ (x : Cx) (i j : Nat) : Int := fAt (mxH Me.seq) allF x.Q i j
abbrev stJ (x : Cx) (i j : Nat) : Int := fAt (mxH Me.stamp) allF x.Q i j
abbrev baJ (x : Cx) (i j : Nat) : Int := fAt (mxH Me.batch) allF x.Q i j
abbrev flJ (x : Cx) (i j : Nat) : Int := fAt flH (cntF x.n x.Q) x.Q i j
def N1 (x : Cx) : Inv' C0 := ⟨1, Nat × Bm × Nat, fun y => [(17, .int .i64 (y.1 : Int))], fun y _ => [chW true x out0, chG x, chM true x y.2.1 y.2.2, chS x],
  fun y => y.1 ≤ x.n ∧ MSet y.2.1 y.2.2 (badTo x.n x.Q y.1), fun y => x.n - y.1⟩
def N4 (x : Cx) : Inv' C0 := ⟨4, Nat × Nat × Bm × Nat, fun y => [(17, .int .i64 (y.1 : Int)), (24, .int .i64 (y.2.1 : Int))], fun y m => match m with
  | _ :: _ :: _ :: _ :: g :: _ => [chW true x out0, chG x, chM true x y.2.2.1 y.2.2.2, chS x, g]
  | _ => [], fun y => y.1 < x.n ∧ y.2.1 ≤ (rw x.Q y.1).length ∧ MSet y.2.2.1 y.2.2.2 (badAt x.n x.Q y.1 y.2.1), fun y => (rw x.Q y.1).length - y.2.1⟩
def N13 (x : Cx) : Inv' C0 := ⟨13, Nat × Bm × Nat × Sq Int, fun y => [(75, .junk), (76, .junk), (85, .int .i64 (y.1 : Int))], fun y _ => [chW true x (outI (sqF x y.1) (stF x y.1) (baF x y.1) (flF x y.1) y.2.2.2.2.2.2.2.1 y.2.2.2.2.2.2.2.2), chG x, chM true x y.2.1 y.2.2.1, chS x, ⟨y.2.2.2.2.1, y.2.2.2.2.2.1, 1, true, some y.2.2.2.1, .rows 3 y.2.2.2.2.2.2.1⟩],
  fun y => y.1 ≤ x.n ∧ MSet y.2.1 y.2.2.1 (badTo x.n x.Q x.n) ∧ Gth (badL x.n x.Q) y.2.2.2, fun y => x.n - y.1⟩
def N16 (x : Cx) : Inv' C0 := ⟨16, Nat × Nat × Bm × Nat × Sq Int, fun y => [(85, .int .i64 (y.1 : Int)), (92, .int .i64 (y.2.1 : Int))], fun y m => match m with
  | _ :: _ :: _ :: _ :: _ :: g :: _ => [chW true x (outI (sqJ x y.1 y.2.1) (stJ x y.1 y.2.1) (baJ x y.1 y.2.1) (flJ x y.1 y.2.1) y.2.2.2.2.2.2.2.2.1 y.2.2.2.2.2.2.2.2.2), chG x, chM true x y.2.2.1 y.2.2.2.1, chS x, ⟨y.2.2.2.2.2.1, y.2.2.2.2.2.2.1, 1, true, some y.2.2.2.2.1, .rows 3 y.2.2.2.2.2.2.2.1⟩, g]
  | _ => [], fun y => y.1 < x.n ∧ y.2.1 ≤ (rw x.Q y.1).length ∧ MSet y.2.2.1 y.2.2.2.1 (badTo x.n x.Q x.n) ∧ Gth (badL x.n x.Q) y.2.2.2.2, fun y => (rw x.Q y.1).length - y.2.1⟩
abbrev numOut (x : Cx) (y : Bm × Nat × Sq Int) : List (Ck C0) :=
  [chW true x (outI (sqF x x.n) (stF x x.n) (max (baF x x.n) (flF x x.n)) (flF x x.n) y.2.2.2.2.2.2.1 y.2.2.2.2.2.2.2), chG x, chM true x y.1 y.2.1, chS x, ⟨y.2.2.2.1, y.2.2.2.2.1, 1, true, some y.2.2.1, .rows 3 y.2.2.2.2.2.1⟩]
set_option maxHeartbeats 64000000 in
theorem numbers_ok (x : Cx) (h : x.ok) : Does (C := C0) Tryd.prog (.fn 27) [chW true x out0, chG x, chM true x [] 0, chS x] [.ptr 0 0 0]
    [⟨Bm × Nat × Sq Int, fun y => MSet y.1 y.2.1 (badTo x.n x.Q x.n) ∧ Gth (badL x.n x.Q) y.2.2, fun _ => .tup [], fun y => numOut x y⟩] := by
  obtain ⟨bc, qc, bs, ps, ss, so, sb, sq, sl, sn, sc, bg, qg, R, n, c, bm⟩ := x
  have hbs : bs = (n : Int) := h.bs
  have hn : n = R.length := h.n
  have hn64 : n ≤ 64 := h.n64
  have hrok : ∀ r ∈ R, Rok r := h.rok
  have hfew : ∀ r ∈ R, r.l.length < 1000000 := h.few
  refine loc_fn (P := Tryd.prog) (E := ⟨[fcKeysB, fcSortedB], [pcHeaded, pcCounts], 185, [(8, [0, 1000006], [.p 0, .p 1, .p 2, .p 3, .p 4, .p 5, .f 6]), (20, [1000011], numB), (22, [0, 1000011], [.p 0, .p 1, .p 2, .p 3, .p 4, .p 5, .p 6, .p 7, .p 8, .p 9, .p 10, .p 11, .f 12]), (24, [0, 1000011], [.p 0, .p 1, .p 2, .p 3, .p 4, .p 5, .p 6, .p 7, .p 8, .p 9, .p 10, .p 11, .f 12]), (27, [0], numE)], [fG], []⟩) (L := [N1 ⟨bc, qc, bs, ps, ss, so, sb, sq, sl, sn, sc, bg, qg, R, n, c, bm⟩, N4 ⟨bc, qc, bs, ps, ss, so, sb, sq, sl, sn, sc, bg, qg, R, n, c, bm⟩, N13 ⟨bc, qc, bs, ps, ss, so, sb, sq, sl, sn, sc, bg, qg, R, n, c, bm⟩, N16 ⟨bc, qc, bs, ps, ss, so, sb, sq, sl, sn, sc, bg, qg, R, n, c, bm⟩]) mix Tryd.func27 rfl (by kernel_rfl) (by kernel_rfl) rfl rfl ?_
  ((refine Tr.via ?_ ?_ ?_; rotate_left; (as_aux_lemma => ((conv => (rhs; reduce))))); with_reducible repeat' (first | exact Tr.yes_h | refine Tr.and_h ?_ ?_ | refine Tr.imp_h fun _ => ?_ | refine Tr.all_h fun _ => ?_ | refine Tr.lf_h ?_))
  all_goals try (first | exact numE_ok _ rfl | exact numB_ok _ rfl)
  all_goals try (first | first | (show Region.lexB _ _ = true; kernel_rfl) | (show planned _ _ = true; kernel_rfl) | exact rfl | exact True.intro | (first | exact key3 | exact zeroB | exact zeroR | exact zeroS | exact ⟨key3, zeroB⟩ | exact ⟨key3, zeroR⟩ | exact ⟨key3, zeroS⟩) | ((try dsimp only [imp, C0, cG, cInt, cPl, cSlot, cPg, gwCodec] at *); (try refine inR64 ?_ ?_) <;> (try simp only [List.length_set, List.length_append, List.length_take, List.length_drop]) <;> omega))
  · refine Stands.one (0, [], 0) ⟨⟨Nat.zero_le _, by show MSet [] 0 (badTo n (R.map fun r => r.l) 0); rw [badTo_zero]; exact MSet.nil⟩, ?_⟩
    ((refine Tr.via ?_ ?_ ?_; rotate_left; (as_aux_lemma => ((conv => (rhs; reduce))))); with_reducible repeat' (first | exact Tr.yes_h | refine Tr.and_h ?_ ?_ | refine Tr.imp_h fun _ => ?_ | refine Tr.all_h fun _ => ?_ | refine Tr.lf_h ?_))
    all_goals (first | first | (show Region.lexB _ _ = true; kernel_rfl) | (show planned _ _ = true; kernel_rfl) | exact rfl | exact True.intro | (first | exact key3 | exact zeroB | exact zeroR | exact zeroS | exact ⟨key3, zeroB⟩ | exact ⟨key3, zeroR⟩ | exact ⟨key3, zeroS⟩) | ((try dsimp only [imp, C0, cG, cInt, cPl, cSlot, cPg, gwCodec] at *); (try refine inR64 ?_ ?_) <;> (try simp only [List.length_set, List.length_append, List.length_take, List.length_drop]) <;> omega))
  · rename_i x1 h1 h2
    obtain ⟨i, M1, c1⟩ := x1
    have h1 : i ≤ n ∧ MSet M1 c1 (badTo n (R.map fun r => r.l) i) := h1
    have h2 : (i : Int) < (n : Int) := of_decide_eq_true h2
    exact h2
  · rename_i x1 h1 h2
    obtain ⟨i, M1, c1⟩ := x1
    have h1 : i ≤ n ∧ MSet M1 c1 (badTo n (R.map fun r => r.l) i) := h1
    have h2 : (i : Int) < (n : Int) := of_decide_eq_true h2
    show i < R.length
    omega
  · rename_i x1 h1 h2 r hr
    obtain ⟨i, M1, c1⟩ := x1
    have h1 : i ≤ n ∧ MSet M1 c1 (badTo n (R.map fun r => r.l) i) := h1
    have h2 : (i : Int) < (n : Int) := of_decide_eq_true h2
    change Rw Pg at r
    have hr : R.getD i Rw.nil = r := hr
    have hm : r ∈ R := by rw [← hr]; exact getD_mem (by omega)
    have hk : Rok r := hrok r hm
    have hl : r.l.length < 1000000 := hfew r hm
    have hw : rw (R.map fun r => r.l) i = r.l := by rw [rwR, hr]
    refine Stands.one (i, 0, M1, c1) ⟨⟨by show i < n; omega, Nat.zero_le _, by show MSet M1 c1 (badAt n (R.map fun r => r.l) i 0); rw [badAt_zero]; exact h1.2⟩, ?_⟩
    ((refine Tr.via ?_ ?_ ?_; rotate_left; (as_aux_lemma => ((conv => (rhs; reduce))))); with_reducible repeat' (first | exact Tr.yes_h | refine Tr.and_h ?_ ?_ | refine Tr.imp_h fun _ => ?_ | refine Tr.all_h fun _ => ?_ | refine Tr.lf_h ?_))
    all_goals (first | first | (show Region.lexB _ _ = true; kernel_rfl) | (show planned _ _ = true; kernel_rfl) | exact rfl | exact True.intro | (first | exact key3 | exact zeroB | exact zeroR | exact zeroS | exact ⟨key3, zeroB⟩ | exact ⟨key3, zeroR⟩ | exact ⟨key3, zeroS⟩) | ((try dsimp only [imp, C0, cG, cInt, cPl, cSlot, cPg, gwCodec] at *); (try refine inR64 ?_ ?_) <;> (try simp only [List.length_set, List.length_append, List.length_take, List.length_drop]) <;> omega))
  · rename_i x1 h1 h2 r hr x4 h4 e4 h5
    obtain ⟨i, M1, c1⟩ := x1
    obtain ⟨i4, j, M4, c4⟩ := x4
    obtain rfl : i = i4 := Int.ofNat.inj e4
    have h2 : (i : Int) < (n : Int) := of_decide_eq_true h2
    have h4 : i < n ∧ j ≤ (rw (R.map fun r => r.l) i).length ∧ MSet M4 c4 (badAt n (R.map fun r => r.l) i j) := h4
    change Rw Pg at r
    have hr : R.getD i Rw.nil = r := hr
    have hm : r ∈ R := by rw [← hr]; exact getD_mem (by omega)
    have hk : Rok r := hrok r hm
    have hl : r.l.length < 1000000 := hfew r hm
    have hw : rw (R.map fun r => r.l) i = r.l := by rw [rwR, hr]
    rw [hw] at h4
    have h5 : (j : Int) < (r.l.length : Int) := of_decide_eq_true h5
    exact on_of (o := r.on) hk.1 (by show 0 < r.l.length; omega)
  · rename_i x1 h1 h2 r hr x4 h4 e4 h5
    obtain ⟨i, M1, c1⟩ := x1
    obtain ⟨i4, j, M4, c4⟩ := x4
    obtain rfl : i = i4 := Int.ofNat.inj e4
    have h2 : (i : Int) < (n : Int) := of_decide_eq_true h2
    have h4 : i < n ∧ j ≤ (rw (R.map fun r => r.l) i).length ∧ MSet M4 c4 (badAt n (R.map fun r => r.l) i j) := h4
    change Rw Pg at r
    have hr : R.getD i Rw.nil = r := hr
    have hm : r ∈ R := by rw [← hr]; exact getD_mem (by omega)
    have hk : Rok r := hrok r hm
    have hl : r.l.length < 1000000 := hfew r hm
    have hw : rw (R.map fun r => r.l) i = r.l := by rw [rwR, hr]
    rw [hw] at h4
    have h5 : (j : Int) < (r.l.length : Int) := of_decide_eq_true h5
    exact h5
  · rename_i x1 h1 h2 r hr x4 h4 e4 h5
    obtain ⟨i, M1, c1⟩ := x1
    obtain ⟨i4, j, M4, c4⟩ := x4
    obtain rfl : i = i4 := Int.ofNat.inj e4
    have h2 : (i : Int) < (n : Int) := of_decide_eq_true h2
    have h4 : i < n ∧ j ≤ (rw (R.map fun r => r.l) i).length ∧ MSet M4 c4 (badAt n (R.map fun r => r.l) i j) := h4
    change Rw Pg at r
    have hr : R.getD i Rw.nil = r := hr
    have hm : r ∈ R := by rw [← hr]; exact getD_mem (by omega)
    have hk : Rok r := hrok r hm
    have hl : r.l.length < 1000000 := hfew r hm
    have hw : rw (R.map fun r => r.l) i = r.l := by rw [rwR, hr]
    rw [hw] at h4
    have h5 : (j : Int) < (r.l.length : Int) := of_decide_eq_true h5
    exact on_of (o := r.on) hk.1 (by show 0 < r.l.length; omega)
  · rename_i x1 h1 h2 r hr x4 h4 e4 h5
    obtain ⟨i, M1, c1⟩ := x1
    obtain ⟨i4, j, M4, c4⟩ := x4
    obtain rfl : i = i4 := Int.ofNat.inj e4
    have h2 : (i : Int) < (n : Int) := of_decide_eq_true h2
    have h4 : i < n ∧ j ≤ (rw (R.map fun r => r.l) i).length ∧ MSet M4 c4 (badAt n (R.map fun r => r.l) i j) := h4
    change Rw Pg at r
    have hr : R.getD i Rw.nil = r := hr
    have hm : r ∈ R := by rw [← hr]; exact getD_mem (by omega)
    have hk : Rok r := hrok r hm
    have hl : r.l.length < 1000000 := hfew r hm
    have hw : rw (R.map fun r => r.l) i = r.l := by rw [rwR, hr]
    rw [hw] at h4
    have h5 : (j : Int) < (r.l.length : Int) := of_decide_eq_true h5
    show j < r.l.length
    omega
  · rename_i x1 h1 h2 r hr x4 h4 e4 h5 u1 u2 hc
    have h2 : (x1.1 : Int) < (n : Int) := of_decide_eq_true h2
    exact ⟨by omega, ⟨by omega, h2⟩, hrok⟩
  · rename_i x1 h1 h2 r hr x4 h4 e4 h5 u1 u2 hc
    obtain ⟨i, M1, c1⟩ := x1
    obtain ⟨i4, j, M4, c4⟩ := x4
    obtain rfl : i = i4 := Int.ofNat.inj e4
    have h2 : (i : Int) < (n : Int) := of_decide_eq_true h2
    have h4 : i < n ∧ j ≤ (rw (R.map fun r => r.l) i).length ∧ MSet M4 c4 (badAt n (R.map fun r => r.l) i j) := h4
    change Rw Pg at r
    have hr : R.getD i Rw.nil = r := hr
    have hm : r ∈ R := by rw [← hr]; exact getD_mem (by omega)
    have hk : Rok r := hrok r hm
    have hl : r.l.length < 1000000 := hfew r hm
    have hw : rw (R.map fun r => r.l) i = r.l := by rw [rwR, hr]
    rw [hw] at h4
    have h5 : (j : Int) < (r.l.length : Int) := of_decide_eq_true h5
    exact inR64 (by show -9223372036854775808 ≤ (j : Int) + 1; omega) (by show (j : Int) + 1 ≤ 9223372036854775807; omega)
  · rename_i x1 h1 h2 r hr x4 h4 e4 h5 u1 u2 hc
    obtain ⟨i, M1, c1⟩ := x1
    obtain ⟨i4, j, M4, c4⟩ := x4
    obtain rfl : i = i4 := Int.ofNat.inj e4
    have h2 : (i : Int) < (n : Int) := of_decide_eq_true h2
    have h4 : i < n ∧ j ≤ (rw (R.map fun r => r.l) i).length ∧ MSet M4 c4 (badAt n (R.map fun r => r.l) i j) := h4
    change Rw Pg at r
    have hr : R.getD i Rw.nil = r := hr
    have hm : r ∈ R := by rw [← hr]; exact getD_mem (by omega)
    have hk : Rok r := hrok r hm
    have hl : r.l.length < 1000000 := hfew r hm
    have hw : rw (R.map fun r => r.l) i = r.l := by rw [rwR, hr]
    rw [hw] at h4
    have h5 : (j : Int) < (r.l.length : Int) := of_decide_eq_true h5
    have hj : j < (rw (R.map fun r => r.l) i).length := by rw [hw]; omega
    have hp : (rw (R.map fun r => r.l) i).getD j pg0 = r.l.getD j pg0 := by rw [hw]
    have hc : (decide ((r.l.getD j pg0).cl = 1) && decide ((r.l.getD j pg0).me.kind = 5) && decide ((r.l.getD j pg0).me.batch = 0) && isHd (i : Int) (R.getD i Rw.nil).l && decide (0 ≤ (r.l.getD j pg0).me.key) && decide ((r.l.getD j pg0).me.key < bs)) = true := hc
    have hbad : (isHd i (rw (R.map fun r => r.l) i) && isBad n ((rw (R.map fun r => r.l) i).getD j pg0)) = true := by
      rw [hbs] at hc
      rw [hp, rwR, isBad, and_six]
      exact hc
    refine Stands.one (i, j + 1, mput (C0 3) (C0 4) M4 (r.l.getD j pg0).me.key true c4, mclk (C0 3) (C0 4) M4 (r.l.getD j pg0).me.key c4) ⟨⟨by show i < n; omega, by show j + 1 ≤ (rw (R.map fun r => r.l) i).length; omega, ?_⟩, by show (rw (R.map fun r => r.l) i).length - (j + 1) < (rw (R.map fun r => r.l) i).length - j; omega, ?_⟩
    · show MSet _ _ (badAt n (R.map fun r => r.l) i (j + 1))
      rw [badAt_yes hj (and_l hbad) (and_r hbad), hp]
      exact h4.2.2.put _
    ((refine Tr.via ?_ ?_ ?_; rotate_left; (as_aux_lemma => ((conv => (rhs; reduce))))); with_reducible repeat' (first | exact Tr.yes_h | refine Tr.and_h ?_ ?_ | refine Tr.imp_h fun _ => ?_ | refine Tr.all_h fun _ => ?_ | refine Tr.lf_h ?_))
    all_goals (first | first | (show Region.lexB _ _ = true; kernel_rfl) | (show planned _ _ = true; kernel_rfl) | exact rfl | exact True.intro | (first | exact key3 | exact zeroB | exact zeroR | exact zeroS | exact ⟨key3, zeroB⟩ | exact ⟨key3, zeroR⟩ | exact ⟨key3, zeroS⟩) | ((try dsimp only [imp, C0, cG, cInt, cPl, cSlot, cPg, gwCodec] at *); (try refine inR64 ?_ ?_) <;> (try simp only [List.length_set, List.length_append, List.length_take, List.length_drop]) <;> omega))
  · rename_i x1 h1 h2 r hr x4 h4 e4 h5 u1 u2 hc
    obtain ⟨i, M1, c1⟩ := x1
    obtain ⟨i4, j, M4, c4⟩ := x4
    obtain rfl : i = i4 := Int.ofNat.inj e4
    have h2 : (i : Int) < (n : Int) := of_decide_eq_true h2
    have h4 : i < n ∧ j ≤ (rw (R.map fun r => r.l) i).length ∧ MSet M4 c4 (badAt n (R.map fun r => r.l) i j) := h4
    change Rw Pg at r
    have hr : R.getD i Rw.nil = r := hr
    have hm : r ∈ R := by rw [← hr]; exact getD_mem (by omega)
    have hk : Rok r := hrok r hm
    have hl : r.l.length < 1000000 := hfew r hm
    have hw : rw (R.map fun r => r.l) i = r.l := by rw [rwR, hr]
    rw [hw] at h4
    have h5 : (j : Int) < (r.l.length : Int) := of_decide_eq_true h5
    exact inR64 (by show -9223372036854775808 ≤ (j : Int) + 1; omega) (by show (j : Int) + 1 ≤ 9223372036854775807; omega)
  · rename_i x1 h1 h2 r hr x4 h4 e4 h5 u1 u2 hc
    obtain ⟨i, M1, c1⟩ := x1
    obtain ⟨i4, j, M4, c4⟩ := x4
    obtain rfl : i = i4 := Int.ofNat.inj e4
    have h2 : (i : Int) < (n : Int) := of_decide_eq_true h2
    have h4 : i < n ∧ j ≤ (rw (R.map fun r => r.l) i).length ∧ MSet M4 c4 (badAt n (R.map fun r => r.l) i j) := h4
    change Rw Pg at r
    have hr : R.getD i Rw.nil = r := hr
    have hm : r ∈ R := by rw [← hr]; exact getD_mem (by omega)
    have hk : Rok r := hrok r hm
    have hl : r.l.length < 1000000 := hfew r hm
    have hw : rw (R.map fun r => r.l) i = r.l := by rw [rwR, hr]
    rw [hw] at h4
    have h5 : (j : Int) < (r.l.length : Int) := of_decide_eq_true h5
    have hj : j < (rw (R.map fun r => r.l) i).length := by rw [hw]; omega
    have hp : (rw (R.map fun r => r.l) i).getD j pg0 = r.l.getD j pg0 := by rw [hw]
    have hc : (decide ((r.l.getD j pg0).cl = 1) && decide ((r.l.getD j pg0).me.kind = 5) && decide ((r.l.getD j pg0).me.batch = 0) && isHd (i : Int) (R.getD i Rw.nil).l && decide (0 ≤ (r.l.getD j pg0).me.key) && decide ((r.l.getD j pg0).me.key < bs)) = false := hc
    have hbad : (isHd i (rw (R.map fun r => r.l) i) && isBad n ((rw (R.map fun r => r.l) i).getD j pg0)) = false := by
      rw [hbs] at hc
      rw [hp, rwR, isBad, and_six]
      exact hc
    refine Stands.one (i, j + 1, M4, c4) ⟨⟨by show i < n; omega, by show j + 1 ≤ (rw (R.map fun r => r.l) i).length; omega, ?_⟩, by show (rw (R.map fun r => r.l) i).length - (j + 1) < (rw (R.map fun r => r.l) i).length - j; omega, ?_⟩
    · show MSet _ _ (badAt n (R.map fun r => r.l) i (j + 1))
      rw [badAt_no hj hbad]
      exact h4.2.2
    ((refine Tr.via ?_ ?_ ?_; rotate_left; (as_aux_lemma => ((conv => (rhs; reduce))))); with_reducible repeat' (first | exact Tr.yes_h | refine Tr.and_h ?_ ?_ | refine Tr.imp_h fun _ => ?_ | refine Tr.all_h fun _ => ?_ | refine Tr.lf_h ?_))
    all_goals (first | first | (show Region.lexB _ _ = true; kernel_rfl) | (show planned _ _ = true; kernel_rfl) | exact rfl | exact True.intro | (first | exact key3 | exact zeroB | exact zeroR | exact zeroS | exact ⟨key3, zeroB⟩ | exact ⟨key3, zeroR⟩ | exact ⟨key3, zeroS⟩) | ((try dsimp only [imp, C0, cG, cInt, cPl, cSlot, cPg, gwCodec] at *); (try refine inR64 ?_ ?_) <;> (try simp only [List.length_set, List.length_append, List.length_take, List.length_drop]) <;> omega))
  · rename_i x1 h1 h2 r hr x4 h4 e4 h5
    obtain ⟨i, M1, c1⟩ := x1
    obtain ⟨i4, j, M4, c4⟩ := x4
    obtain rfl : i = i4 := Int.ofNat.inj e4
    have h2 : (i : Int) < (n : Int) := of_decide_eq_true h2
    have h4 : i < n ∧ j ≤ (rw (R.map fun r => r.l) i).length ∧ MSet M4 c4 (badAt n (R.map fun r => r.l) i j) := h4
    change Rw Pg at r
    have hr : R.getD i Rw.nil = r := hr
    have hm : r ∈ R := by rw [← hr]; exact getD_mem (by omega)
    have hk : Rok r := hrok r hm
    have hl : r.l.length < 1000000 := hfew r hm
    have hw : rw (R.map fun r => r.l) i = r.l := by rw [rwR, hr]
    rw [hw] at h4
    have h5 : ¬ (j : Int) < (r.l.length : Int) := of_decide_eq_false h5
    exact inR64 (by show -9223372036854775808 ≤ (i : Int) + 1; omega) (by show (i : Int) + 1 ≤ 9223372036854775807; omega)
  · rename_i x1 h1 h2 r hr x4 h4 e4 h5
    obtain ⟨i, M1, c1⟩ := x1
    obtain ⟨i4, j, M4, c4⟩ := x4
    obtain rfl : i = i4 := Int.ofNat.inj e4
    have h2 : (i : Int) < (n : Int) := of_decide_eq_true h2
    have h4 : i < n ∧ j ≤ (rw (R.map fun r => r.l) i).length ∧ MSet M4 c4 (badAt n (R.map fun r => r.l) i j) := h4
    change Rw Pg at r
    have hr : R.getD i Rw.nil = r := hr
    have hm : r ∈ R := by rw [← hr]; exact getD_mem (by omega)
    have hk : Rok r := hrok r hm
    have hl : r.l.length < 1000000 := hfew r hm
    have hw : rw (R.map fun r => r.l) i = r.l := by rw [rwR, hr]
    rw [hw] at h4
    have h5 : ¬ (j : Int) < (r.l.length : Int) := of_decide_eq_false h5
    refine Stands.one (i + 1, M4, c4) ⟨⟨by show i + 1 ≤ n; omega, ?_⟩, by show n - (i + 1) < n - i; omega, ?_⟩
    · show MSet _ _ (badTo n (R.map fun r => r.l) (i + 1))
      rw [← badAt_all (n := n) (Q := (R.map fun r => r.l)) (i := i) (j := j) (by rw [hw]; omega)]
      exact h4.2.2
    ((refine Tr.via ?_ ?_ ?_; rotate_left; (as_aux_lemma => ((conv => (rhs; reduce))))); with_reducible repeat' (first | exact Tr.yes_h | refine Tr.and_h ?_ ?_ | refine Tr.imp_h fun _ => ?_ | refine Tr.all_h fun _ => ?_ | refine Tr.lf_h ?_))
    all_goals (first | first | (show Region.lexB _ _ = true; kernel_rfl) | (show planned _ _ = true; kernel_rfl) | exact rfl | exact True.intro | (first | exact key3 | exact zeroB | exact zeroR | exact zeroS | exact ⟨key3, zeroB⟩ | exact ⟨key3, zeroR⟩ | exact ⟨key3, zeroS⟩) | ((try dsimp only [imp, C0, cG, cInt, cPl, cSlot, cPg, gwCodec] at *); (try refine inR64 ?_ ?_) <;> (try simp only [List.length_set, List.length_append, List.length_take, List.length_drop]) <;> omega))
  · rename_i x1 h1 h2 u1 u2
    obtain ⟨i, M1, c1⟩ := x1
    have h1 : i ≤ n ∧ MSet M1 c1 (badTo n (R.map fun r => r.l) i) := h1
    exact ⟨h1.2.keys.self, by have : M1.length ≤ n := h1.2.keys.few fun k hk => mem_badTo hk; show M1.length < 1000000000; omega⟩
  · rename_i x1 h1 h2 u1 u2 y hy
    obtain ⟨i, M1, c1⟩ := x1
    have h1 : i ≤ n ∧ MSet M1 c1 (badTo n (R.map fun r => r.l) i) := h1
    have h2 : ¬ (i : Int) < (n : Int) := of_decide_eq_false h2
    have e : i = n := by omega
    rw [e] at h1
    refine Stands.one (0, M1, c1, y) ⟨⟨Nat.zero_le _, h1.2, sd_bad h1.2 hy⟩, ?_⟩
    ((refine Tr.via ?_ ?_ ?_; rotate_left; (as_aux_lemma => ((conv => (rhs; reduce))))); with_reducible repeat' (first | exact Tr.yes_h | refine Tr.and_h ?_ ?_ | refine Tr.imp_h fun _ => ?_ | refine Tr.all_h fun _ => ?_ | refine Tr.lf_h ?_))
    all_goals first | (first | first | (show Region.lexB _ _ = true; kernel_rfl) | (show planned _ _ = true; kernel_rfl) | exact rfl | exact True.intro | (first | exact key3 | exact zeroB | exact zeroR | exact zeroS | exact ⟨key3, zeroB⟩ | exact ⟨key3, zeroR⟩ | exact ⟨key3, zeroS⟩) | ((try dsimp only [imp, C0, cG, cInt, cPl, cSlot, cPg, gwCodec] at *); (try refine inR64 ?_ ?_) <;> (try simp only [List.length_set, List.length_append, List.length_take, List.length_drop]) <;> omega)) | exact fTo_zero | exact fTo_zero.symm
  · rename_i x1 h1 h2 u1 u2 u3 u4 x2 h3 h4
    obtain ⟨i, M1, c1, S1⟩ := x2
    have h3 : i ≤ n ∧ MSet M1 c1 (badTo n (R.map fun r => r.l) n) ∧ Gth (badL n (R.map fun r => r.l)) S1 := h3
    have h4 : (i : Int) < (n : Int) := of_decide_eq_true h4
    exact h4
  · rename_i x1 h1 h2 u1 u2 u3 u4 x2 h3 h4
    obtain ⟨i, M1, c1, S1⟩ := x2
    have h3 : i ≤ n ∧ MSet M1 c1 (badTo n (R.map fun r => r.l) n) ∧ Gth (badL n (R.map fun r => r.l)) S1 := h3
    have h4 : (i : Int) < (n : Int) := of_decide_eq_true h4
    show i < R.length
    omega
  · rename_i x1 h1 h2 u1 u2 u3 u4 x2 h3 h4 r hr
    obtain ⟨i, M1, c1, S1⟩ := x2
    have h3 : i ≤ n ∧ MSet M1 c1 (badTo n (R.map fun r => r.l) n) ∧ Gth (badL n (R.map fun r => r.l)) S1 := h3
    have h4 : (i : Int) < (n : Int) := of_decide_eq_true h4
    change Rw Pg at r
    have hr : R.getD i Rw.nil = r := hr
    have hm : r ∈ R := by rw [← hr]; exact getD_mem (by omega)
    have hk : Rok r := hrok r hm
    have hl : r.l.length < 1000000 := hfew r hm
    have hw : rw (R.map fun r => r.l) i = r.l := by rw [rwR, hr]
    refine Stands.one (i, 0, M1, c1, S1) ⟨⟨by show i < n; omega, Nat.zero_le _, h3.2.1, h3.2.2⟩, ?_⟩
    ((refine Tr.via ?_ ?_ ?_; rotate_left; (as_aux_lemma => ((conv => (rhs; reduce))))); with_reducible repeat' (first | exact Tr.yes_h | refine Tr.and_h ?_ ?_ | refine Tr.imp_h fun _ => ?_ | refine Tr.all_h fun _ => ?_ | refine Tr.lf_h ?_))
    all_goals first | (first | first | (show Region.lexB _ _ = true; kernel_rfl) | (show planned _ _ = true; kernel_rfl) | exact rfl | exact True.intro | (first | exact key3 | exact zeroB | exact zeroR | exact zeroS | exact ⟨key3, zeroB⟩ | exact ⟨key3, zeroR⟩ | exact ⟨key3, zeroS⟩) | ((try dsimp only [imp, C0, cG, cInt, cPl, cSlot, cPg, gwCodec] at *); (try refine inR64 ?_ ?_) <;> (try simp only [List.length_set, List.length_append, List.length_take, List.length_drop]) <;> omega)) | exact fAt_zero | exact fAt_zero.symm
  · rename_i x1 h1 h2 u1 u2 u3 u4 x2 h3 h4 r hr x6 h6 e6 h7
    obtain ⟨i, M1, c1, S1⟩ := x2
    obtain ⟨i6, j, M6, c6, S6⟩ := x6
    obtain rfl : i = i6 := Int.ofNat.inj e6
    have h4 : (i : Int) < (n : Int) := of_decide_eq_true h4
    have h6 : i < n ∧ j ≤ (rw (R.map fun r => r.l) i).length ∧ MSet M6 c6 (badTo n (R.map fun r => r.l) n) ∧ Gth (badL n (R.map fun r => r.l)) S6 := h6
    change Rw Pg at r
    have hr : R.getD i Rw.nil = r := hr
    have hm : r ∈ R := by rw [← hr]; exact getD_mem (by omega)
    have hk : Rok r := hrok r hm
    have hl : r.l.length < 1000000 := hfew r hm
    have hw : rw (R.map fun r => r.l) i = r.l := by rw [rwR, hr]
    rw [hw] at h6
    have h7 : (j : Int) < (r.l.length : Int) := of_decide_eq_true h7
    exact on_of (o := r.on) hk.1 (by show 0 < r.l.length; omega)
  · rename_i x1 h1 h2 u1 u2 u3 u4 x2 h3 h4 r hr x6 h6 e6 h7
    obtain ⟨i, M1, c1, S1⟩ := x2
    obtain ⟨i6, j, M6, c6, S6⟩ := x6
    obtain rfl : i = i6 := Int.ofNat.inj e6
    have h4 : (i : Int) < (n : Int) := of_decide_eq_true h4
    have h6 : i < n ∧ j ≤ (rw (R.map fun r => r.l) i).length ∧ MSet M6 c6 (badTo n (R.map fun r => r.l) n) ∧ Gth (badL n (R.map fun r => r.l)) S6 := h6
    change Rw Pg at r
    have hr : R.getD i Rw.nil = r := hr
    have hm : r ∈ R := by rw [← hr]; exact getD_mem (by omega)
    have hk : Rok r := hrok r hm
    have hl : r.l.length < 1000000 := hfew r hm
    have hw : rw (R.map fun r => r.l) i = r.l := by rw [rwR, hr]
    rw [hw] at h6
    have h7 : (j : Int) < (r.l.length : Int) := of_decide_eq_true h7
    exact h7
  · rename_i x1 h1 h2 u1 u2 u3 u4 x2 h3 h4 r hr x6 h6 e6 h7
    obtain ⟨i, M1, c1, S1⟩ := x2
    obtain ⟨i6, j, M6, c6, S6⟩ := x6
    obtain rfl : i = i6 := Int.ofNat.inj e6
    have h4 : (i : Int) < (n : Int) := of_decide_eq_true h4
    have h6 : i < n ∧ j ≤ (rw (R.map fun r => r.l) i).length ∧ MSet M6 c6 (badTo n (R.map fun r => r.l) n) ∧ Gth (badL n (R.map fun r => r.l)) S6 := h6
    change Rw Pg at r
    have hr : R.getD i Rw.nil = r := hr
    have hm : r ∈ R := by rw [← hr]; exact getD_mem (by omega)
    have hk : Rok r := hrok r hm
    have hl : r.l.length < 1000000 := hfew r hm
    have hw : rw (R.map fun r => r.l) i = r.l := by rw [rwR, hr]
    rw [hw] at h6
    have h7 : (j : Int) < (r.l.length : Int) := of_decide_eq_true h7
    exact on_of (o := r.on) hk.1 (by show 0 < r.l.length; omega)
  · rename_i x1 h1 h2 u1 u2 u3 u4 x2 h3 h4 r hr x6 h6 e6 h7
    obtain ⟨i, M1, c1, S1⟩ := x2
    obtain ⟨i6, j, M6, c6, S6⟩ := x6
    obtain rfl : i = i6 := Int.ofNat.inj e6
    have h4 : (i : Int) < (n : Int) := of_decide_eq_true h4
    have h6 : i < n ∧ j ≤ (rw (R.map fun r => r.l) i).length ∧ MSet M6 c6 (badTo n (R.map fun r => r.l) n) ∧ Gth (badL n (R.map fun r => r.l)) S6 := h6
    change Rw Pg at r
    have hr : R.getD i Rw.nil = r := hr
    have hm : r ∈ R := by rw [← hr]; exact getD_mem (by omega)
    have hk : Rok r := hrok r hm
    have hl : r.l.length < 1000000 := hfew r hm
    have hw : rw (R.map fun r => r.l) i = r.l := by rw [rwR, hr]
    rw [hw] at h6
    have h7 : (j : Int) < (r.l.length : Int) := of_decide_eq_true h7
    show j < r.l.length
    omega
  · rename_i x1 h1 h2 u1 u2 u3 u4 x2 h3 h4 r hr x6 h6 e6 h7 v1 hc
    obtain ⟨i, M1, c1, S1⟩ := x2
    obtain ⟨i6, j, M6, c6, S6⟩ := x6
    obtain rfl : i = i6 := Int.ofNat.inj e6
    have h4 : (i : Int) < (n : Int) := of_decide_eq_true h4
    have h6 : i < n ∧ j ≤ (rw (R.map fun r => r.l) i).length ∧ MSet M6 c6 (badTo n (R.map fun r => r.l) n) ∧ Gth (badL n (R.map fun r => r.l)) S6 := h6
    change Rw Pg at r
    have hr : R.getD i Rw.nil = r := hr
    have hm : r ∈ R := by rw [← hr]; exact getD_mem (by omega)
    have hk : Rok r := hrok r hm
    have hl : r.l.length < 1000000 := hfew r hm
    have hw : rw (R.map fun r => r.l) i = r.l := by rw [rwR, hr]
    rw [hw] at h6
    have h7 : (j : Int) < (r.l.length : Int) := of_decide_eq_true h7
    exact inR64 (by show -9223372036854775808 ≤ (j : Int) + 1; omega) (by show (j : Int) + 1 ≤ 9223372036854775807; omega)
  · rename_i x1 h1 h2 u1 u2 u3 u4 x2 h3 h4 r hr x6 h6 e6 h7 v1 hc
    obtain ⟨i, M1, c1, S1⟩ := x2
    obtain ⟨i6, j, M6, c6, S6⟩ := x6
    obtain rfl : i = i6 := Int.ofNat.inj e6
    have h4 : (i : Int) < (n : Int) := of_decide_eq_true h4
    have h6 : i < n ∧ j ≤ (rw (R.map fun r => r.l) i).length ∧ MSet M6 c6 (badTo n (R.map fun r => r.l) n) ∧ Gth (badL n (R.map fun r => r.l)) S6 := h6
    change Rw Pg at r
    have hr : R.getD i Rw.nil = r := hr
    have hm : r ∈ R := by rw [← hr]; exact getD_mem (by omega)
    have hk : Rok r := hrok r hm
    have hl : r.l.length < 1000000 := hfew r hm
    have hw : rw (R.map fun r => r.l) i = r.l := by rw [rwR, hr]
    rw [hw] at h6
    have h7 : (j : Int) < (r.l.length : Int) := of_decide_eq_true h7
    have hj : j < (rw (R.map fun r => r.l) i).length := by rw [hw]; omega
    have hp : (rw (R.map fun r => r.l) i).getD j pg0 = r.l.getD j pg0 := by rw [hw]
    have hc : ¬ ((rw (R.map fun r => r.l) i).getD j pg0).cl = 1 := by rw [hp]; exact of_decide_eq_true hc
    refine Stands.one (i, j + 1, M6, c6, S6) ⟨⟨by show i < n; omega, by show j + 1 ≤ (rw (R.map fun r => r.l) i).length; omega, h6.2.2⟩, by show (rw (R.map fun r => r.l) i).length - (j + 1) < (rw (R.map fun r => r.l) i).length - j; omega, ?_⟩
    ((refine Tr.via ?_ ?_ ?_; rotate_left; (as_aux_lemma => ((conv => (rhs; reduce))))); with_reducible repeat' (first | exact Tr.yes_h | refine Tr.and_h ?_ ?_ | refine Tr.imp_h fun _ => ?_ | refine Tr.all_h fun _ => ?_ | refine Tr.lf_h ?_))
    all_goals first | (first | first | (show Region.lexB _ _ = true; kernel_rfl) | (show planned _ _ = true; kernel_rfl) | exact rfl | exact True.intro | (first | exact key3 | exact zeroB | exact zeroR | exact zeroS | exact ⟨key3, zeroB⟩ | exact ⟨key3, zeroR⟩ | exact ⟨key3, zeroS⟩) | ((try dsimp only [imp, C0, cG, cInt, cPl, cSlot, cPg, gwCodec] at *); (try refine inR64 ?_ ?_) <;> (try simp only [List.length_set, List.length_append, List.length_take, List.length_drop]) <;> omega)) | exact fAt_torn hj hc | exact (fAt_torn hj hc).symm
  · rename_i x1 h1 h2 u1 u2 u3 u4 x2 h3 h4 r hr x6 h6 e6 h7 v1 hc v2
    have h4 : (x2.1 : Int) < (n : Int) := of_decide_eq_true h4
    exact ⟨by omega, ⟨by omega, h4⟩, hrok⟩
  · rename_i x1 h1 h2 u1 u2 u3 u4 x2 h3 h4 r hr x6 h6 e6 h7 v1 hc v2 hd
    obtain ⟨i, M1, c1, S1⟩ := x2
    obtain ⟨i6, j, M6, c6, S6⟩ := x6
    obtain rfl : i = i6 := Int.ofNat.inj e6
    have h4 : (i : Int) < (n : Int) := of_decide_eq_true h4
    have h6 : i < n ∧ j ≤ (rw (R.map fun r => r.l) i).length ∧ MSet M6 c6 (badTo n (R.map fun r => r.l) n) ∧ Gth (badL n (R.map fun r => r.l)) S6 := h6
    change Rw Pg at r
    have hr : R.getD i Rw.nil = r := hr
    have hm : r ∈ R := by rw [← hr]; exact getD_mem (by omega)
    have hk : Rok r := hrok r hm
    have hl : r.l.length < 1000000 := hfew r hm
    have hw : rw (R.map fun r => r.l) i = r.l := by rw [rwR, hr]
    rw [hw] at h6
    have h7 : (j : Int) < (r.l.length : Int) := of_decide_eq_true h7
    exact inR64 (by show -9223372036854775808 ≤ (j : Int) + 1; omega) (by show (j : Int) + 1 ≤ 9223372036854775807; omega)
  · rename_i x1 h1 h2 u1 u2 u3 u4 x2 h3 h4 r hr x6 h6 e6 h7 v1 hc v2 hd
    obtain ⟨i, M1, c1, S1⟩ := x2
    obtain ⟨i6, j, M6, c6, S6⟩ := x6
    obtain rfl : i = i6 := Int.ofNat.inj e6
    have h4 : (i : Int) < (n : Int) := of_decide_eq_true h4
    have h6 : i < n ∧ j ≤ (rw (R.map fun r => r.l) i).length ∧ MSet M6 c6 (badTo n (R.map fun r => r.l) n) ∧ Gth (badL n (R.map fun r => r.l)) S6 := h6
    change Rw Pg at r
    have hr : R.getD i Rw.nil = r := hr
    have hm : r ∈ R := by rw [← hr]; exact getD_mem (by omega)
    have hk : Rok r := hrok r hm
    have hl : r.l.length < 1000000 := hfew r hm
    have hw : rw (R.map fun r => r.l) i = r.l := by rw [rwR, hr]
    rw [hw] at h6
    have h7 : (j : Int) < (r.l.length : Int) := of_decide_eq_true h7
    have hj : j < (rw (R.map fun r => r.l) i).length := by rw [hw]; omega
    have hp : (rw (R.map fun r => r.l) i).getD j pg0 = r.l.getD j pg0 := by rw [hw]
    have hcn : cntF n (R.map fun r => r.l) i (rw (R.map fun r => r.l) i) = (isHd i (R.getD i Rw.nil).l && !mgetB M6 i) := by rw [h6.2.2.1.get, ← rwR]
    have hc : ((rw (R.map fun r => r.l) i).getD j pg0).cl = 1 := by rw [hp]; exact Decidable.of_not_not (of_decide_eq_false hc)
    have a1 := fAt_yes (h := mxH Me.seq) (f := allF) hj rfl hc
    have a2 := fAt_yes (h := mxH Me.stamp) (f := allF) hj rfl hc
    have a3 := fAt_yes (h := mxH Me.batch) (f := allF) hj rfl hc
    rw [hp] at a1 a2 a3
    have hd : cntF n (R.map fun r => r.l) i (rw (R.map fun r => r.l) i) = false := by rw [hcn]; exact not_t hd
    have a4 := fAt_off (h := flH) (f := cntF n (R.map fun r => r.l)) (j := j) hd
    refine Stands.one (i, j + 1, M6, c6, S6) ⟨⟨by show i < n; omega, by show j + 1 ≤ (rw (R.map fun r => r.l) i).length; omega, h6.2.2⟩, by show (rw (R.map fun r => r.l) i).length - (j + 1) < (rw (R.map fun r => r.l) i).length - j; omega, ?_⟩
    ((refine Tr.via ?_ ?_ ?_; rotate_left; (as_aux_lemma => ((conv => (rhs; reduce))))); with_reducible repeat' (first | exact Tr.yes_h | refine Tr.and_h ?_ ?_ | refine Tr.imp_h fun _ => ?_ | refine Tr.all_h fun _ => ?_ | refine Tr.lf_h ?_))
    all_goals first | (first | first | (show Region.lexB _ _ = true; kernel_rfl) | (show planned _ _ = true; kernel_rfl) | exact rfl | exact True.intro | (first | exact key3 | exact zeroB | exact zeroR | exact zeroS | exact ⟨key3, zeroB⟩ | exact ⟨key3, zeroR⟩ | exact ⟨key3, zeroS⟩) | ((try dsimp only [imp, C0, cG, cInt, cPl, cSlot, cPg, gwCodec] at *); (try refine inR64 ?_ ?_) <;> (try simp only [List.length_set, List.length_append, List.length_take, List.length_drop]) <;> omega)) | exact a1 | exact a1.symm | exact a2 | exact a2.symm | exact a3 | exact a3.symm | exact a4 | exact a4.symm
  · rename_i x1 h1 h2 u1 u2 u3 u4 x2 h3 h4 r hr x6 h6 e6 h7 v1 hc v2 hd hk4
    obtain ⟨i, M1, c1, S1⟩ := x2
    obtain ⟨i6, j, M6, c6, S6⟩ := x6
    obtain rfl : i = i6 := Int.ofNat.inj e6
    have h4 : (i : Int) < (n : Int) := of_decide_eq_true h4
    have h6 : i < n ∧ j ≤ (rw (R.map fun r => r.l) i).length ∧ MSet M6 c6 (badTo n (R.map fun r => r.l) n) ∧ Gth (badL n (R.map fun r => r.l)) S6 := h6
    change Rw Pg at r
    have hr : R.getD i Rw.nil = r := hr
    have hm : r ∈ R := by rw [← hr]; exact getD_mem (by omega)
    have hk : Rok r := hrok r hm
    have hl : r.l.length < 1000000 := hfew r hm
    have hw : rw (R.map fun r => r.l) i = r.l := by rw [rwR, hr]
    rw [hw] at h6
    have h7 : (j : Int) < (r.l.length : Int) := of_decide_eq_true h7
    exact inR64 (by show -9223372036854775808 ≤ (j : Int) + 1; omega) (by show (j : Int) + 1 ≤ 9223372036854775807; omega)
  · rename_i x1 h1 h2 u1 u2 u3 u4 x2 h3 h4 r hr x6 h6 e6 h7 v1 hc v2 hd hk4
    obtain ⟨i, M1, c1, S1⟩ := x2
    obtain ⟨i6, j, M6, c6, S6⟩ := x6
    obtain rfl : i = i6 := Int.ofNat.inj e6
    have h4 : (i : Int) < (n : Int) := of_decide_eq_true h4
    have h6 : i < n ∧ j ≤ (rw (R.map fun r => r.l) i).length ∧ MSet M6 c6 (badTo n (R.map fun r => r.l) n) ∧ Gth (badL n (R.map fun r => r.l)) S6 := h6
    change Rw Pg at r
    have hr : R.getD i Rw.nil = r := hr
    have hm : r ∈ R := by rw [← hr]; exact getD_mem (by omega)
    have hk : Rok r := hrok r hm
    have hl : r.l.length < 1000000 := hfew r hm
    have hw : rw (R.map fun r => r.l) i = r.l := by rw [rwR, hr]
    rw [hw] at h6
    have h7 : (j : Int) < (r.l.length : Int) := of_decide_eq_true h7
    have hj : j < (rw (R.map fun r => r.l) i).length := by rw [hw]; omega
    have hp : (rw (R.map fun r => r.l) i).getD j pg0 = r.l.getD j pg0 := by rw [hw]
    have hcn : cntF n (R.map fun r => r.l) i (rw (R.map fun r => r.l) i) = (isHd i (R.getD i Rw.nil).l && !mgetB M6 i) := by rw [h6.2.2.1.get, ← rwR]
    have hc : ((rw (R.map fun r => r.l) i).getD j pg0).cl = 1 := by rw [hp]; exact Decidable.of_not_not (of_decide_eq_false hc)
    have a1 := fAt_yes (h := mxH Me.seq) (f := allF) hj rfl hc
    have a2 := fAt_yes (h := mxH Me.stamp) (f := allF) hj rfl hc
    have a3 := fAt_yes (h := mxH Me.batch) (f := allF) hj rfl hc
    rw [hp] at a1 a2 a3
    have hd : cntF n (R.map fun r => r.l) i (rw (R.map fun r => r.l) i) = true := by rw [hcn]; exact not_f hd
    have a4 := fAt_yes (h := flH) (f := cntF n (R.map fun r => r.l)) hj hd hc
    rw [hp] at a4
    simp only [flH] at a4
    have hk4 : (r.l.getD j pg0).me.kind = 4 := of_decide_eq_true hk4
    rw [if_pos hk4] at a4
    refine Stands.one (i, j + 1, M6, c6, S6) ⟨⟨by show i < n; omega, by show j + 1 ≤ (rw (R.map fun r => r.l) i).length; omega, h6.2.2⟩, by show (rw (R.map fun r => r.l) i).length - (j + 1) < (rw (R.map fun r => r.l) i).length - j; omega, ?_⟩
    ((refine Tr.via ?_ ?_ ?_; rotate_left; (as_aux_lemma => ((conv => (rhs; reduce))))); with_reducible repeat' (first | exact Tr.yes_h | refine Tr.and_h ?_ ?_ | refine Tr.imp_h fun _ => ?_ | refine Tr.all_h fun _ => ?_ | refine Tr.lf_h ?_))
    all_goals first | (first | first | (show Region.lexB _ _ = true; kernel_rfl) | (show planned _ _ = true; kernel_rfl) | exact rfl | exact True.intro | (first | exact key3 | exact zeroB | exact zeroR | exact zeroS | exact ⟨key3, zeroB⟩ | exact ⟨key3, zeroR⟩ | exact ⟨key3, zeroS⟩) | ((try dsimp only [imp, C0, cG, cInt, cPl, cSlot, cPg, gwCodec] at *); (try refine inR64 ?_ ?_) <;> (try simp only [List.length_set, List.length_append, List.length_take, List.length_drop]) <;> omega)) | exact a1 | exact a1.symm | exact a2 | exact a2.symm | exact a3 | exact a3.symm | exact a4 | exact a4.symm
  · rename_i x1 h1 h2 u1 u2 u3 u4 x2 h3 h4 r hr x6 h6 e6 h7 v1 hc v2 hd hk4
    obtain ⟨i, M1, c1, S1⟩ := x2
    obtain ⟨i6, j, M6, c6, S6⟩ := x6
    obtain rfl : i = i6 := Int.ofNat.inj e6
    have h4 : (i : Int) < (n : Int) := of_decide_eq_true h4
    have h6 : i < n ∧ j ≤ (rw (R.map fun r => r.l) i).length ∧ MSet M6 c6 (badTo n (R.map fun r => r.l) n) ∧ Gth (badL n (R.map fun r => r.l)) S6 := h6
    change Rw Pg at r
    have hr : R.getD i Rw.nil = r := hr
    have hm : r ∈ R := by rw [← hr]; exact getD_mem (by omega)
    have hk : Rok r := hrok r hm
    have hl : r.l.length < 1000000 := hfew r hm
    have hw : rw (R.map fun r => r.l) i = r.l := by rw [rwR, hr]
    rw [hw] at h6
    have h7 : (j : Int) < (r.l.length : Int) := of_decide_eq_true h7
    exact inR64 (by show -9223372036854775808 ≤ (j : Int) + 1; omega) (by show (j : Int) + 1 ≤ 9223372036854775807; omega)
  · rename_i x1 h1 h2 u1 u2 u3 u4 x2 h3 h4 r hr x6 h6 e6 h7 v1 hc v2 hd hk4
    obtain ⟨i, M1, c1, S1⟩ := x2
    obtain ⟨i6, j, M6, c6, S6⟩ := x6
    obtain rfl : i = i6 := Int.ofNat.inj e6
    have h4 : (i : Int) < (n : Int) := of_decide_eq_true h4
    have h6 : i < n ∧ j ≤ (rw (R.map fun r => r.l) i).length ∧ MSet M6 c6 (badTo n (R.map fun r => r.l) n) ∧ Gth (badL n (R.map fun r => r.l)) S6 := h6
    change Rw Pg at r
    have hr : R.getD i Rw.nil = r := hr
    have hm : r ∈ R := by rw [← hr]; exact getD_mem (by omega)
    have hk : Rok r := hrok r hm
    have hl : r.l.length < 1000000 := hfew r hm
    have hw : rw (R.map fun r => r.l) i = r.l := by rw [rwR, hr]
    rw [hw] at h6
    have h7 : (j : Int) < (r.l.length : Int) := of_decide_eq_true h7
    have hj : j < (rw (R.map fun r => r.l) i).length := by rw [hw]; omega
    have hp : (rw (R.map fun r => r.l) i).getD j pg0 = r.l.getD j pg0 := by rw [hw]
    have hcn : cntF n (R.map fun r => r.l) i (rw (R.map fun r => r.l) i) = (isHd i (R.getD i Rw.nil).l && !mgetB M6 i) := by rw [h6.2.2.1.get, ← rwR]
    have hc : ((rw (R.map fun r => r.l) i).getD j pg0).cl = 1 := by rw [hp]; exact Decidable.of_not_not (of_decide_eq_false hc)
    have a1 := fAt_yes (h := mxH Me.seq) (f := allF) hj rfl hc
    have a2 := fAt_yes (h := mxH Me.stamp) (f := allF) hj rfl hc
    have a3 := fAt_yes (h := mxH Me.batch) (f := allF) hj rfl hc
    rw [hp] at a1 a2 a3
    have hd : cntF n (R.map fun r => r.l) i (rw (R.map fun r => r.l) i) = true := by rw [hcn]; exact not_f hd
    have a4 := fAt_yes (h := flH) (f := cntF n (R.map fun r => r.l)) hj hd hc
    rw [hp] at a4
    simp only [flH] at a4
    have hk4 : ¬ (r.l.getD j pg0).me.kind = 4 := of_decide_eq_false hk4
    rw [if_neg hk4] at a4
    refine Stands.one (i, j + 1, M6, c6, S6) ⟨⟨by show i < n; omega, by show j + 1 ≤ (rw (R.map fun r => r.l) i).length; omega, h6.2.2⟩, by show (rw (R.map fun r => r.l) i).length - (j + 1) < (rw (R.map fun r => r.l) i).length - j; omega, ?_⟩
    ((refine Tr.via ?_ ?_ ?_; rotate_left; (as_aux_lemma => ((conv => (rhs; reduce))))); with_reducible repeat' (first | exact Tr.yes_h | refine Tr.and_h ?_ ?_ | refine Tr.imp_h fun _ => ?_ | refine Tr.all_h fun _ => ?_ | refine Tr.lf_h ?_))
    all_goals first | (first | first | (show Region.lexB _ _ = true; kernel_rfl) | (show planned _ _ = true; kernel_rfl) | exact rfl | exact True.intro | (first | exact key3 | exact zeroB | exact zeroR | exact zeroS | exact ⟨key3, zeroB⟩ | exact ⟨key3, zeroR⟩ | exact ⟨key3, zeroS⟩) | ((try dsimp only [imp, C0, cG, cInt, cPl, cSlot, cPg, gwCodec] at *); (try refine inR64 ?_ ?_) <;> (try simp only [List.length_set, List.length_append, List.length_take, List.length_drop]) <;> omega)) | exact a1 | exact a1.symm | exact a2 | exact a2.symm | exact a3 | exact a3.symm | exact a4 | exact a4.symm
  · rename_i x1 h1 h2 u1 u2 u3 u4 x2 h3 h4 r hr x6 h6 e6 h7
    obtain ⟨i, M1, c1, S1⟩ := x2
    obtain ⟨i6, j, M6, c6, S6⟩ := x6
    obtain rfl : i = i6 := Int.ofNat.inj e6
    have h4 : (i : Int) < (n : Int) := of_decide_eq_true h4
    have h6 : i < n ∧ j ≤ (rw (R.map fun r => r.l) i).length ∧ MSet M6 c6 (badTo n (R.map fun r => r.l) n) ∧ Gth (badL n (R.map fun r => r.l)) S6 := h6
    change Rw Pg at r
    have hr : R.getD i Rw.nil = r := hr
    have hm : r ∈ R := by rw [← hr]; exact getD_mem (by omega)
    have hk : Rok r := hrok r hm
    have hl : r.l.length < 1000000 := hfew r hm
    have hw : rw (R.map fun r => r.l) i = r.l := by rw [rwR, hr]
    rw [hw] at h6
    have h7 : ¬ (j : Int) < (r.l.length : Int) := of_decide_eq_false h7
    exact inR64 (by show -9223372036854775808 ≤ (i : Int) + 1; omega) (by show (i : Int) + 1 ≤ 9223372036854775807; omega)
  · rename_i x1 h1 h2 u1 u2 u3 u4 x2 h3 h4 r hr x6 h6 e6 h7
    obtain ⟨i, M1, c1, S1⟩ := x2
    obtain ⟨i6, j, M6, c6, S6⟩ := x6
    obtain rfl : i = i6 := Int.ofNat.inj e6
    have h4 : (i : Int) < (n : Int) := of_decide_eq_true h4
    have h6 : i < n ∧ j ≤ (rw (R.map fun r => r.l) i).length ∧ MSet M6 c6 (badTo n (R.map fun r => r.l) n) ∧ Gth (badL n (R.map fun r => r.l)) S6 := h6
    change Rw Pg at r
    have hr : R.getD i Rw.nil = r := hr
    have hm : r ∈ R := by rw [← hr]; exact getD_mem (by omega)
    have hk : Rok r := hrok r hm
    have hl : r.l.length < 1000000 := hfew r hm
    have hw : rw (R.map fun r => r.l) i = r.l := by rw [rwR, hr]
    rw [hw] at h6
    have h7 : ¬ (j : Int) < (r.l.length : Int) := of_decide_eq_false h7
    have hle : (rw (R.map fun r => r.l) i).length ≤ j := by rw [hw]; omega
    refine Stands.one (i + 1, M6, c6, S6) ⟨⟨by show i + 1 ≤ n; omega, h6.2.2⟩, by show n - (i + 1) < n - i; omega, ?_⟩
    ((refine Tr.via ?_ ?_ ?_; rotate_left; (as_aux_lemma => ((conv => (rhs; reduce))))); with_reducible repeat' (first | exact Tr.yes_h | refine Tr.and_h ?_ ?_ | refine Tr.imp_h fun _ => ?_ | refine Tr.all_h fun _ => ?_ | refine Tr.lf_h ?_))
    all_goals first | (first | first | (show Region.lexB _ _ = true; kernel_rfl) | (show planned _ _ = true; kernel_rfl) | exact rfl | exact True.intro | (first | exact key3 | exact zeroB | exact zeroR | exact zeroS | exact ⟨key3, zeroB⟩ | exact ⟨key3, zeroR⟩ | exact ⟨key3, zeroS⟩) | ((try dsimp only [imp, C0, cG, cInt, cPl, cSlot, cPg, gwCodec] at *); (try refine inR64 ?_ ?_) <;> (try simp only [List.length_set, List.length_append, List.length_take, List.length_drop]) <;> omega)) | exact fAt_all hle | exact (fAt_all hle).symm
  · rename_i x1 h1 h2 u1 u2 u3 u4 x2 h3 h4
    obtain ⟨i, M1, c1, S1⟩ := x2
    have h3 : i ≤ n ∧ MSet M1 c1 (badTo n (R.map fun r => r.l) n) ∧ Gth (badL n (R.map fun r => r.l)) S1 := h3
    have h4 : ¬ (i : Int) < (n : Int) := of_decide_eq_false h4
    have e : i = n := by omega
    subst e
    refine Ends.one (M1, c1, S1) ⟨h3.2.1, h3.2.2⟩ ?_
    ((refine Tr.via ?_ ?_ ?_; rotate_left; (as_aux_lemma => ((conv => (rhs; reduce))))); with_reducible repeat' (first | exact Tr.yes_h | refine Tr.and_h ?_ ?_ | refine Tr.imp_h fun _ => ?_ | refine Tr.all_h fun _ => ?_ | refine Tr.lf_h ?_))
    all_goals (first | first | (show Region.lexB _ _ = true; kernel_rfl) | (show planned _ _ = true; kernel_rfl) | exact rfl | exact True.intro | (first | exact key3 | exact zeroB | exact zeroR | exact zeroS | exact ⟨key3, zeroB⟩ | exact ⟨key3, zeroR⟩ | exact ⟨key3, zeroS⟩) | ((try dsimp only [imp, C0, cG, cInt, cPl, cSlot, cPg, gwCodec] at *); (try refine inR64 ?_ ?_) <;> (try simp only [List.length_set, List.length_append, List.length_take, List.length_drop]) <;> omega))
end Go.Vx
set_option maxRecDepth 100000
namespace Go.Vx
open Go Go.Proofs
variable [Gl]
structure Geo where
  bs : Int
  ps : Int
  ss : Int
structure Geo.ok (g : Geo) : Prop where
  bs : 0 ≤ g.bs ∧ g.bs ≤ 64
  ps : 0 ≤ g.ps ∧ g.ps ≤ 64
  ss : 0 ≤ g.ss ∧ g.ss ≤ 536870912
abbrev gKey (g : Geo) (p : Pg) : Int := keyV g.bs g.ps g.ss p.me
def kyF (g : Geo) (p : Pg) : Bool := keyH g.bs g.ps g.ss p.me && decide (p.cl = 1)
@[irreducible] def kyd (g : Geo) (P : List Pg) : List Pg := P.filter (kyF g)
@[irreducible] def keyD (g : Geo) (P : List Pg) : List Int := (kyd g P).map (gKey g)
@[irreducible] def grpL (g : Geo) (P : List Pg) (k : Int) : List Pg := (kyd g P).filter fun p => decide (gKey g p = k)
def orF (f : Int) (p : Pg) : Bool := decide (p.cl = 1) && !alive p.me f
@[irreducible] def orfL (f : Int) (P : List Pg) : List Pl := (P.filter (orF f)).map fun p => p.pl
@[irreducible] def keyL (g : Geo) (P : List Pg) : List Int := (upTo (g.ss + g.bs + g.ps + 1).toNat).filter fun k => decide (k ∈ keyD g P)
def sloOf (g : Geo) (f : Int) (P : List Pg) (k : Int) : Slot := ⟨k, (winP f (grpL g P k)).pl, (winP f (grpL g P k)).me⟩
@[irreducible] def sloL (g : Geo) (f : Int) (P : List Pg) (K : List Int) : List Slot := (K.filter fun k => winB f (grpL g P k)).map (sloOf g f P)
section
variable {g : Geo} {f : Int} {P : List Pg} {p : Pg}
theorem kyd_yes (h : kyF g p = true) : kyd g (P ++ [p]) = kyd g P ++ [p] := by
  unfold kyd
  rw [List.filter_append, List.filter_cons_of_pos h, List.filter_nil]
theorem kyd_no (h : kyF g p = false) : kyd g (P ++ [p]) = kyd g P := by
  unfold kyd
  rw [List.filter_append, List.filter_cons_of_neg (by rw [h]; exact Bool.false_ne_true), List.filter_nil, List.append_nil]
theorem keyD_yes (h : kyF g p = true) : keyD g (P ++ [p]) = keyD g P ++ [gKey g p] := by
  unfold keyD
  rw [kyd_yes h, List.map_append]; rfl
theorem keyD_no (h : kyF g p = false) : keyD g (P ++ [p]) = keyD g P := by unfold keyD; rw [kyd_no h]
theorem keyD_nil : keyD g [] = [] := by unfold keyD kyd; rfl
theorem grpL_same (h : kyF g p = true) : grpL g (P ++ [p]) (gKey g p) = grpL g P (gKey g p) ++ [p] := by
  unfold grpL
  rw [kyd_yes h, List.filter_append, List.filter_cons_of_pos (p := fun q => decide (gKey g q = gKey g p)) (decide_eq_true rfl), List.filter_nil]
theorem grpL_other {k : Int} (h : gKey g p ≠ k) : grpL g (P ++ [p]) k = grpL g P k := by
  unfold grpL
  cases hf : kyF g p with
  | true => rw [kyd_yes hf, List.filter_append, List.filter_cons_of_neg (by rw [decide_eq_false h]; exact Bool.false_ne_true), List.filter_nil, List.append_nil]
  | false => rw [kyd_no hf]
theorem grpL_no {k : Int} (h : kyF g p = false) : grpL g (P ++ [p]) k = grpL g P k := by
  unfold grpL
  rw [kyd_no h]
theorem grpL_len {k : Int} : (grpL g P k).length ≤ P.length := by
  unfold grpL kyd
  exact Nat.le_trans (List.length_filter_le _ _) (List.length_filter_le _ _)
theorem grpL_none {k : Int} (h : k ∉ keyD g P) : grpL g P k = [] := by
  unfold grpL
  rw [List.filter_eq_nil_iff]
  intro q hq e
  exact h (by unfold keyD; exact List.mem_map.2 ⟨q, hq, of_decide_eq_true e⟩)
theorem orfL_nil : orfL f [] = [] := by unfold orfL; rfl
theorem orfL_yes (h : orF f p = true) : orfL f (P ++ [p]) = orfL f P ++ [p.pl] := by
  unfold orfL
  rw [List.filter_append, List.filter_cons_of_pos h, List.filter_nil, List.map_append]; rfl
theorem orfL_no (h : orF f p = false) : orfL f (P ++ [p]) = orfL f P := by
  unfold orfL
  rw [List.filter_append, List.filter_cons_of_neg (by rw [h]; exact Bool.false_ne_true), List.filter_nil, List.append_nil]
theorem orfL_len : (orfL f P).length ≤ P.length := by
  unfold orfL
  rw [List.length_map]; exact List.length_filter_le _ _
theorem keyV_range (h : g.ok) (hk : keyH g.bs g.ps g.ss p.me = true) : 0 ≤ gKey g p ∧ gKey g p < g.ss + g.bs + g.ps + 1 := by
  obtain ⟨⟨h1, h2⟩, ⟨h3, h4⟩, h5, h6⟩ := h
  unfold keyH at hk
  unfold gKey keyV
  by_cases h4 : p.me.kind = 4
  · rw [if_pos h4]; omega
  · rw [if_neg h4] at hk ⊢
    have a := of_decide_eq_true (and_l hk)
    have b := of_decide_eq_true (and_r hk)
    have hN : 0 ≤ (keyN g.bs g.ps g.ss p.me).1 ∧ (keyN g.bs g.ps g.ss p.me).1 + (keyN g.bs g.ps g.ss p.me).2 ≤ g.ss + g.bs + g.ps := by
      unfold keyN
      split
      · exact ⟨Int.le_refl 0, by show 0 + g.ss ≤ _; omega⟩
      · split
        · exact ⟨h5, by show g.ss + g.bs ≤ _; omega⟩
        · split
          · exact ⟨by show 0 ≤ g.ss + g.bs; omega, by show g.ss + g.bs + g.ps ≤ _; omega⟩
          · exact ⟨Int.le_refl 0, by show (0 : Int) + 0 ≤ _; omega⟩
    have hw : IntKind.wrap .i64 ((keyN g.bs g.ps g.ss p.me).1 + p.me.key) = (keyN g.bs g.ps g.ss p.me).1 + p.me.key := inR64 (by omega) (by omega)
    rw [hw]
    omega
theorem mem_keyL (h : g.ok) {k : Int} : k ∈ keyL g P ↔ k ∈ keyD g P := by
  unfold keyL
  rw [List.mem_filter, mem_upTo, decide_eq_true_eq]
  refine ⟨fun h => h.2, fun hk => ⟨?_, hk⟩⟩
  unfold keyD kyd at hk
  obtain ⟨p, hp, rfl⟩ := List.mem_map.1 hk
  have := (List.mem_filter.1 hp).2
  have hr := keyV_range h (and_l this)
  omega
theorem rise_keyL : Rise (keyL g P) := by unfold keyL; exact (rise_upTo _).filter _
theorem sloL_zero {K : List Int} : sloL g f P (K.take 0) = [] := by unfold sloL; rfl
theorem sloL_yes {K : List Int} {j : Nat} (h : j < K.length) (hw : winB f (grpL g P (K.getD j 0)) = true) : sloL g f P (K.take (j + 1)) = sloL g f P (K.take j) ++ [sloOf g f P (K.getD j 0)] := by
  unfold sloL
  rw [take_snoc (d := 0) h, List.filter_append, List.filter_cons_of_pos (p := fun k => winB f (grpL g P k)) hw, List.filter_nil, List.map_append]; rfl
theorem sloL_no {K : List Int} {j : Nat} (h : j < K.length) (hw : winB f (grpL g P (K.getD j 0)) = false) : sloL g f P (K.take (j + 1)) = sloL g f P (K.take j) := by
  unfold sloL
  rw [take_snoc (d := 0) h, List.filter_append, List.filter_cons_of_neg (by rw [hw]; exact Bool.false_ne_true), List.filter_nil, List.append_nil]
end
structure Far (x : Cx) (b : Nat) : Prop where
  grid : b ≠ x.bg
  skip : x.so = true → b ≠ x.sb
  row : ∀ y ∈ x.R, b ∉ y.blks
structure AOK (x : Cx) (g : Geo) (P : List Pg) (A : MpG) (clk : Nat) : Prop where
  keys : MKeys (d := C0 33) A clk (keyD g P)
  row : ∀ e ∈ A, e.2.1.on = true ∧ e.2.1.l = grpL g P e.1 ∧ e.2.1.l.length ≤ e.2.1.m ∧ Far x e.2.1.b
  two : ∀ e ∈ A, ∀ e' ∈ A, e.1 ≠ e'.1 → e.2.1.b ≠ e'.2.1.b
abbrev mgetG (A : MpG) (k : Int) : Rw Pg := mget (C0 3) (C0 33) A k
abbrev mputG (A : MpG) (k : Int) (r : Rw Pg) (clk : Nat) : MpG := mput (C0 3) (C0 33) A k r clk
section
variable {x : Cx} {g : Geo} {P : List Pg} {A : MpG} {clk : Nat}
theorem AOK.nil : AOK x g [] [] 0 := ⟨by rw [keyD_nil]; exact MKeys.nil, fun e he => (by cases he), fun e he => (by cases he)⟩
theorem AOK.no (h : AOK x g P A clk) {p : Pg} (hp : kyF g p = false) : AOK x g (P ++ [p]) A clk :=
  ⟨by rw [keyD_no hp]; exact h.keys, fun e he => by rw [grpL_no hp]; exact h.row e he, h.two⟩
theorem AOK.get (h : AOK x g P A clk) (k : Int) : (∃ e ∈ A, e.1 = k ∧ mgetG A k = e.2.1) ∨ (mgetG A k = Rw.nil ∧ k ∉ keyD g P) := by
  by_cases hk : k ∈ keyD g P
  · exact .inl (mget_ent (d := C0 33) ((h.keys.mem k).2 hk))
  · exact .inr ⟨mget_no (d := C0 33) fun hm => hk ((h.keys.mem k).1 hm), hk⟩
theorem AOK.rowl (h : AOK x g P A clk) (k : Int) : (mgetG A k).l = grpL g P k ∧ ((mgetG A k).on = false → (mgetG A k).l.length = 0 ∧ (mgetG A k).m = 0) ∧ (mgetG A k).l.length ≤ (mgetG A k).m := by
  rcases h.get k with ⟨e, he, rfl, hr⟩ | ⟨hr, hk⟩
  · rw [hr]
    obtain ⟨h1, h2, h3, h4⟩ := h.row e he
    exact ⟨h2, fun h0 => (by rw [h1] at h0; cases h0), h3⟩
  · rw [hr, grpL_none hk]
    exact ⟨rfl, fun _ => ⟨rfl, rfl⟩, Nat.le_refl _⟩
theorem AOK.put (h : AOK x g P A clk) {p : Pg} (hp : kyF g p = true) {b q c : Nat} (hc : (grpL g P (gKey g p)).length + 1 ≤ c)
    (hb : ((mgetG A (gKey g p)).on = true ∧ b = (mgetG A (gKey g p)).b) ∨ (Far x b ∧ ∀ e ∈ A, b ∉ e.2.1.blks)) :
    AOK x g (P ++ [p]) (mputG A (gKey g p) ⟨true, b, q, c, grpL g P (gKey g p) ++ [p]⟩ clk) (mclk (C0 3) (C0 33) A (gKey g p) clk) := by
  have hfar : Far x b ∧ ∀ e ∈ A, e.1 ≠ gKey g p → e.2.1.b ≠ b := by
    rcases hb with ⟨h1, rfl⟩ | ⟨h1, h2⟩
    · rcases h.get (gKey g p) with ⟨e, he, hk, hr⟩ | ⟨hr, _⟩
      · rw [hr]
        exact ⟨(h.row e he).2.2.2, fun e' he' hne => h.two e' he' e he (by rw [hk]; exact hne)⟩
      · rw [hr] at h1; cases h1
    · exact ⟨h1, fun e he _ hbe => h2 e he (by rw [← hbe]; unfold Rw.blks; rw [(h.row e he).1]; exact List.mem_singleton.2 rfl)⟩
  refine ⟨by rw [keyD_yes hp]; exact h.keys.put _ _, fun e he => ?_, fun e he e' he' hne => ?_⟩
  · rcases mput_ent h.keys.nd he with ⟨h1, h2⟩ | ⟨h1, h2⟩
    · have h1 : e.1 = gKey g p := h1
      rw [h2, h1, grpL_same hp]
      exact ⟨rfl, rfl, by show (_ ++ [p]).length ≤ c; simp; omega, hfar.1⟩
    · have h1 : e.1 ≠ gKey g p := h1
      rw [grpL_other (Ne.symm h1)]
      exact h.row e h2
  · rcases mput_ent h.keys.nd he with ⟨h1, h2⟩ | ⟨h1, h2⟩ <;> rcases mput_ent h.keys.nd he' with ⟨h3, h4⟩ | ⟨h3, h4⟩
    · exact absurd (h1.trans h3.symm) hne
    · rw [h2]
      exact Ne.symm (hfar.2 e' h4 h3)
    · rw [h4]
      exact hfar.2 e h2 h1
    · exact h.two e h2 e' h4 hne
theorem AOK.excl (h : AOK x g P A clk) {k : Int} (hon : (mgetG A k).on = true) : ∃ i, i < (A.map fun e => e.2.1).length ∧ (A.map fun e => e.2.1).getD i Rw.nil = mgetG A k ∧
    ∀ j, j < (A.map fun e => e.2.1).length → j ≠ i → (mgetG A k).b ∉ ((A.map fun e => e.2.1).getD j Rw.nil).blks := by
  rcases h.get k with ⟨e, he, rfl, hr⟩ | ⟨hr, _⟩
  · obtain ⟨i, hi, hie⟩ := List.getElem_of_mem he
    have hg : ∀ j (hj : j < A.length), (A.map fun e => e.2.1).getD j Rw.nil = A[j].2.1 := by
      intro j hj
      rw [List.getD_eq_getElem?_getD, List.getElem?_map, List.getElem?_eq_getElem hj]; rfl
    refine ⟨i, by rw [List.length_map]; exact hi, by rw [hg i hi, hie, hr], fun j hj hne hb => ?_⟩
    rw [List.length_map] at hj
    rw [hg j hj, hr] at hb
    have hrow := h.row A[j] (List.getElem_mem hj)
    unfold Rw.blks at hb
    rw [hrow.1] at hb
    have hb : e.2.1.b = A[j].2.1.b := List.mem_singleton.1 hb
    refine h.two e he A[j] (List.getElem_mem hj) (fun hk => hne ?_) hb
    have hnd := h.keys.nd
    have h1 : (A.map fun e => (e.1 : Int))[j]'(by rw [List.length_map]; exact hj) = (A.map fun e => (e.1 : Int))[i]'(by rw [List.length_map]; exact hi) := by
      rw [List.getElem_map, List.getElem_map, hie]; exact hk.symm
    exact (List.getElem_inj hnd).1 h1
  · rw [hr] at hon; cases hon
end
end Go.Vx
set_option maxRecDepth 100000
namespace Go.Vx
open Go Go.Proofs
variable [Gl]
theorem freshL_to {b : Nat} : ∀ {m : List (Ck C0)}, allOf (freshL b m) → ∀ i, i < m.length → ((nth m i).live = true → (nth m i).block ≠ b) ∧ ∀ t y, (nth m i).cells.Has t y → b ∉ (C0 t).blks y
  | x :: r, h, i, hi => by
    obtain ⟨h1, h2⟩ := (allOf_append _ _).1 h
    obtain ⟨h2, h3⟩ := (allOf_append _ _).1 h2
    cases i with
    | zero => exact ⟨fun hl => ckOff_to h1 hl, fun t y hy => ckOffD_to h2 hy⟩
    | succ i => exact freshL_to h3 i (by simpa using hi)
theorem pgsTo_len {f : Nat → List Pg → Bool} {Q : List (List Pg)} (h : ∀ i, (rw Q i).length ≤ 1000000) : ∀ i, (pgsTo f Q i).length ≤ i * 1000000
  | 0 => Nat.le_refl _
  | i + 1 => by
    have h1 := pgsTo_len (f := f) h i
    have h2 := h i
    rw [pgsTo, List.length_append]
    have h3 : (if f i (rw Q i) then rw Q i else []).length ≤ 1000000 := by
      cases f i (rw Q i) with
      | true => exact h2
      | false => exact Nat.zero_le _
    rw [Nat.succ_mul]
    exact Nat.add_le_add h1 h3
theorem pgsAt_len {f : Nat → List Pg → Bool} {Q : List (List Pg)} (h : ∀ i, (rw Q i).length ≤ 1000000) (i j : Nat) : (pgsAt f Q i j).length ≤ (i + 1) * 1000000 := by
  have h1 := pgsTo_len (f := f) h i
  have h2 := h i
  unfold pgsAt
  rw [List.length_append]
  have h3 : (if f i (rw Q i) then (rw Q i).take j else []).length ≤ 1000000 := by
    cases f i (rw Q i) with
    | true => exact Nat.le_trans (List.length_take_le' ..) h2
    | false => exact Nat.zero_le _
  rw [Nat.succ_mul]
  exact Nat.add_le_add h1 h3
theorem rows_len {R : List (Rw Pg)} (h : ∀ r ∈ R, r.l.length < 1000000) (i : Nat) : (rw (R.map fun r => r.l) i).length ≤ 1000000 := by
  rw [rwR]
  by_cases hi : i < R.length
  · exact Nat.le_of_lt (h _ (getD_mem hi))
  · rw [List.getD_eq_getElem?_getD, List.getElem?_eq_none (by omega)]
    exact Nat.zero_le _
theorem byPl : Tryd.prog.types[36].bytes = 16 := by kernel_rfl
theorem bySl : Tryd.prog.types[40].bytes = 72 := by kernel_rfl
theorem Gth.room {α : Type} {A : List α} {o : Bool} {b q : Nat} {l : List α} {n c : Nat} (h : Gth A (o, b, q, l, n, c)) : n ≤ c ∧ c ≤ l.length ∧ n = A.length ∧ (o = false → n = 0 ∧ c = 0) := ⟨h.2.2.1, h.2.2.2.1, h.2.1.symm, h.2.2.2.2⟩
theorem Gth.at {α : Type} {A : List α} {o : Bool} {b q : Nat} {l : List α} {n c : Nat} (h : Gth A (o, b, q, l, n, c)) {i : Nat} {d : α} (hi : i < n) : l.getD i d = A.getD i d := by
  have e : l.take n = A := h.1
  rw [← e, tk_get hi]
theorem sd_keys {A : MpG} {clk : Nat} {g : Geo} {P : List Pg} {x : Cx} (hg : g.ok) (h : AOK x g P A clk) {y : Sq Int} (hy : SdG (A.map fun e => e.1) y) : Gth (keyL g P) y := by
  obtain ⟨L, h1, h2, h3⟩ := hy
  have : L = keyL g P := rise_one h1 rise_keyL fun k => (h2 k).trans ((h.keys.mem k).trans (mem_keyL hg).symm)
  rw [← this]; exact h3
end Go.Vx
set_option maxRecDepth 100000
namespace Go.Vx
open Go Go.Proofs
variable [Gl]
theorem keyD_len {g : Geo} {P : List Pg} : (keyD g P).length ≤ P.length := by
  unfold keyD kyd
  rw [List.length_map]; exact List.length_filter_le _ _
theorem sloL_len {g : Geo} {f : Int} {P : List Pg} {K : List Int} : (sloL g f P K).length ≤ K.length := by
  unfold sloL
  rw [List.length_map]; exact List.length_filter_le _ _
theorem keyL_len {g : Geo} {P : List Pg} (h : g.ok) : (keyL g P).length ≤ 536871100 := by
  obtain ⟨⟨h1, h2⟩, ⟨h3, h4⟩, h5, h6⟩ := h
  unfold keyL
  refine Nat.le_trans (List.length_filter_le _ _) ?_
  rw [upTo_len]; omega
end Go.Vx
