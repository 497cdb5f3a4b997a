/-
  Round 21: element types; how two blocks are compared.
  Conditions: none.
-/
import Derived.Test.YtoiiehjnfdhciaaVxU
import Derived.Test.YtoiiehjnfdhciaaHgA
import Derived.Test.YtoiiehjnfdhciaaProg
import Derived.KernelRfl
set_option maxRecDepth 100000
set_option linter.unusedVariables false
set_option linter.unusedSimpArgs false
namespace Go.Vi
open Go Go.Vx Go.Proofs

abbrev cInt : Codec where
  α := Int
  dflt := 0
  sz := 1
  enc n := [.int .i64 n]
  upd _ f v := match f, v with
    | 0, .int .i64 n => some n
    | _, _ => none
  len _ := rfl
  cell _ v h := by simp at h; subst h; rfl
  flat _ _ _ := rfl
  upd_ok ad x f v y h := by
    split at h <;> try contradiction
    simp at h; subst h; rfl
abbrev cBool : Codec where
  α := Bool
  dflt := false
  sz := 1
  enc b := [.bool (.tm b)]
  upd _ f v := match f, v with
    | 0, .bool s => some s.val
    | _, _ => none
  len _ := rfl
  cell _ v h := by simp at h; subst h; rfl
  flat _ _ _ := rfl
  upd_ok ad x f v y h := by
    split at h <;> try contradiction
    simp at h; subst h
    simp [SV.va, SB.val]
/-- A block: its number, its live pages, its wear, whether it failed. -/
abbrev Blk := Int × Int × Int × Bool
abbrev cBlk : Codec where
  α := Blk
  dflt := (0, 0, 0, false)
  sz := 4
  enc x := [.int .i64 x.1, .int .i64 x.2.1, .int .i64 x.2.2.1, .bool (.tm x.2.2.2)]
  upd x f v := match f, v with
    | 0, .int .i64 n => some (n, x.2)
    | 1, .int .i64 n => some (x.1, n, x.2.2)
    | 2, .int .i64 n => some (x.1, x.2.1, n, x.2.2.2)
    | 3, .bool s => some (x.1, x.2.1, x.2.2.1, s.val)
    | _, _ => none
  len _ := rfl
  cell _ v h := by simp at h; rcases h with rfl | rfl | rfl | rfl <;> rfl
  flat _ _ _ := rfl
  upd_ok ad x f v y h := by
    split at h <;> try contradiction
    all_goals simp at h; subst h; simp [SV.va, SB.val]
/-- A block with its place. -/
abbrev Itm := Blk × Int
abbrev cItm : Codec where
  α := Itm
  dflt := ((0, 0, 0, false), 0)
  sz := 5
  enc x := [.int .i64 x.1.1, .int .i64 x.1.2.1, .int .i64 x.1.2.2.1, .bool (.tm x.1.2.2.2), .int .i64 x.2]
  upd x f v := match f, v with
    | 0, .int .i64 n => some ((n, x.1.2), x.2)
    | 1, .int .i64 n => some ((x.1.1, n, x.1.2.2), x.2)
    | 2, .int .i64 n => some ((x.1.1, x.1.2.1, n, x.1.2.2.2), x.2)
    | 3, .bool s => some ((x.1.1, x.1.2.1, x.1.2.2.1, s.val), x.2)
    | 4, .int .i64 n => some (x.1, n)
    | _, _ => none
  len _ := rfl
  cell _ v h := by simp at h; rcases h with rfl | rfl | rfl | rfl | rfl <;> rfl
  flat _ _ _ := rfl
  upd_ok ad x f v y h := by
    split at h <;> try contradiction
    all_goals simp at h; subst h; simp [SV.va, SB.val]
abbrev C1 : Nat → Codec := fun t => match t with
  | 4 => cBool
  | 27 => cBlk
  | 39 => cBlk
  | 57 => cItm
  | _ => cInt
theorem mix : Try.prog.follows .mixedOrders = true := by kernel_rfl

theorem inR64 {n : Int} (h1 : -9223372036854775808 ≤ n) (h2 : n ≤ 9223372036854775807) : inR .i64 n := by
  unfold inR IntKind.wrap
  simp [IntKind.bits, IntKind.signed]
  omega
/-- A block as a value. -/
abbrev bSV (b : Blk) : SV := .agg [.int .i64 b.1, .int .i64 b.2.1, .int .i64 b.2.2.1, .bool (.tm b.2.2.2)]
abbrev iSV (x : Itm) : SV := .agg [.int .i64 x.1.1, .int .i64 x.1.2.1, .int .i64 x.1.2.2.1, .bool (.tm x.1.2.2.2), .int .i64 x.2]
/-- Read off again. -/
def unB : SV → Option Blk
  | .agg [.int _ a, .int _ b, .int _ c, .bool s] => some (a, b, c, s.val)
  | _ => none
def unI : SV → Option Itm
  | .agg [.int _ a, .int _ b, .int _ c, .bool s, .int _ d] => some ((a, b, c, s.val), d)
  | _ => none

theorem nan_ok (x : Int) : Tells (C := C1) Try.prog (.fn 40) [] [.int .i64 x] (.bool .f) := by
  refine loc_pc (P := Try.prog) (E := ⟨[], [], 6, []⟩) (L := []) mix Try.func40 rfl (by kernel_rfl) (by kernel_rfl) rfl rfl ?_
  ((conv => (arg 1; reduce)); with_reducible repeat' (first | exact Tr.yes_h | refine Tr.and_h ?_ ?_ | refine Tr.imp_h fun _ => ?_ | refine Tr.all_h fun _ => ?_ | refine Tr.lf_h ?_))
  show decide (x ≠ x) = false
  simp
noncomputable def pcNan : Pc Try.prog C1 where
  tg := .fn 40
  X := Int
  args := fun x => [.int .i64 x]
  mem := fun _ => []
  pre _ := True
  res := fun _ => .bool .f
  mat vs m := match vs with
    | [.int _ x] => some (x, [])
    | _ => none
  ok := fun _ _ => nan_ok _

/-- Less: -1, more: 1. -/
def cm (x y : Int) : Int := if x < y then -1 else if y < x then 1 else 0
theorem cmp_ok (x y : Int) : Tells (C := C1) Try.prog (.fn 36) [] [.int .i64 x, .int .i64 y] (.int .i64 (cm x y)) := by
  refine loc_pc (P := Try.prog) (E := ⟨[], [pcNan], 20, []⟩) (L := []) mix Try.func36 rfl (by kernel_rfl) (by kernel_rfl) rfl rfl ?_
  ((conv => (arg 1; reduce)); with_reducible repeat' (first | exact Tr.yes_h | refine Tr.and_h ?_ ?_ | refine Tr.imp_h fun _ => ?_ | refine Tr.all_h fun _ => ?_ | refine Tr.lf_h ?_))
  all_goals try first | (show Region.lexB _ _ = true; kernel_rfl) | (show planned _ _ = true; kernel_rfl) | exact rfl | exact True.intro
  all_goals unfold cm
  · rename_i h; rw [if_pos (of_decide_eq_true h)]
  · rename_i h h'; rw [if_neg (of_decide_eq_false h), if_pos (of_decide_eq_true h')]
  · rename_i h h'; rw [if_neg (of_decide_eq_false h), if_neg (of_decide_eq_false h')]
noncomputable def pcCmp : Pc Try.prog C1 where
  tg := .fn 36
  X := Int × Int
  args := fun (x, y) => [.int .i64 x, .int .i64 y]
  mem := fun _ => []
  pre _ := True
  res := fun (x, y) => .int .i64 (cm x y)
  mat vs m := match vs with
    | [.int _ x, .int _ y] => some ((x, y), [])
    | _ => none
  ok := fun (_, _) _ => cmp_ok _ _

/-- The first one that is not 0. -/
def orv : List Int → Int
  | [] => 0
  | x :: r => if x = 0 then orv r else x
theorem orv_take {l : List Int} {i n : Nat} (hn : n ≤ l.length) (hi : i < n) (hz : ∀ k, k < i → l.getD k 0 = 0) (h : l.getD i 0 ≠ 0) : orv (l.take n) = l.getD i 0 := by
  induction l generalizing i n with
  | nil => simp at hn; omega
  | cons x r ih =>
    cases n with
    | zero => omega
    | succ n =>
      cases i with
      | zero => simp only [List.take_succ_cons, orv]; rw [if_neg (by simpa using h)]; rfl
      | succ i =>
        simp only [List.take_succ_cons, orv]
        rw [if_pos (by simpa using hz 0 (by omega))]
        exact ih (by simpa using hn) (by omega) (fun k hk => by simpa using hz (k + 1) (by omega)) (by simpa using h)
theorem orv_zero {l : List Int} {n : Nat} (hn : n ≤ l.length) (hz : ∀ k, k < n → l.getD k 0 = 0) : orv (l.take n) = 0 := by
  induction l generalizing n with
  | nil => simp [orv]
  | cons x r ih =>
    cases n with
    | zero => rfl
    | succ n =>
      simp only [List.take_succ_cons, orv]
      rw [if_pos (by simpa using hz 0 (by omega))]
      exact ih (by simpa using hn) (fun k hk => by simpa using hz (k + 1) (by omega))
theorem or_ok (b q : Nat) (l : List Int) (n m : Nat) (hn : n ≤ l.length) (hb : n < 1048576) : Tells (C := C1) Try.prog (.fn 35) [⟨b, q, 1, false, none, .rows 3 l⟩] [.sl 0 0 n m] (.int .i64 (orv (l.take n))) := by
  refine loc_pc (P := Try.prog) (E := ⟨[], [], 18, []⟩) (L := [⟨3, Nat, fun i => [(8, .int .i64 i)], fun _ m => m, fun i => i ≤ n ∧ ∀ k, k < i → l.getD k 0 = 0, fun i => n - i⟩]) mix Try.func35 rfl (by kernel_rfl) (by kernel_rfl) rfl rfl ?_
  ((conv => (arg 1; reduce)); with_reducible repeat' (first | exact Tr.yes_h | refine Tr.and_h ?_ ?_ | refine Tr.imp_h fun _ => ?_ | refine Tr.all_h fun _ => ?_ | refine Tr.lf_h ?_))
  all_goals try first | (show Region.lexB _ _ = true; kernel_rfl) | (show planned _ _ = true; kernel_rfl) | exact rfl | exact True.intro
  · refine Stands.one 0 ⟨⟨Nat.zero_le _, fun k hk => by omega⟩, ?_⟩
    ((conv => (arg 1; reduce)); with_reducible repeat' (first | exact Tr.yes_h | refine Tr.and_h ?_ ?_ | refine Tr.imp_h fun _ => ?_ | refine Tr.all_h fun _ => ?_ | refine Tr.lf_h ?_))
    all_goals (first | first | (show Region.lexB _ _ = true; kernel_rfl) | (show planned _ _ = true; kernel_rfl) | exact rfl | exact True.intro | ((try dsimp only [imp, C1, cBlk, cItm] at *); (try refine inR64 ?_ ?_) <;> (try simp only [List.length_set, List.length_append, List.length_take, List.length_drop]) <;> omega))
  all_goals try (rename_i i hi hc; obtain ⟨h1, h2⟩ := hi; ((try simp only [decide_eq_true_eq, decide_eq_false_iff_not, Bool.and_eq_true, Bool.or_eq_true, Bool.or_eq_false_iff, Bool.and_eq_false_iff, Bool.not_eq_true', Bool.not_eq_false', SB.val] at *); (try dsimp only [imp, C1, cBlk, cItm] at *); (try refine inR64 ?_ ?_) <;> (try simp only [List.length_set, List.length_append, List.length_take, List.length_drop, List.length_replicate]) <;> omega); done)
  · rename_i i hi hc hd
    obtain ⟨h1, h2⟩ := hi
    have hc := of_decide_eq_true hc
    have hd : l.getD i 0 ≠ 0 := of_decide_eq_true hd
    exact (orv_take hn (by omega) h2 hd).symm
  · rename_i i hi hc hd
    have hc := of_decide_eq_true hc
    exact inR64 (by omega) (by omega)
  · rename_i i hi hc hd
    obtain ⟨h1, h2⟩ := hi
    have hc := of_decide_eq_true hc
    have hd : ¬ l.getD i 0 ≠ 0 := of_decide_eq_false hd
    refine Stands.one (i + 1) ⟨⟨by omega, fun k hk => ?_⟩, ?_, ?_⟩
    · by_cases e : k = i
      · rw [e]; exact Decidable.not_not.1 hd
      · exact h2 k (by omega)
    · show n - (i + 1) < n - i; omega
    · ((conv => (arg 1; reduce)); with_reducible repeat' (first | exact Tr.yes_h | refine Tr.and_h ?_ ?_ | refine Tr.imp_h fun _ => ?_ | refine Tr.all_h fun _ => ?_ | refine Tr.lf_h ?_))
      all_goals (first | first | (show Region.lexB _ _ = true; kernel_rfl) | (show planned _ _ = true; kernel_rfl) | exact rfl | exact True.intro | ((try dsimp only [imp, C1, cBlk, cItm] at *); (try refine inR64 ?_ ?_) <;> (try simp only [List.length_set, List.length_append, List.length_take, List.length_drop]) <;> omega))
  · rename_i i hi hc
    obtain ⟨h1, h2⟩ := hi
    have hc := of_decide_eq_false hc
    exact (orv_zero hn fun k hk => h2 k (by omega)).symm
noncomputable def pcOr : Pc Try.prog C1 where
  tg := .fn 35
  X := Nat × Nat × List Int × Nat × Nat
  args := fun (_, _, _, n, m) => [.sl 0 0 n m]
  mem := fun (b, q, l, _, _) => [⟨b, q, 1, false, none, .rows 3 l⟩]
  pre := fun (_, _, l, n, _) => n ≤ l.length ∧ n < 1048576
  res := fun (_, _, l, n, _) => .int .i64 (orv (l.take n))
  mat vs m := match vs with
    | [.sl k _ n c] => match nth m k with
      | ⟨b, q, _, _, _, .rows 3 l⟩ => some ((b, q, l, n, c), [k])
      | _ => none
    | _ => none
  ok := fun (_, _, _, _, _) h => or_ok _ _ _ _ _ h.1 h.2

/-- Failed ones first. -/
def fst1 (b : Blk) : Int := if b.2.2.2 = true then 0 else 1
theorem fst_ok (b : Blk) : Tells (C := C1) Try.prog (.fn 37) [] [bSV b] (.int .i64 (fst1 b)) := by
  refine loc_pc (P := Try.prog) (E := ⟨[], [], 5, []⟩) (L := []) mix Try.func37 rfl (by kernel_rfl) (by kernel_rfl) rfl rfl ?_
  ((conv => (arg 1; reduce)); with_reducible repeat' (first | exact Tr.yes_h | refine Tr.and_h ?_ ?_ | refine Tr.imp_h fun _ => ?_ | refine Tr.all_h fun _ => ?_ | refine Tr.lf_h ?_))
  all_goals try first | (show Region.lexB _ _ = true; kernel_rfl) | (show planned _ _ = true; kernel_rfl) | exact rfl | exact True.intro
  · rename_i bx h
    have h : b.2.2.2 = true := h
    unfold fst1; rw [if_pos h]
  · rename_i bx h
    have h : b.2.2.2 = false := h
    unfold fst1; rw [h]; rfl
noncomputable def pcFst : Pc Try.prog C1 where
  tg := .fn 37
  X := Blk
  args := fun b => [bSV b]
  mem := fun _ => []
  pre _ := True
  res := fun b => .int .i64 (fst1 b)
  mat vs m := match vs with
    | [v] => (unB v).map fun b => (b, [])
    | _ => none
  ok := fun _ _ => fst_ok _

/-- How two blocks stand: less than 0: the first one ahead. -/
def ag (a b : Blk) : Int := orv [cm (fst1 a) (fst1 b), cm a.2.1 b.2.1, cm a.2.2.1 b.2.2.1, cm a.1 b.1]
theorem against_ok (a b : Blk) : Tells (C := C1) Try.prog (.fn 19) [] [bSV a, bSV b] (.int .i64 (ag a b)) := by
  refine loc_pc (P := Try.prog) (E := ⟨[], [pcFst, pcCmp, pcOr], 27, [(1, [], [.p 5, .p 7, .p 10, .p 12, .p 15, .p 17, .q 0, .q 2, .q 6, .q 8, .q 11, .q 13, .q 16, .q 18, .q 1, .q 3, .q 4, .q 9, .q 14, .q 19, .e 20, .q 21, .p 22])]⟩) (L := []) mix Try.func19 rfl (by kernel_rfl) (by kernel_rfl) rfl rfl ?_
  ((conv => (arg 1; reduce)); with_reducible repeat' (first | exact Tr.yes_h | refine Tr.and_h ?_ ?_ | refine Tr.imp_h fun _ => ?_ | refine Tr.all_h fun _ => ?_ | refine Tr.lf_h ?_))
  all_goals try first | (show Region.lexB _ _ = true; kernel_rfl) | (show planned _ _ = true; kernel_rfl) | exact rfl | exact True.intro
  · exact ⟨by simp, by decide⟩
noncomputable def pcAg : Pc Try.prog C1 where
  tg := .fn 19
  X := Blk × Blk
  args := fun (a, b) => [bSV a, bSV b]
  mem := fun _ => []
  pre _ := True
  res := fun (a, b) => .int .i64 (ag a b)
  mat vs m := match vs with
    | [v, u] => match unB v, unB u with
      | some a, some b => some ((a, b), [])
      | _, _ => none
    | _ => none
  ok := fun (_, _) _ => against_ok _ _

/-- The queue's order: of blocks that stand alike, the one that stood ahead. -/
def lessI (a b : Itm) : Bool := decide (ag a.1 b.1 < 0) || (decide (ag a.1 b.1 = 0) && decide (a.2 < b.2))
/-- The comparison as a value. -/
abbrev agSV : SV := .fn (.func 19) [] []
abbrev lsSV : SV := .fn (.func 20) [.agg [agSV]] []
theorem lessI_ok (a b : Itm) : Tells (C := C1) Try.prog (.fn 20) [] [.agg [agSV], iSV a, iSV b] (.bool (.tm (lessI a b))) := by
  refine loc_pc (P := Try.prog) (E := ⟨[], [pcAg], 28, []⟩) (L := []) mix Try.func20 rfl (by kernel_rfl) (by kernel_rfl) rfl rfl ?_
  ((conv => (arg 1; reduce)); with_reducible repeat' (first | exact Tr.yes_h | refine Tr.and_h ?_ ?_ | refine Tr.imp_h fun _ => ?_ | refine Tr.all_h fun _ => ?_ | refine Tr.lf_h ?_))
  all_goals try first | (show Region.lexB _ _ = true; kernel_rfl) | (show planned _ _ = true; kernel_rfl) | exact rfl | exact True.intro
noncomputable def pcLs : Pc Try.prog C1 where
  tg := .fn 20
  X := Itm × Itm
  args := fun (a, b) => [.agg [agSV], iSV a, iSV b]
  mem := fun _ => []
  pre _ := True
  res := fun (a, b) => .bool (.tm (lessI a b))
  mat vs m := match vs with
    | [_, v, u] => match unI v, unI u with
      | some a, some b => some ((a, b), [])
      | _, _ => none
    | _ => none
  ok := fun (_, _) _ => lessI_ok _ _

/-! The order is one: failed first, then live, worn, number, place. -/
theorem cm_lt {x y : Int} : cm x y < 0 ↔ x < y := by unfold cm; split <;> (try split) <;> omega
theorem cm_eq {x y : Int} : cm x y = 0 ↔ x = y := by unfold cm; split <;> (try split) <;> omega
theorem cm_gt {x y : Int} : 0 < cm x y ↔ y < x := by unfold cm; split <;> (try split) <;> omega
/-- Of numbers, first to last. -/
def lexI : List (Int × Int) → Int
  | [] => 0
  | (x, y) :: r => if x < y then -1 else if y < x then 1 else lexI r
theorem orv_lex : ∀ l : List (Int × Int), orv (l.map fun p => cm p.1 p.2) = lexI l
  | [] => rfl
  | (x, y) :: r => by
    simp only [List.map_cons, orv, lexI, orv_lex r]
    unfold cm
    split
    · simp
    · split <;> simp
def key (b : Blk) : Int × Int × Int × Int := (fst1 b, b.2.1, b.2.2.1, b.1)
theorem ag_eq (a b : Blk) : ag a b = lexI [(fst1 a, fst1 b), (a.2.1, b.2.1), (a.2.2.1, b.2.2.1), (a.1, b.1)] := orv_lex [(fst1 a, fst1 b), (a.2.1, b.2.1), (a.2.2.1, b.2.2.1), (a.1, b.1)]
theorem lessI_t {a b : Itm} : lessI a b = true ↔
    fst1 a.1 < fst1 b.1 ∨ (fst1 a.1 = fst1 b.1 ∧ (a.1.2.1 < b.1.2.1 ∨ (a.1.2.1 = b.1.2.1 ∧ (a.1.2.2.1 < b.1.2.2.1 ∨ (a.1.2.2.1 = b.1.2.2.1 ∧ (a.1.1 < b.1.1 ∨ (a.1.1 = b.1.1 ∧ a.2 < b.2))))))) := by
  have h0 : lessI a b = true ↔ ag a.1 b.1 < 0 ∨ (ag a.1 b.1 = 0 ∧ a.2 < b.2) := by simp [lessI]
  rw [h0, ag_eq]
  simp only [lexI]
  constructor
  · intro h
    repeat' (split at h)
    all_goals omega
  · intro h
    rcases h with h | ⟨h, h1⟩
    · rw [if_pos h]; exact .inl (by decide)
    · rw [if_neg (by omega), if_neg (by omega)]
      rcases h1 with h1 | ⟨h1, h2⟩
      · rw [if_pos h1]; exact .inl (by decide)
      · rw [if_neg (by omega), if_neg (by omega)]
        rcases h2 with h2 | ⟨h2, h3⟩
        · rw [if_pos h2]; exact .inl (by decide)
        · rw [if_neg (by omega), if_neg (by omega)]
          rcases h3 with h3 | ⟨h3, h4⟩
          · rw [if_pos h3]; exact .inl (by decide)
          · rw [if_neg (by omega), if_neg (by omega)]; exact .inr ⟨rfl, h4⟩
theorem ordI : Hg.Ord lessI where
  asym h := by
    rename_i a b
    cases hb : lessI b a with
    | false => rfl
    | true => rw [lessI_t] at h hb; omega
  tr h h' := by
    rename_i a b c
    cases hb : lessI c a with
    | false => rfl
    | true =>
      have h1 : ¬ lessI b a = true := by rw [h]; decide
      have h2 : ¬ lessI c b = true := by rw [h']; decide
      rw [lessI_t] at hb h1 h2
      exfalso
      omega
end Go.Vi
