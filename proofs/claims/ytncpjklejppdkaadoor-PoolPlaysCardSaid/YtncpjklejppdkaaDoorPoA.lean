/-
  Round 17: element types; who comes ahead; the heap's methods.
  Conditions: none.
-/
import Derived.Test.YtncpjklejppdkaaDoorVxS
import Derived.Test.YtncpjklejppdkaaDoorProg
import Derived.KernelRfl
set_option linter.unusedSectionVars false
set_option maxRecDepth 100000
set_option linter.unusedVariables false
set_option linter.unusedSimpArgs false
namespace Go.Vx
open Go Go.Proofs

abbrev cInt (k : IntKind) : Codec where
  α := Int
  dflt := 0
  sz := 1
  enc n := [.int k n]
  upd _ f v := match f, v with
    | 0, .int k' n => if sameKind k k' then some n else none
    | _, _ => none
  len _ := rfl
  cell _ v h := by simp at h; subst h; rfl
  flat _ _ _ := rfl
  upd_ok ad x f v y h := by
    split at h <;> try contradiction
    split at h <;> try contradiction
    rename_i hk
    simp at h; subst h
    simp [SV.va, sameKind_eq hk]
abbrev cInt2 : Codec where
  α := Int × Int
  dflt := (0, 0)
  sz := 2
  enc x := [.int .i64 x.1, .int .i64 x.2]
  upd x f v := match f, v with
    | 0, .int .i64 n => some (n, x.2)
    | 1, .int .i64 n => some (x.1, n)
    | _, _ => none
  len _ := rfl
  cell _ v h := by simp at h; rcases h with rfl | rfl <;> rfl
  flat _ _ _ := rfl
  upd_ok ad x f v y h := by
    split at h <;> try contradiction
    all_goals simp at h; subst h; rfl

abbrev cInt3 : Codec where
  α := Int × Int × Int
  dflt := (0, 0, 0)
  sz := 3
  enc x := [.int .i64 x.1, .int .i64 x.2.1, .int .i64 x.2.2]
  upd x f v := match f, v with
    | 0, .int .i64 n => some (n, x.2)
    | 1, .int .i64 n => some (x.1, n, x.2.2)
    | 2, .int .i64 n => some (x.1, x.2.1, n)
    | _, _ => none
  len _ := rfl
  cell _ v h := by simp at h; rcases h with rfl | rfl | rfl <;> rfl
  flat _ _ _ := rfl
  upd_ok ad x f v y h := by
    split at h <;> try contradiction
    all_goals simp at h; subst h; rfl
abbrev cBool : Codec where
  α := Bool
  dflt := false
  sz := 1
  enc b := [.bool (.tm b)]
  upd _ f v := match f, v with
    | 0, .bool s => some s.val
    | _, _ => none
  len _ := rfl
  cell _ v h := by simp at h; subst h; rfl
  flat _ _ _ := rfl
  upd_ok ad x f v y h := by
    split at h <;> try contradiction
    simp at h; subst h
    simp [SV.va, SB.val]
/-- Where the errors lie, and what lies there: by the number of the package's variable. -/
class Gl where
  A : Nat → Addr
  c : Nat → Array Value
  t : Nat → TypeId
def errV : Option Addr → Value
  | none => .nilIface
  | some a => .iface 94 (.pointer (some a))
abbrev cErr : Codec where
  α := Option Addr
  dflt := none
  sz := 1
  enc e := [.val (errV e)]
  upd _ f v := match f, v with
    | 0, .nili => some none
    | 0, .ifc 94 (.val (.pointer (some a))) => some (some a)
    | _, _ => none
  len _ := rfl
  cell e v h := by simp at h; subst h; cases e <;> rfl
  flat _ _ _ := rfl
  upd_ok ad x f v y h := by
    split at h <;> try contradiction
    all_goals
      simp at h; subst h
      simp [SV.va, errV]
abbrev glV [Gl] (g : Nat) : Option SV := match Nat.blt g 19 with
  | true => some (.ifc 94 (.val (.pointer (some (Gl.A g)))))
  | false => none
abbrev glP [Gl] (g : Nat) : List (Nat × Obj) := match Nat.blt g 19 with
  | true => [((Gl.A g).block, .cells (Gl.c g) (Gl.t g) (0, 0))]
  | false => []
theorem glV_flat [Gl] (g : Nat) : ∀ v, glV g = some v → ∀ ad ad', SV.va ad v = SV.va ad' v := by
  intro v h ad ad'
  unfold glV at h
  split at h
  · simp only [Option.some.injEq] at h; subst h; rfl
  · cases h
abbrev cG [Gl] (g : Nat) (c : Codec) : Codec := { c with gv := glV g, gpins := glP g, gflat := glV_flat g }
abbrev C0 [Gl] : Nat → Codec := fun t => match t with
  | 60 => cG 60 cInt2
  | 46 => cG 46 cInt2
  | 42 => cG 42 cInt3
  | 4 => cG 4 cBool
  | 27 => cG 27 cErr
  | t => cG t (cInt .i64)
variable [Gl]
theorem mix : Tryd.prog.follows .mixedOrders = true := by kernel_rfl

abbrev Ent := Int × Int
def bef (a b : Ent) : Bool := decide (a.2 < b.2) || decide (a.2 = b.2) && decide (a.1 < b.1)


theorem inR64 {n : Int} (h1 : -9223372036854775808 ≤ n) (h2 : n ≤ 9223372036854775807) : inR .i64 n := by
  unfold inR IntKind.wrap
  simp [IntKind.bits, IntKind.signed]
  omega
theorem before_ok (a b : Ent) : Tells (C := C0) Tryd.prog (.fn 66) [] [.agg [.int .i64 a.1, .int .i64 a.2], .agg [.int .i64 b.1, .int .i64 b.2]] (.bool (.tm (bef a b))) := by
  refine loc_pc (P := Tryd.prog) (E := ⟨[], [], 24, []⟩) (L := []) mix Tryd.func66 rfl (by kernel_rfl) (by kernel_rfl) rfl rfl ?_
  ((conv => (arg 1; reduce)); with_reducible repeat' (first | exact Tr.yes_h | refine Tr.and_h ?_ ?_ | refine Tr.imp_h fun _ => ?_ | refine Tr.all_h fun _ => ?_ | refine Tr.lf_h ?_))
  all_goals (first | first | (show Region.lexB _ _ = true; kernel_rfl) | (show planned _ _ = true; kernel_rfl) | exact rfl | exact True.intro | ((try dsimp only [imp, C0, cG, cInt2] at *); (try refine inR64 ?_ ?_) <;> (try simp only [List.length_set, List.length_append, List.length_take, List.length_drop]) <;> omega))

def pcBefore : Pc Tryd.prog C0 where
  tg := .fn 66
  X := Ent × Ent
  args x := [.agg [.int .i64 x.1.1, .int .i64 x.1.2], .agg [.int .i64 x.2.1, .int .i64 x.2.2]]
  mem _ := []
  pre _ := True
  res x := .bool (.tm (bef x.1 x.2))
  mat vs _ := match vs with
    | [.agg [.int _ a, .int _ b], .agg [.int _ c, .int _ d]] => some (((a, b), (c, d)), [])
    | _ => none
  ok x _ := before_ok x.1 x.2

theorem less_ok (b base : Nat) (l : List Ent) (n m : Nat) (i j : Int) (hi : 0 ≤ i) (hin : i < n) (hj : 0 ≤ j) (hjn : j < n) (hn : n ≤ l.length) :
    Tells (C := C0) Tryd.prog (.fn 64) [⟨b, base, 2, false, none, .rows 60 l⟩] [.sl 0 0 n m, .int .i64 i, .int .i64 j]
     (.bool (.tm (bef (l.getD i.toNat (0,0)) (l.getD j.toNat (0,0))))) := by
  refine loc_pc (P := Tryd.prog) (E := ⟨[], [pcBefore], 16, []⟩) (L := []) mix Tryd.func64 rfl (by kernel_rfl) (by kernel_rfl) rfl rfl ?_
  ((conv => (arg 1; reduce)); with_reducible repeat' (first | exact Tr.yes_h | refine Tr.and_h ?_ ?_ | refine Tr.imp_h fun _ => ?_ | refine Tr.all_h fun _ => ?_ | refine Tr.lf_h ?_))
  all_goals (first | first | (show Region.lexB _ _ = true; kernel_rfl) | (show planned _ _ = true; kernel_rfl) | exact rfl | exact True.intro | ((try dsimp only [imp, C0, cG, cInt2] at *); (try refine inR64 ?_ ?_) <;> (try simp only [List.length_set, List.length_append, List.length_take, List.length_drop]) <;> omega))

def swp (l : List Ent) (i j : Nat) : List Ent := (l.set i (l.getD j (0, 0))).set j (l.getD i (0, 0))

theorem swap_ok (b base : Nat) (l : List Ent) (n m : Nat) (i j : Int) (hi : 0 ≤ i) (hin : i < n) (hj : 0 ≤ j) (hjn : j < n) (hn : n ≤ l.length) :
    Does (C := C0) Tryd.prog (.fn 65) [⟨b, base, 2, true, none, .rows 60 l⟩] [.sl 0 0 n m, .int .i64 i, .int .i64 j]
     [⟨Unit, fun _ => True, fun _ => .tup [], fun _ => [⟨b, base, 2, true, none, .rows 60 (swp l i.toNat j.toNat)⟩]⟩] := by
  refine loc_fn (P := Tryd.prog) (E := ⟨[], [pcBefore], 20, [(0, [], [.p 0, .p 1, .p 2, .p 3, .p 4, .p 5, .p 6, .p 8, .p 9, .p 10, .q 7, .q 11, .p 12, .e 13, .p 14, .e 15])]⟩) (L := []) mix Tryd.func65 rfl (by kernel_rfl) (by kernel_rfl) rfl rfl ?_
  ((conv => (arg 1; reduce)); with_reducible repeat' (first | exact Tr.yes_h | refine Tr.and_h ?_ ?_ | refine Tr.imp_h fun _ => ?_ | refine Tr.all_h fun _ => ?_ | refine Tr.lf_h ?_))
  all_goals try (first | first | (show Region.lexB _ _ = true; kernel_rfl) | (show planned _ _ = true; kernel_rfl) | exact rfl | exact True.intro | ((try dsimp only [imp, C0, cG, cInt2] at *); (try refine inR64 ?_ ?_) <;> (try simp only [List.length_set, List.length_append, List.length_take, List.length_drop]) <;> omega))
  refine Ends.one () trivial ?_
  ((conv => (arg 1; reduce)); with_reducible repeat' (first | exact Tr.yes_h | refine Tr.and_h ?_ ?_ | refine Tr.imp_h fun _ => ?_ | refine Tr.all_h fun _ => ?_ | refine Tr.lf_h ?_))
  all_goals (first | first | (show Region.lexB _ _ = true; kernel_rfl) | (show planned _ _ = true; kernel_rfl) | exact rfl | exact True.intro | ((try dsimp only [imp, C0, cG, cInt2] at *); (try refine inR64 ?_ ?_) <;> (try simp only [List.length_set, List.length_append, List.length_take, List.length_drop]) <;> omega))
end Go.Vx
