/-
  Round 20: element types; keys.
  Conditions: none.
-/
import Derived.Test.YtgbgfdmhmahonaaDoorVxU
import Derived.Test.YtgbgfdmhmahonaaDoorVxY
import Derived.Test.YtgbgfdmhmahonaaDoorProg
import Derived.KernelRfl
import Derived.Laws.StructEq
set_option linter.unusedSectionVars false
set_option maxRecDepth 100000
set_option linter.unusedVariables false
set_option linter.unusedSimpArgs false
namespace Go.Vx
open Go Go.Proofs

abbrev cInt (k : IntKind) : Codec where
  α := Int
  dflt := 0
  sz := 1
  enc n := [.int k n]
  upd _ f v := match f, v with
    | 0, .int k' n => if sameKind k k' then some n else none
    | _, _ => none
  len _ := rfl
  cell _ v h := by simp at h; subst h; rfl
  flat _ _ _ := rfl
  upd_ok ad x f v y h := by
    split at h <;> try contradiction
    split at h <;> try contradiction
    rename_i hk
    simp at h; subst h
    simp [SV.va, sameKind_eq hk]
  beq a b := decide (a = b)
abbrev Pl := Int × Int
abbrev cPl : Codec where
  α := Pl
  dflt := (0, 0)
  sz := 2
  enc x := [.int .i64 x.1, .int .i64 x.2]
  upd x f v := match f, v with
    | 0, .int .i64 n => some (n, x.2)
    | 1, .int .i64 n => some (x.1, n)
    | _, _ => none
  whole vs := match vs with
    | [.int .i64 a, .int .i64 b] => some (a, b)
    | _ => none
  whole_ok ad vs y h := by
    split at h <;> try contradiction
    simp only [Option.some.injEq] at h; subst h; rfl
  len _ := rfl
  cell _ v h := by simp at h; rcases h with rfl | rfl <;> rfl
  flat _ _ _ := rfl
  upd_ok ad x f v y h := by
    split at h <;> try contradiction
    all_goals simp at h; subst h; rfl
  agg := true
  beq a b := decide (a.1 = b.1) && decide (a.2 = b.2)
/-- What is said of a page. -/
structure Me where
  kind : Int
  key : Int
  seq : Int
  stamp : Int
  batch : Int
  floor : Int
structure Slot where
  key : Int
  pl : Pl
  me : Me
abbrev me0 : Me := ⟨0, 0, 0, 0, 0, 0⟩
abbrev slot0 : Slot := ⟨0, (0, 0), me0⟩
abbrev meE (m : Me) : List SV := [.int .i64 m.kind, .int .i64 m.key, .int .i64 m.seq, .int .i64 m.stamp, .int .i64 m.batch, .int .i64 m.floor]
abbrev plE (p : Pl) : List SV := [.int .i64 p.1, .int .i64 p.2]
abbrev slotE (x : Slot) : List SV := [.int .i64 x.key, .int .i64 x.pl.1, .int .i64 x.pl.2, .int .i64 x.me.kind, .int .i64 x.me.key, .int .i64 x.me.seq, .int .i64 x.me.stamp, .int .i64 x.me.batch, .int .i64 x.me.floor]
abbrev cSlot : Codec where
  α := Slot
  dflt := slot0
  sz := 9
  enc x := slotE x
  upd x f v := match f, v with
    | 0, .int .i64 n => some ⟨n, x.pl, x.me⟩
    | 1, .int .i64 n => some ⟨x.key, (n, x.pl.2), x.me⟩
    | 2, .int .i64 n => some ⟨x.key, (x.pl.1, n), x.me⟩
    | 3, .int .i64 n => some ⟨x.key, x.pl, ⟨n, x.me.key, x.me.seq, x.me.stamp, x.me.batch, x.me.floor⟩⟩
    | 4, .int .i64 n => some ⟨x.key, x.pl, ⟨x.me.kind, n, x.me.seq, x.me.stamp, x.me.batch, x.me.floor⟩⟩
    | 5, .int .i64 n => some ⟨x.key, x.pl, ⟨x.me.kind, x.me.key, n, x.me.stamp, x.me.batch, x.me.floor⟩⟩
    | 6, .int .i64 n => some ⟨x.key, x.pl, ⟨x.me.kind, x.me.key, x.me.seq, n, x.me.batch, x.me.floor⟩⟩
    | 7, .int .i64 n => some ⟨x.key, x.pl, ⟨x.me.kind, x.me.key, x.me.seq, x.me.stamp, n, x.me.floor⟩⟩
    | 8, .int .i64 n => some ⟨x.key, x.pl, ⟨x.me.kind, x.me.key, x.me.seq, x.me.stamp, x.me.batch, n⟩⟩
    | _, _ => none
  whole vs := match vs with
    | [.int .i64 k, .int .i64 a, .int .i64 b, .int .i64 m1, .int .i64 m2, .int .i64 m3, .int .i64 m4, .int .i64 m5, .int .i64 m6] => some ⟨k, (a, b), ⟨m1, m2, m3, m4, m5, m6⟩⟩
    | _ => none
  whole_ok ad vs y h := by
    split at h <;> try contradiction
    simp only [Option.some.injEq] at h; subst h; rfl
  len _ := rfl
  cell _ v h := by simp [slotE] at h; rcases h with rfl | rfl | rfl | rfl | rfl | rfl | rfl | rfl | rfl <;> rfl
  flat _ _ _ := rfl
  upd_ok ad x f v y h := by
    split at h <;> try contradiction
    all_goals simp at h; subst h; rfl
  agg := true
/-- What a table is told. -/
structure Do where
  key : Int
  pl : Pl
  me : Me
  drop : Bool
abbrev doE (x : Do) : List SV := [.int .i64 x.key, .int .i64 x.pl.1, .int .i64 x.pl.2, .int .i64 x.me.kind, .int .i64 x.me.key, .int .i64 x.me.seq, .int .i64 x.me.stamp, .int .i64 x.me.batch, .int .i64 x.me.floor, .bool (.tm x.drop)]
abbrev cDo : Codec where
  α := Do
  dflt := ⟨0, (0, 0), me0, false⟩
  sz := 10
  enc x := doE x
  upd _ _ _ := none
  len _ := rfl
  cell _ v h := by simp [doE] at h; rcases h with rfl | rfl | rfl | rfl | rfl | rfl | rfl | rfl | rfl | rfl <;> rfl
  flat _ _ _ := rfl
  upd_ok ad x f v y h := by cases h
abbrev cBool : Codec where
  α := Bool
  dflt := false
  sz := 1
  enc b := [.bool (.tm b)]
  upd _ f v := match f, v with
    | 0, .bool s => some s.val
    | _, _ => none
  len _ := rfl
  cell _ v h := by simp at h; subst h; rfl
  flat _ _ _ := rfl
  upd_ok ad x f v y h := by
    split at h <;> try contradiction
    simp at h; subst h
    simp [SV.va, SB.val]
/-- Where the errors lie, and what lies there: by the number of the package's variable. -/
class Gl where
  A : Nat → Addr
  c : Nat → Array Value
  t : Nat → TypeId
  /-- Are all nineteen laid, or the first three. -/
  all : Bool
def errV : Option Addr → Value
  | none => .nilIface
  | some a => .iface 123 (.pointer (some a))
abbrev cErr : Codec where
  α := Option Addr
  dflt := none
  sz := 1
  enc e := [.val (errV e)]
  upd _ f v := match f, v with
    | 0, .nili => some none
    | 0, .ifc 123 (.val (.pointer (some a))) => some (some a)
    | _, _ => none
  len _ := rfl
  cell e v h := by simp at h; subst h; cases e <;> rfl
  flat _ _ _ := rfl
  upd_ok ad x f v y h := by
    split at h <;> try contradiction
    all_goals
      simp at h; subst h
      simp [SV.va, errV]
/-- Is it laid. -/
abbrev glB [Gl] (g : Nat) : Bool := match Nat.blt g 3 with
  | true => true
  | false => match Nat.blt g 19 with
    | true => Gl.all
    | false => false
abbrev glV [Gl] (g : Nat) : Option SV := match glB g with
  | true => some (.ifc 123 (.val (.pointer (some (Gl.A g)))))
  | false => none
abbrev glP [Gl] (g : Nat) : List (Nat × Obj) := match glB g with
  | true => [((Gl.A g).block, .cells (Gl.c g) (Gl.t g) (0, 0))]
  | false => []
theorem glV_flat [Gl] (g : Nat) : ∀ v, glV g = some v → ∀ ad ad', SV.va ad v = SV.va ad' v := by
  intro v h ad ad'
  unfold glV at h
  split at h
  · simp only [Option.some.injEq] at h; subst h; rfl
  · cases h
abbrev cG [Gl] (g : Nat) (c : Codec) : Codec := { c with gv := glV g, gpins := glP g, gflat := glV_flat g }
abbrev C0 [Gl] : Nat → Codec := fun t => match t with
  | 30 => cG 30 cPl
  | 53 => cG 53 cSlot
  | 56 => cG 56 cSlot
  | 48 => cG 48 cDo
  | 4 => cG 4 cBool
  | 26 => cG 26 cErr
  | t => cG t (cInt .i64)
theorem mix : Tryd.prog.follows .mixedOrders = true := by kernel_rfl
theorem inR64 {n : Int} (h1 : -9223372036854775808 ≤ n) (h2 : n ≤ 9223372036854775807) : inR .i64 n := by
  unfold inR IntKind.wrap
  simp [IntKind.bits, IntKind.signed]
  omega
section
variable [Gl]
theorem und3 : Tryd.prog.underlying 3 = some (.int .i64) := by kernel_rfl
theorem und30 : Tryd.prog.underlying 30 = some (.struct (Tryd.prog.fieldsOf 30)) := by kernel_rfl
theorem fields30 : (Tryd.prog.fieldsOf 30).toList.map (fun f => (f.name, f.type, f.offset)) = [("Block", 3, 0), ("Page", 3, 1)] := by kernel_rfl
theorem held30 : Tryd.prog.stoodInHeld 30 = false := by kernel_rfl
theorem check_int {P : Program} {t : TypeId} {k : IntKind} (h : P.underlying t = some (.int k)) (b : Bool) (n : Nat) (x : Int) (w : World) : (Instr.checkKey b (n + 1) t (.int k x)).run P w = .ok () w := by
  simp only [Instr.checkKey, Sem.run_bind, run_underlying' h, Result.andThen_ok, Sem.run_pure]
theorem bits_int (k : IntKind) (n : Nat) (x : Int) : Instr.sameBits n (.int k x) (.int k x) = true := by
  cases n <;> simp [Instr.sameBits]
theorem zero_of {P : Program} {t : TypeId} {z : Value} (h : (P.info? t).map (·.zero) = some (some z)) (w : World) : (zeroValue t).run P w = .ok z w := by
  cases hi : P.info? t with
  | none => rw [hi] at h; cases h
  | some i =>
    rw [hi] at h
    simp only [Option.map_some, Option.some.injEq] at h
    simp [zeroValue, typeInfo, hi, h]
theorem key3 : KeyOK Tryd.prog 3 (C0 3) where
  chk b x w := check_int und3 b 9999 x w
  find d l q w := by
    have h : ∀ (l : List (Ent' (C0 3) d)) (i : Nat), Instr.findNow (.int .i64) (packV (C0 3) q) (l.map (entryOf (C0 3) d)) i = some ((mfix (C0 3) d q l i).map fun p => (p.1, packV d p.2)) := by
      intro l
      induction l with
      | nil => intro i; rfl
      | cons e r ih =>
        intro i
        have hs : Instr.sameNow (.int .i64) (packV (C0 3) q) (entryOf (C0 3) d e).key = some ((C0 3).beq q e.1) := by
          show Instr.sameNow (.int .i64) (.int .i64 q) (.int .i64 e.1) = some (@decide (q = e.1) (Int.instDecidableEq q e.1))
          simp only [Instr.sameNow, if_true]
          exact congrArg some (Bool.eq_iff_iff.2 (by simp))
        simp only [List.map_cons, Instr.findNow, hs, mfix]
        cases (C0 3).beq q e.1
        · exact ih _
        · rfl
    simp only [Instr.findKey, Sem.run_bind, run_underlying' und3, Result.andThen_ok, h]
    rfl
  bits x y h := by
    have e : x = y := @of_decide_eq_true _ (Int.instDecidableEq x y) h
    rw [e]
    exact bits_int .i64 10000 y
theorem zero3 : ZeroIs Tryd.prog 3 (C0 3) := ⟨zero_of (show (Tryd.prog.info? 3).map (·.zero) = some (some (.int .i64 0)) by kernel_rfl)⟩
theorem zero53 : ZeroIs Tryd.prog 53 (C0 53) := ⟨zero_of (show (Tryd.prog.info? 53).map (·.zero) = some (some (.agg #[.int .i64 0, .int .i64 0, .int .i64 0, .int .i64 0, .int .i64 0, .int .i64 0, .int .i64 0, .int .i64 0, .int .i64 0])) by kernel_rfl)⟩
theorem fs30 : ∃ f g : Field, (Tryd.prog.fieldsOf 30) = #[f, g] ∧ (f.name ≠ "_" ∧ f.type = 3 ∧ f.offset = 0) ∧ (g.name ≠ "_" ∧ g.type = 3 ∧ g.offset = 1) := by
  have h := fields30
  generalize Tryd.prog.fieldsOf 30 = F at h
  obtain ⟨F⟩ := F
  have hl := congrArg List.length h
  simp only [List.length_map, List.length_cons, List.length_nil] at hl
  rcases F with _ | ⟨f, _ | ⟨g, _ | ⟨x, r⟩⟩⟩
  · cases hl
  · cases hl
  · simp only [List.map_cons, List.map_nil, List.cons.injEq, Prod.mk.injEq] at h
    obtain ⟨⟨h1, h2, h3⟩, ⟨h4, h5, h6⟩, _⟩ := h
    exact ⟨f, g, rfl, ⟨by rw [h1]; decide, h2, h3⟩, ⟨by rw [h4]; decide, h5, h6⟩⟩
  · simp at hl
theorem part3 (a b : Int) (w : World) : (part 3 #[.int .i64 a, .int .i64 b] 0).run Tryd.prog w = .ok (.int .i64 a) w ∧ (part 3 #[.int .i64 a, .int .i64 b] 1).run Tryd.prog w = .ok (.int .i64 b) w := by
  constructor <;> simp [part, isAgg, run_underlying' und3]
theorem equal30 (a b : Pl) (w : World) : (Op.equal 30 (packV (C0 30) a) (packV (C0 30) b)).run Tryd.prog w = .ok ((C0 30).beq a b) w := by
  show (Op.equalIn (9998 + 1 + 1) 30 (.agg #[.int .i64 a.1, .int .i64 a.2]) (.agg #[.int .i64 b.1, .int .i64 b.2])).run Tryd.prog w = .ok (decide (a.1 = b.1) && decide (a.2 = b.2)) w
  generalize 9998 = n
  rw [run_equalIn_struct w (n + 1) 30 _ _ und30 held30]
  obtain ⟨f, g, hF, ⟨f1, f2, f3⟩, ⟨g1, g2, g3⟩⟩ := fs30
  rw [hF]
  have e1 : (a.1 == b.1) = decide (a.1 = b.1) := Bool.eq_iff_iff.2 (by simp)
  have e2 : (a.2 == b.2) = decide (a.2 = b.2) := Bool.eq_iff_iff.2 (by simp)
  simp only [Op.eqFields, f1, g1, ne_eq, not_false_eq_true, if_true, f2, f3, g2, g3, Sem.run_bind, (part3 _ _ _).1, (part3 _ _ _).2, Result.andThen_ok, run_equalIn_int _ n 3 .i64 .i64 _ _ und3, e1, e2]
  cases decide (a.1 = b.1)
  · rfl
  · simp only [Bool.not_true, Bool.false_eq_true, if_false, Sem.run_bind, (part3 _ _ _).1, (part3 _ _ _).2, Result.andThen_ok, run_equalIn_int _ n 3 .i64 .i64 _ _ und3, e2]
    cases decide (a.2 = b.2) <;> rfl
theorem eq30 : EqOK Tryd.prog 30 (C0 30) := ⟨equal30, by kernel_rfl⟩
theorem key30 : KeyOK Tryd.prog 30 (C0 30) where
  chk b x w := by
    show (Instr.checkKey b (9998 + 1 + 1) 30 (.agg #[.int .i64 x.1, .int .i64 x.2])).run Tryd.prog w = .ok () w
    generalize 9998 = n
    rw [Instr.checkKey]
    simp only [Sem.run_bind, run_underlying' und30, Result.andThen_ok]
    obtain ⟨f, g, hF, ⟨f1, f2, f3⟩, ⟨g1, g2, g3⟩⟩ := fs30
    rw [hF]
    simp only [← Array.forIn_toList, List.forIn_cons, List.forIn_nil, f1, g1, ne_eq, not_false_eq_true, if_true, f2, f3, g2, g3, Sem.run_bind, (part3 _ _ _).1, (part3 _ _ _).2, Result.andThen_ok, check_int und3, Sem.run_pure]
  find d l q w := by
    have key : ∀ (l : List (Ent' (C0 30) d)) (i : Nat), (Instr.findAsking 30 (packV (C0 30) q) (l.map (entryOf (C0 30) d)) i).run Tryd.prog w = .ok ((mfix (C0 30) d q l i).map fun p => (p.1, packV d p.2)) w := by
      intro l
      induction l with
      | nil => intro i; rfl
      | cons e r ih =>
        intro i
        have hs : (Op.equal 30 (packV (C0 30) q) (entryOf (C0 30) d e).key).run Tryd.prog w = .ok ((C0 30).beq q e.1) w := equal30 q e.1 w
        simp only [List.map_cons, Instr.findAsking, Sem.run_bind, hs, Result.andThen_ok, mfix]
        cases (C0 30).beq q e.1
        · exact ih _
        · rfl
    simp only [Instr.findKey, Sem.run_bind, run_underlying' und30, Result.andThen_ok]
    cases l with
    | nil => rfl
    | cons e r =>
      have hn : Instr.findNow (.struct (Tryd.prog.fieldsOf 30)) (packV (C0 30) q) ((e :: r).map (entryOf (C0 30) d)) 0 = none := rfl
      rw [hn]
      exact key (e :: r) 0
  bits x y h := by
    have h : (decide (x.1 = y.1) && decide (x.2 = y.2)) = true := h
    simp only [Bool.and_eq_true, decide_eq_true_eq] at h
    have e : x = y := Prod.ext h.1 h.2
    rw [e]
    show Instr.sameBits (9999 + 1) (.agg #[.int .i64 y.1, .int .i64 y.2]) (.agg #[.int .i64 y.1, .int .i64 y.2]) = true
    generalize 9999 = n
    simp [Instr.sameBits, bits_int]
end
end Go.Vx
