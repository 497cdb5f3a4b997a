/-
  A symbolic evaluator for the translated code, first part: symbolic values, chunks of memory, the world's relation to them, and the operations that only compute.
  Conditions: none. It speaks of no program in particular.
-/
import Derived.WalkKit
import Derived.Deep.Quiet
namespace Go.Vx
open Go

/-- A bool that is known, or a term. -/
inductive SB where
  | t | f | tm (b : Bool)
def SB.val : SB → Bool
  | .t => true
  | .f => false
  | .tm b => b
def SB.neg : SB → SB
  | .t => .f
  | .f => .t
  | .tm b => .tm (!b)
def SB.lit : Bool → SB
  | true => .t
  | false => .f

/-- Where a chunk lies. -/
structure Ad where
  block : Nat
  base : Nat
  sz : Nat
def Ad.at (d : Ad) (i f : Nat) : Addr := ⟨d.block, d.base + (i * d.sz + f), none⟩

/-- A symbolic value: its shape is written out, its leaves are terms. 'mp c': the map of chunk c. 'junk': whatever value. 'ptr c i f': row i, cell f of chunk c. 'sl c i n m': a slice from row i on, n long, m its capacity. -/
inductive SV where
  | junk
  | undef
  | int (k : IntKind) (n : Int)
  | bool (b : SB)
  | ptr (c i f : Nat)
  | nilp
  | sl (c i n m : Nat)
  | nils
  | agg (vs : List SV)
  | tup (vs : List SV)
  | ifc (t : Nat) (v : SV)
  | nili
  | fn (f : Fn) (first captured : List SV)
  | nilf
  | gp (g : Nat)
  | mp (c : Nat)
  | val (v : Value)
  | cnd (cs : List (Nat × Bool × Bool)) (v : SV)

def holds : List (Nat × Bool × Bool) → Bool
  | [] => true
  | (_, w, b) :: r => (b == w) && holds r

mutual
def SV.va (ad : Nat → Ad) : SV → Value
  | .junk => Go.undef
  | .undef => Go.undef
  | .int k n => .int k n
  | .bool b => .bool b.val
  | .ptr c i f => .pointer (some ((ad c).at i f))
  | .nilp => .pointer none
  | .sl c i n m => .slice (some ((ad c).at i 0)) n m
  | .nils => .slice none 0 0
  | .agg vs => .agg (SV.vas ad vs).toArray
  | .tup vs => .tuple (SV.vas ad vs).toArray
  | .ifc t v => .iface t (SV.va ad v)
  | .nili => .nilIface
  | .fn f a b => .func f (SV.vas ad a).toArray (SV.vas ad b).toArray
  | .nilf => .nilFunc
  | .gp g => .pointer (some ⟨g, 0, none⟩)
  | .mp c => .map (some (ad c).block)
  | .val v => v
  | .cnd cs v => if holds cs then SV.va ad v else Go.undef
def SV.vas (ad : Nat → Ad) : List SV → List Value
  | [] => []
  | v :: r => SV.va ad v :: SV.vas ad r
end

mutual
/-- Names chunks below n alone. -/
def SV.lt (n : Nat) : SV → Bool
  | .ptr c _ _ => Nat.blt c n
  | .sl c _ _ _ => Nat.blt c n
  | .mp c => Nat.blt c n
  | .agg vs => SV.lts n vs
  | .tup vs => SV.lts n vs
  | .ifc _ v => SV.lt n v
  | .fn _ a b => SV.lts n a && SV.lts n b
  | .cnd _ v => SV.lt n v
  | _ => true
def SV.lts (n : Nat) : List SV → Bool
  | [] => true
  | v :: r => SV.lt n v && SV.lts n r
end

mutual
theorem SV.va_congr {n : Nat} {ad ad' : Nat → Ad} (h : ∀ c, c < n → ad c = ad' c) : ∀ v : SV, SV.lt n v = true → SV.va ad v = SV.va ad' v
  | .junk, _ | .undef, _ | .int _ _, _ | .bool _, _ | .nilp, _ | .nils, _ | .nili, _ | .nilf, _ | .gp _, _ | .val _, _ => by simp [SV.va]
  | .ptr c i f, hv => by simp [SV.lt] at hv; simp [SV.va, h c hv]
  | .sl c i f m, hv => by simp [SV.lt] at hv; simp [SV.va, h c hv]
  | .mp c, hv => by simp [SV.lt] at hv; simp [SV.va, h c hv]
  | .agg vs, hv => by simp [SV.lt] at hv; simp [SV.va, SV.vas_congr h vs hv]
  | .tup vs, hv => by simp [SV.lt] at hv; simp [SV.va, SV.vas_congr h vs hv]
  | .ifc t v, hv => by simp [SV.lt] at hv; simp [SV.va, SV.va_congr h v hv]
  | .fn f a b, hv => by simp [SV.lt] at hv; simp [SV.va, SV.vas_congr h a hv.1, SV.vas_congr h b hv.2]
  | .cnd cs v, hv => by simp [SV.lt] at hv; simp [SV.va, SV.va_congr h v hv]
theorem SV.vas_congr {n : Nat} {ad ad' : Nat → Ad} (h : ∀ c, c < n → ad c = ad' c) : ∀ vs : List SV, SV.lts n vs = true → SV.vas ad vs = SV.vas ad' vs
  | [], _ => rfl
  | v :: r, hv => by simp [SV.lts] at hv; simp [SV.vas, SV.va_congr h v hv.1, SV.vas_congr h r hv.2]
end

theorem SV.vas_eq (ad : Nat → Ad) (l : List SV) : SV.vas ad l = l.map (SV.va ad) := by
  induction l with
  | nil => rfl
  | cons v r ih => simp [SV.vas, ih]

/-- A constant as a symbolic value. -/
def SV.atom : Value → SV
  | .int k n => .int k n
  | .bool b => .bool (SB.lit b)
  | .pointer none => .nilp
  | .slice none 0 0 => .nils
  | .nilFunc => .nilf
  | .nilIface => .nili
  | v => .val v
def SV.ofValue : Value → SV
  | .agg cs => .agg (cs.toList.map SV.atom)
  | v => SV.atom v

theorem SB.val_lit (b : Bool) : (SB.lit b).val = b := by cases b <;> rfl
theorem SV.va_atom (ad : Nat → Ad) (v : Value) : (SV.atom v).va ad = v := by
  unfold SV.atom
  split <;> simp [SV.va, SB.val_lit]
theorem SV.va_ofValue (ad : Nat → Ad) (v : Value) : (SV.ofValue v).va ad = v := by
  cases v with
  | agg cs =>
    simp only [SV.ofValue, SV.va, SV.vas_eq, List.map_map]
    congr 1
    apply Array.ext'
    simp [Function.comp_def, SV.va_atom]
  | _ => simp only [SV.ofValue]; exact SV.va_atom ad _

/-- A value that fits one cell. -/
def SV.cell : SV → Bool
  | .int _ _ | .bool _ | .ptr _ _ _ | .nilp | .sl _ _ _ _ | .nils | .ifc _ _ | .nili | .fn _ _ _ | .nilf | .gp _ | .mp _ => true
  | .val (.agg _) | .val (.tuple _) => false
  | .val _ => true
  | _ => false

/-- How the elements of an array are told by a type of one's own. -/
structure Codec where
  α : Type
  dflt : α
  sz : Nat
  enc : α → List SV
  upd : α → Nat → SV → Option α
  len : ∀ x, (enc x).length = sz
  cell : ∀ x, ∀ v ∈ enc x, SV.cell v = true
  flat : ∀ x ad ad', (enc x).map (SV.va ad) = (enc x).map (SV.va ad')
  upd_ok : ∀ ad x f v y, upd x f v = some y → (enc y).map (SV.va ad) = ((enc x).map (SV.va ad)).set f (SV.va ad v)
  /-- What the package-level variable of that number holds; objects that are known to lie as they lay. -/
  gv : Option SV := none
  gpins : List (Nat × Obj) := []
  gflat : ∀ v, gv = some v → ∀ ad ad', SV.va ad v = SV.va ad' v := by intro v h; cases h
  /-- Is it a struct or an array; when are two the same. -/
  agg : Bool := false
  /-- All the cells at once. -/
  whole : List SV → Option α := fun _ => none
  whole_ok : ∀ ad vs y, whole vs = some y → (enc y).map (SV.va ad) = vs.map (SV.va ad) := by intro ad vs y h; cases h
  beq : α → α → Bool := fun _ _ => false

variable (C : Nat → Codec)

/-- What a chunk holds: rows of one element type; cells one by one; a map; an iterator over the map of a chunk, and which entries it has met; nothing that is known. -/
inductive Cells where
  | rows (t : Nat) (l : List (C t).α)
  | one (vs : List SV)
  | mp (tk tv : Nat) (l : List ((C tk).α × (C tv).α × Nat)) (clk : Nat)
  | it (mc : Nat) (seen : List Nat) (clk : Nat)
  | dead

/-- A chunk: where it lies; may it be written; of which global variable it is. -/
structure Ck where
  block : Nat
  base : Nat
  sz : Nat
  wr : Bool
  gl : Option Nat
  cells : Cells C

variable {C}
def Ck.ad (c : Ck C) : Ad := ⟨c.block, c.base, c.sz⟩
def Ck.zero : Ck C := ⟨0, 0, 0, false, Option.none, .dead⟩
def nth (m : List (Ck C)) (c : Nat) : Ck C := match m, c with
  | [], _ => Ck.zero
  | x :: _, 0 => x
  | _ :: r, c + 1 => nth r c
def ads (m : List (Ck C)) (c : Nat) : Ad := (nth m c).ad
def noAd : Nat → Ad := fun _ => ⟨0, 0, 0⟩
/-- One of a codec's things as a value. -/
def packV (c : Codec) (x : c.α) : Value := match c.agg with
  | true => .agg (SV.vas noAd (c.enc x)).toArray
  | false => ((c.enc x).getD 0 .undef).va noAd
/-- A map as an object. -/
def mapObj {tk tv : Nat} (l : List ((C tk).α × (C tv).α × Nat)) (clk : Nat) : Obj := .map (l.map fun e => ⟨packV (C tk) e.1, packV (C tv) e.2.1, e.2.2⟩).toArray clk

/-- A cell holds what a symbolic value says. -/
def cellIs (ad : Nat → Ad) (w : World) (a : Addr) : SV → Prop
  | .junk => ∃ v, w.cell? a = some v
  | v => w.cell? a = some (v.va ad)

/-- The chunk's cells hold what it says. -/
def Ck.ok (ad : Nat → Ad) (w : World) (c : Ck C) : Prop :=
  match c.cells with
  | .rows t l => c.sz = (C t).sz ∧ ∀ i, i < l.length → ∀ f, f < (C t).sz → w.cell? (c.ad.at i f) = some ((((C t).enc (l.getD i (C t).dflt)).getD f .junk).va ad)
  | .one vs => c.sz = vs.length ∧ ∀ f, f < vs.length → cellIs ad w (c.ad.at 0 f) (vs.getD f .junk)
  | .mp _ _ l clk => w.heap[c.block]? = some (mapObj l clk)
  | .it mc seen clk => w.heap[c.block]? = some (.mapIter (some (ad mc).block) clk seen.toArray clk)
  | .dead => True

def Ck.live (c : Ck C) : Bool := match c.cells with | .dead => false | _ => true

/-- Which elder blocks may be written; which objects (that are no cells) lie where, laid by the call itself. -/
structure Sx where
  set : Nat → Prop
  pins : List (Nat × Obj)
/-- What is known beside the chunks: variables of packages, objects that lie as they lay. -/
structure More (S : Sx) (w0 w : World) (m : List (Ck C)) : Prop where
  gv : ∀ g v, (C g).gv = some v → w.cell? ⟨g, 0, none⟩ = some (v.va noAd) ∧ g < w0.heap.size ∧ ¬ S.set g
  gp : ∀ g p, p ∈ (C g).gpins → w.heap[p.1]? = some p.2 ∧ p.1 < w0.heap.size ∧ ¬ S.set p.1
  pin : ∀ p ∈ S.pins, w.heap[p.1]? = some p.2 ∧ w0.heap.size ≤ p.1 ∧ ∀ c ∈ m, c.live = true → c.block ≠ p.1
  nod : (S.pins.map (·.1)).Nodup

/-- The world w, begun at w0, holds what the chunks say; an elder block that is not of S is as it was. -/
structure MemOK (S : Sx) (w0 w : World) (m : List (Ck C)) : Prop where
  os : w.os = w0.os
  tape : w.tape = w0.tape
  output : w.output = w0.output
  size : w0.heap.size ≤ w.heap.size
  keep : ∀ k, k < w0.heap.size → ¬ S.set k → w.heap[k]? = w0.heap[k]?
  inS : ∀ c ∈ m, c.wr = true → c.block < w0.heap.size → S.set c.block
  ok : ∀ c ∈ m, Ck.ok (ads m) w c
  wrok : ∀ c ∈ m, c.wr = true → c.live = true → ∀ a : Addr, a.block = c.block → w.frozen? a = false
  apart : ∀ i j, i < m.length → j < m.length → i ≠ j → (nth m i).wr = true → (nth m i).live = true → (nth m j).live = true → (nth m i).block ≠ (nth m j).block
  lt : ∀ c ∈ m, c.block < w.heap.size
  glob : ∀ c ∈ m, ∀ g, c.gl = some g → c.block = g ∧ c.base = 0
  more : More S w0 w m

theorem heap_size_of {w : World} {k : Nat} {o : Obj} (h : w.heap[k]? = some o) : k < w.heap.size := (Array.getElem?_eq_some_iff.1 h).1
theorem More.mono {S : Sx} {w0 w w' : World} {m m' : List (Ck C)} (h : More S w0 w m) (hin : ∀ c ∈ m, c.wr = true → c.block < w0.heap.size → S.set c.block)
    (hh : ∀ k, k < w.heap.size → (∀ c ∈ m, c.wr = true → c.live = true → c.block ≠ k) → w'.heap[k]? = w.heap[k]?)
    (hb : ∀ c ∈ m', c.live = true → (∃ c0 ∈ m, c0.live = true ∧ c0.block = c.block) ∨ w.heap.size ≤ c.block) (hs : w0.heap.size ≤ w.heap.size) : More S w0 w' m' := by
  have gs : ∀ k, k < w0.heap.size → ¬ S.set k → w'.heap[k]? = w.heap[k]? := by
    intro k hk hn
    refine hh k (by omega) fun c hc hw _ he => ?_
    subst he
    exact hn (hin c hc hw hk)
  refine ⟨fun g v hv => ?_, fun g p hp => ?_, fun p hp => ?_, h.nod⟩
  · obtain ⟨h1, h2, h3⟩ := h.gv g v hv
    exact ⟨(World.cell?_of_block (w := w) (a := ⟨g, 0, none⟩) (gs g h2 h3)).trans h1, h2, h3⟩
  · obtain ⟨h1, h2, h3⟩ := h.gp g p hp
    exact ⟨(gs _ h2 h3).trans h1, h2, h3⟩
  · obtain ⟨h1, h2, h3⟩ := h.pin p hp
    refine ⟨(hh p.1 (heap_size_of h1) fun c hc _ hl => h3 c hc hl).trans h1, h2, fun c hc hl => ?_⟩
    rcases hb c hc hl with ⟨c0, hc0, hl0, he⟩ | hlt
    · rw [← he]; exact h3 c0 hc0 hl0
    · have := heap_size_of h1; omega

/-- One's own arithmetic of integers, as Go has it. -/
def inR (k : IntKind) (n : Int) : Prop := k.wrap n = n
def ibit (op : BinOp) (k : IntKind) (x y : Int) : Int :=
  let a := BitVec.ofInt k.bits x
  let b := BitVec.ofInt k.bits y
  k.wrap (match op with
    | .and => (a &&& b).toNat
    | .or => (a ||| b).toNat
    | .xor => (a ^^^ b).toNat
    | _ => (a &&& ~~~b).toNat : Nat)
def ishl (k : IntKind) (x y : Int) : Int := k.wrap (x * 2 ^ (min y.toNat k.bits))
def ishr (k : IntKind) (x y : Int) : Int := x.fdiv (2 ^ (min y.toNat k.bits))
def srow (m l i : Nat) : Nat := if m = l then i else l + i

def sameKind : IntKind → IntKind → Bool
  | .i8, .i8 | .i16, .i16 | .i32, .i32 | .i64, .i64 | .u8, .u8 | .u16, .u16 | .u32, .u32 | .u64, .u64 => true
  | _, _ => false
theorem sameKind_eq {a b : IntKind} (h : sameKind a b = true) : a = b := by cases a <;> cases b <;> first | rfl | cases h

/-- What an operation that only computes asks, and gives. -/
abbrev Ans := Option (List Prop × SV)

def arith (op : BinOp) (k : IntKind) (x y : Int) : Ans :=
  let r (n : Int) : Ans := if k.signed then some ([inR k n], .int k n) else some ([], .int k (k.wrap n))
  match op with
  | .add => r (x + y)
  | .sub => r (x - y)
  | .mul => r (x * y)
  | .quo => some ([y ≠ 0, inR k (x.tdiv y)], .int k (x.tdiv y))
  | .rem => some ([y ≠ 0], .int k (x.tmod y))
  | .and => some ([], .int k (ibit .and k x y))
  | .or => some ([], .int k (ibit .or k x y))
  | .xor => some ([], .int k (ibit .xor k x y))
  | .andNot => some ([], .int k (ibit .andNot k x y))
  | .eql => some ([], .bool (.tm (decide (x = y))))
  | .neq => some ([], .bool (.tm (decide (x ≠ y))))
  | .lss => some ([], .bool (.tm (decide (x < y))))
  | .leq => some ([], .bool (.tm (decide (x ≤ y))))
  | .gtr => some ([], .bool (.tm (decide (y < x))))
  | .geq => some ([], .bool (.tm (decide (y ≤ x))))
  | _ => none

def isConst : Operand → Bool
  | .const _ => true
  | _ => false

/-- '==' where the outcome is known by the shapes. -/
def eqs (P : Program) (t : TypeId) (cst : Bool) (x y : SV) : Option SB :=
  match P.underlying t with
  | some .bool => match x, y with
    | .bool a, .bool b => some (.tm (a.val == b.val))
    | _, _ => none
  | some (.pointer _) => match x, y with
    | .nilp, .nilp => some .t
    | .nilp, .ptr _ _ _ | .ptr _ _ _, .nilp | .nilp, .gp _ | .gp _, .nilp => some .f
    | _, _ => none
  | some (.slice _) => match x, y with
    | .nils, .nils => some .t
    | .nils, .sl _ _ _ _ | .sl _ _ _ _, .nils => some .f
    | _, _ => none
  | some (.interface _) => match x, y with
    | .nili, .nili => if cst then some .t else none
    | .nili, .ifc _ _ | .ifc _ _, .nili => some .f
    | _, _ => none
  | some (.func _ _ _) => match x, y with
    | .nilf, .nilf => some .t
    | .nilf, .fn _ _ _ | .fn _ _ _, .nilf => some .f
    | _, _ => none
  | _ => none

def bin (P : Program) (op : BinOp) (t : TypeId) (cst : Bool) (x y : SV) : Ans :=
  match x, y with
  | .int k a, .int k' b =>
    match op with
    | .shl => some ([0 ≤ b], .int k (ishl k a b))
    | .shr => some ([0 ≤ b], .int k (ishr k a b))
    | op => if sameKind k k' then arith op k a b else none
  | x, y =>
    match op with
    | .eql => (eqs P t cst x y).map fun b => ([], .bool b)
    | .neq => (eqs P t cst x y).map fun b => ([], .bool b.neg)
    | _ => none

def SV.parts : SV → List SV
  | .agg vs => vs
  | v => [v]
/-- A value whose cells are plain. -/
def SV.plain : SV → Bool
  | .cnd _ _ => false
  | .val (.agg _) => false
  | _ => true

def aggTy (P : Program) (t : TypeId) : Option Bool :=
  match P.underlying t with
  | some (.struct _) | some (.array _ _) => some true
  | some _ => some false
  | none => none

/-- Cells [off, off + n) of a list, as one value of type t. -/
def partOf (P : Program) (t : TypeId) (vs : List SV) (off : Nat) : Option SV :=
  match aggTy P t with
  | some true => if off + P.cellsOf t ≤ vs.length then some (.agg ((vs.drop off).take (P.cellsOf t))) else none
  | some false => vs[off]?
  | none => none

def setParts : List SV → Nat → List SV → List SV
  | vs, _, [] => vs
  | vs, off, p :: ps => setParts (vs.set off p) (off + 1) ps

def fillParts (P : Program) (fs : Array Field) : List SV → List (Nat × SV) → Option (List SV)
  | vs, [] => some vs
  | vs, (i, p) :: r => match fs[i]? with
    | none => none
    | some fd => if p.plain = true ∧ p.parts.length = P.cellsOf fd.type ∧ fd.offset + p.parts.length ≤ vs.length then fillParts P fs (setParts vs fd.offset p.parts) r else none

def optAll {α β : Type} (f : α → Option β) : List α → Option (List β)
  | [] => some []
  | a :: r => match f a, optAll f r with
    | some b, some s => some (b :: s)
    | _, _ => none

/-- Each field's type has a row in the table. -/
def fieldsOk (P : Program) (fs : Array Field) : Bool := fs.toList.all fun fd => (P.info? fd.type).isSome

/-- The operations that only compute: what they ask, and the value. 'sz': the chunks' row sizes; 'ev': the operands. -/
def pev (P : Program) (sz : Nat → Nat) (ev : Operand → Option SV) (o : Op) : Ans :=
  match o with
  | .move x | .assign x => (ev x).map fun v => ([], v)
  | .nilCheck x => match ev x with
    | some (.ptr c i f) => some ([], .ptr c i f)
    | some (.gp g) => some ([], .gp g)
    | some (.fn (.func f) a b) => some ([], .fn (.func f) a b)
    | _ => none
  | .binOp op t x y _ => match ev x, ev y with
    | some a, some b => bin P op t (isConst x || isConst y) a b
    | _, _ => none
  | .unOp .not _ x => match ev x with
    | some (.bool b) => some ([], .bool b.neg)
    | _ => none
  | .unOp .neg _ x => match ev x with
    | some (.int k n) => if k.signed then some ([inR k (0 - n)], .int k (0 - n)) else some ([], .int k (k.wrap (0 - n)))
    | _ => none
  | .unOp .xor _ x => match ev x with
    | some (.int k n) => some ([], .int k (ibit .xor k (if k.signed then -1 else k.max) n))
    | _ => none
  | .fieldAddr s x fld => match P.underlying s, ev x with
    | some (.struct fs), some (.ptr c i f) => match fs[fld]? with
      | some fd => if P.cellsOf fd.type = 0 then none else some ([], .ptr c i (f + fd.offset))
      | none => none
    | _, _ => none
  | .field s x fld => match P.underlying s, ev x with
    | some (.struct fs), some (.agg vs) => match fs[fld]? with
      | some fd => (partOf P fd.type vs fd.offset).map fun v => ([], v)
      | none => none
    | _, _ => none
  | .indexAddr t x ix => match P.underlying t, ev x, ev ix with
    | some (.slice e), some (.sl c i n _), some (.int _ j) => if P.cellsOf e = sz c ∧ P.cellsOf e ≠ 0 then some ([0 ≤ j, j < (n : Int)], .ptr c (j.toNat + i) 0) else none
    | _, _, _ => none
  | .slice t x lo hi none => match P.underlying t, ev x with
    | some (.slice e), some (.sl c i n m) =>
      if P.cellsOf e = sz c ∧ P.cellsOf e ≠ 0 then
        match lo, hi with
        | none, none => some ([], .sl c i n m)
        | none, some h => match ev h with
          | some (.int _ h) => some ([0 ≤ h, h ≤ (m : Int)], .sl c i h.toNat m)
          | _ => none
        | some l, none => match ev l with
          | some (.int _ l) => some ([0 ≤ l, l ≤ (n : Int)], .sl c (srow m l.toNat i) (n - l.toNat) (m - l.toNat))
          | _ => none
        | some l, some h => match ev l, ev h with
          | some (.int _ l), some (.int _ h) => some ([0 ≤ h, h ≤ (m : Int), 0 ≤ l, l ≤ h], .sl c (srow m l.toNat i) (h.toNat - l.toNat) (m - l.toNat))
          | _, _ => none
      else none
    | some (.slice e), some .nils =>
      if P.cellsOf e ≠ 0 then
        match lo, hi with
        | none, none => some ([], .nils)
        | none, some h => match ev h with
          | some (.int _ h) => some ([h = 0], .nils)
          | _ => none
        | some l, none => match ev l with
          | some (.int _ l) => some ([l = 0], .nils)
          | _ => none
        | some l, some h => match ev l, ev h with
          | some (.int _ l), some (.int _ h) => some ([h = 0, l = 0], .nils)
          | _, _ => none
      else none
    | _, _ => none
  | .makeInterface t x => match P.underlying t, ev x with
    | some (.interface _), _ => none
    | some _, some v => some ([], .ifc t v)
    | _, _ => none
  | .makeFunc fn a b => match optAll ev a.toList, optAll ev b.toList with
    | some a, some b => some ([], .fn fn a b)
    | _, _ => none
  | .extract x i => match ev x with
    | some (.tup vs) => vs[i]?.map fun v => ([], v)
    | _ => none
  | .typeAssert x _ t ok => match P.underlying t, ev x with
    | some (.interface _), _ => none
    | some _, some (.ifc u v) => if u = t then some ([], if ok then .tup [v, .bool .t] else v) else
      if ok then (P.info? t).bind fun i => i.zero.map fun z => ([], .tup [SV.ofValue z, .bool .f]) else none
    | some _, some .nili => if ok then (P.info? t).bind fun i => i.zero.map fun z => ([], .tup [SV.ofValue z, .bool .f]) else none
    | _, _ => none
  | .convert s d x => match P.underlying s, P.underlying d, ev x with
    | some _, some (.int k), some (.int _ n) => if k.signed then some ([inR k n], .int k n) else some ([], .int k (k.wrap n))
    | _, _, _ => none
  | .build t ps => match P.underlying t, P.info? t, optAll (fun (p : Nat × Operand) => (ev p.2).map fun v => (p.1, v)) ps.toList with
    | some (.struct fs), some i, some qs => match i.zero with
      | some (.agg z) => if fieldsOk P fs then (fillParts P fs (z.toList.map SV.atom) qs).map fun vs => ([], .agg vs) else none
      | _ => none
    | _, _, _ => none
  | .call c => match c.callee with
    | .builtin .len => match c.argTypes[0]?, c.args[0]? with
      | some t, some x => match P.underlying t, ev x with
        | some (.slice _), some (.sl _ _ n _) => some ([], .int .i64 (n : Int))
        | some (.slice _), some .nils => some ([], .int .i64 0)
        | _, _ => none
      | _, _ => none
    | .builtin .cap => match c.argTypes[0]?, c.args[0]? with
      | some t, some x => match P.underlying t, ev x with
        | some (.slice _), some (.sl _ _ _ m) => some ([], .int .i64 (m : Int))
        | some (.slice _), some .nils => some ([], .int .i64 0)
        | _, _ => none
      | _, _ => none
    | .builtin .min => match c.args.toList with
      | [x, y] => match ev x, ev y with
        | some (.int k a), some (.int k' b) => if sameKind k k' then some ([], .int k (min a b)) else none
        | _, _ => none
      | _ => none
    | .builtin .max => match c.args.toList with
      | [x, y] => match ev x, ev y with
        | some (.int k a), some (.int k' b) => if sameKind k k' then some ([], .int k (max a b)) else none
        | _, _ => none
      | _ => none
    | _ => none
  | _ => none

end Go.Vx
