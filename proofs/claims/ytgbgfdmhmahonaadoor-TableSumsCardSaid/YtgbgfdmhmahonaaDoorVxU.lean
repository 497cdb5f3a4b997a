/-
  The symbolic evaluator, nineteenth part: from a contract to a law's own call.
  Conditions: none.
-/
import Derived.Test.YtgbgfdmhmahonaaDoorVxS
import Derived.Below
set_option linter.unusedVariables false
namespace Go.Vx
open Go Go.RowKit
variable {C : Nat → Codec}

/-- Where no variable of a package is known. -/
theorem More.bare {w : World} {mem : List (Ck C)} (h1 : ∀ g, (C g).gv = none) (h2 : ∀ g, (C g).gpins = []) : More (wrS mem) w w mem where
  gv g v h := by rw [h1] at h; cases h
  gp g p h := by rw [h2] at h; cases h
  pin p h := by cases h
  nod := List.nodup_nil
/-- Chunks that are only read. -/
theorem memRo {w : World} {mem : List (Ck C)} (hnw : noWr mem = true) (hok : ∀ c ∈ mem, Ck.ok (ads mem) w c) (hlt : ∀ c ∈ mem, c.block < w.heap.size) (hgl : ∀ c ∈ mem, c.gl = none) (hmore : More (wrS mem) w w mem) : MemOK (wrS mem) w w mem where
  more := hmore
  os := rfl
  tape := rfl
  output := rfl
  size := Nat.le_refl _
  keep _ _ _ := rfl
  inS c hc hw _ := ⟨c, hc, hw, rfl⟩
  ok := hok
  wrok c hc hw := by rw [noWr_ok hnw c hc] at hw; cases hw
  apart i j hi _ _ hw := by rw [noWr_ok hnw _ (nth_mem hi)] at hw; cases hw
  lt := hlt
  glob c hc g hg := by rw [hgl c hc] at hg; cases hg

/-- A function that only tells something, called with chunks that are only read: it turns nothing that was there. -/
theorem Tells.calls {P : Program} {f : FuncId} {fn : Func} {c : Code} (hf : P.funcs[f]? = some fn) (hb : fn.body = some c) (hname : (fn.name == "runtime.NumGoroutine") = false) {mem : List (Ck C)} {args : List SV} {res : SV}
    (h : Tells P (.fn f) mem args res) (hnw : noWr mem = true) {w : World} (hm : MemOK (wrS mem) w w mem) :
    Calls P f (SV.vas (ads mem) args).toArray w fun e w' => e = .returned (res.va (ads mem)) ∧ Below w.heap.size w w' := by
  obtain ⟨f', vals, hr, hc⟩ := h w hm
  rw [show tgSem (.fn f) (SV.vas (ads mem) args).toArray = callFunc f (SV.vas (ads mem) args).toArray from rfl, run_callFunc hf hb hname] at hr
  simp only [Result.ok.injEq, Next.enter.injEq, and_true] at hr
  obtain ⟨rfl, rfl⟩ := hr
  refine hc.mono ?_
  rintro e w' ⟨r, m', rfl, hm', _, rfl, rfl⟩
  refine ⟨rfl, hm'.os, hm'.tape, hm'.output, hm'.size, fun k hk => hm'.keep k hk ?_⟩
  rintro ⟨c, hc, hw, _⟩
  rw [noWr_ok hnw c hc] at hw; cases hw

/-- What is known of an address of a slice that came in. -/
theorem okWide_at {P : Program} {w : World} {r : Reach} {base : Nat} {t e : TypeId} {a : Addr} {len cap : Nat} (ht : P.underlying t = some (.slice e)) (h : Value.okWide P w r base t (.slice (some a) len cap)) : a.spot = none ∧ a.block < w.heap.size := by
  simp only [Value.okWide, ht, Cell.okWide, Cell.ok, World.has] at h
  obtain ⟨_, _, _, h1, row, cells, h2, _⟩ := h
  refine ⟨h1, ?_⟩
  unfold World.shape? at h2
  cases hb : w.heap[a.block]? with
  | none => simp [hb] at h2
  | some o => exact (Array.getElem?_eq_some_iff.1 hb).1

/-- Integers in a row. -/
theorem intRow_ok {ad : Nat → Ad} {w : World} {t : Nat} {k : IntKind} {x : Addr} {l : List Int} {wr : Bool} {gl : Option Nat} (hx : x.spot = none) (hc : ∀ i, i < l.length → w.cell? (x.add i) = some (.int k (l.getD i 0)))
    (C : Nat → Codec) (hsz : (C t).sz = 1) (rows : List (C t).α) (hlen : rows.length = l.length) (henc : ∀ i, i < l.length → ((C t).enc (rows.getD i (C t).dflt)).getD 0 .junk = .int k (l.getD i 0)) :
    Ck.ok ad w (⟨x.block, x.off, 1, wr, gl, .rows t rows⟩ : Ck C) := by
  unfold Ck.ok
  refine ⟨hsz.symm, fun i hi f hf => ?_⟩
  have hf : f = 0 := by omega
  subst hf
  rw [henc i (by omega)]
  have e : (⟨x.block, x.off + (i * 1 + 0), none⟩ : Addr) = x.add i := by
    unfold Addr.add
    split
    · rename_i h; subst h
      obtain ⟨b, o, s⟩ := x
      simp only at hx; subst hx; rfl
    · simp
  show w.cell? ⟨x.block, x.off + (i * 1 + 0), none⟩ = _
  rw [e, hc i (by omega)]
  rfl

end Go.Vx
