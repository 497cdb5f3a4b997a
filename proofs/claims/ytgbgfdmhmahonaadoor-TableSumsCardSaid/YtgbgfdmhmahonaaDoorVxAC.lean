/-
  A slice of structs that came in, as a row of chunks.
  Conditions: none.
-/
import Derived.Test.YtgbgfdmhmahonaaDoorVxU
import Derived.ProofKit
import Derived.OpenShut
import Derived.ChangeArms
import Derived.MakeChecks
import Derived.Deep.Slices
import Derived.Deep.Strs
set_option linter.unusedVariables false
namespace Go.Vx
open Go Go.ChangeShapes Go.WideShapes Go.Deep Go.RowKit
variable {C : Nat → Codec}
/-- A thing's cell. -/
def cellV (c : Codec) (b : c.α) (f : Nat) : Value := (((c.enc b).getD f .junk)).va noAd
/-- What the walk is told of a slice that came in. -/
def IsRows (c : Codec) (w : World) (a : Option Addr) (len cap : Nat) (zs : List c.α) : Prop :=
  (a = none ∧ len = 0 ∧ cap = 0 ∧ zs = []) ∨
  ∃ x, a = some x ∧ x.spot = none ∧ x.block < w.heap.size ∧ len ≤ cap ∧ zs.length = cap ∧ ∀ i, i < cap → ∀ f, f < c.sz → w.cell? (x.add (i * c.sz + f)) = some (cellV c (zs.getD i c.dflt) f)
theorem rows_ok {ad : Nat → Ad} {w : World} {x : Addr} {t : Nat} {l : List (C t).α} {wr : Bool} {gl : Option Nat} (hx : x.spot = none) (hc : ∀ i, i < l.length → ∀ f, f < (C t).sz → w.cell? (x.add (i * (C t).sz + f)) = some (cellV (C t) (l.getD i (C t).dflt) f)) :
    Ck.ok ad w (⟨x.block, x.off, (C t).sz, wr, gl, .rows t l⟩ : Ck C) := by
  unfold Ck.ok
  refine ⟨rfl, fun i hi f hf => ?_⟩
  have e : (⟨x.block, x.off + (i * (C t).sz + f), none⟩ : Addr) = x.add (i * (C t).sz + f) := by
    unfold Addr.add
    split
    · rename_i h; rw [h]
      obtain ⟨b, o, s⟩ := x
      simp only at hx; subst hx; rfl
    · simp
  show w.cell? ⟨x.block, x.off + (i * (C t).sz + f), none⟩ = _
  rw [e, hc i hi f hf]
  have hl := (C t).len (l.getD i (C t).dflt)
  have e2 := congrArg (fun L => L[f]?) ((C t).flat (l.getD i (C t).dflt) noAd ad)
  simp only [List.getElem?_map, List.getElem?_eq_getElem (show f < ((C t).enc (l.getD i (C t).dflt)).length by omega), Option.map_some, Option.some.injEq] at e2
  unfold cellV
  rw [List.getD_eq_getElem?_getD (l := (C t).enc (l.getD i (C t).dflt)), List.getElem?_eq_getElem (show f < ((C t).enc (l.getD i (C t).dflt)).length by omega)]
  exact congrArg some e2
theorem one_at {cs : List Value} {i : Nat} {v : Value} (h : (cs.drop i).take 1 = [v]) : cs[i]? = some v := by
  cases hd : cs.drop i with
  | nil => rw [hd] at h; simp at h
  | cons y r =>
    rw [hd] at h
    simp at h
    have := List.getElem?_drop (xs := cs) (i := i) (j := 0)
    rw [hd] at this
    simpa [h] using this.symm
/-- A part's part. -/
theorem part_at {cs : List Value} {i n j : Nat} {v : Value} (h : ((cs.drop i).take n)[j]? = some v) : cs[i + j]? = some v := by
  rw [List.getElem?_take] at h
  split at h
  · rw [List.getElem?_drop] at h; exact h
  · cases h
theorem rows_open {P : Program} {H : Type} {enc : TypeId × Value → H} {W : World} {base b0 : Nat} {r : Reach} {a : Option Addr} {len cap : Nat} {d : DataW H} {p : List MemPlace} {ts te : TypeId} (c : Codec) (hu : P.underlying ts = some (.slice te)) (hsz : P.cellsOf te = c.sz)
    (hop : ∀ (fuel : Nat) (cs : List Value) (y : DataW H × List MemPlace), DataW.trod enc P W base (fun _ => true) true fuel te cs = some y → ∃ b : c.α, ∀ f, f < c.sz → cs[f]? = some (cellV c b f))
    (hv : Value.okWide P W r b0 ts (.slice a len cap)) (h : DataW.Trod enc P W base (fun _ => true) true ts (.slice a len cap) d p) : ∃ zs, IsRows c W a len cap zs := by
  obtain ⟨fuel, hf⟩ := h
  rcases open_slice hu hf with ⟨hcs, _⟩ | ⟨x, l, c', m, n, D, Pl, hcs, _, hl, hm, hmc, _, hall⟩
  · simp [Value.cells] at hcs
    obtain ⟨rfl, rfl, rfl⟩ := hcs
    exact ⟨[], .inl ⟨rfl, rfl, rfl, rfl⟩⟩
  · simp [Value.cells] at hcs
    obtain ⟨rfl, rfl, rfl⟩ := hcs
    simp at hmc
    subst hmc
    obtain ⟨hs, hb⟩ := okWide_at hu hv
    have hex : ∀ i, i < m → ∃ b : c.α, ∀ f, f < c.sz → W.cell? (x.add (i * c.sz + f)) = some (cellV c b f) := fun i hi => by
      obtain ⟨cs', h1, h2⟩ := hall i hi
      rw [hsz] at h1
      obtain ⟨b, hb⟩ := hop _ _ _ h2
      obtain ⟨_, _, h3⟩ := World.cells?_some h1
      exact ⟨b, fun f hf => by rw [← add_add, h3 f hf, hb f hf]⟩
    haveI : Inhabited c.α := ⟨c.dflt⟩
    obtain ⟨g, hg⟩ := choose_lt hex
    refine ⟨(List.range m).map g, .inr ⟨x, rfl, hs, hb, hl, by simp, fun i hi f hf => ?_⟩⟩
    rw [hg i hi f hf]
    congr 2
    simp [List.getD_eq_getElem?_getD, hi]
end Go.Vx
