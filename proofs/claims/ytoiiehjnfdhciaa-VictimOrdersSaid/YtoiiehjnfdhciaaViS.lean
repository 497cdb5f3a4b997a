/-
  Round 21: a slice of blocks that came in.
  Conditions: none.
-/
import Derived.Test.YtoiiehjnfdhciaaViM
import Derived.Test.YtoiiehjnfdhciaaRows
import Derived.WalkKit
import Derived.ProofKit
import Derived.OpenShut
import Derived.ChangeArms
import Derived.Deep.Slices
import Derived.Lib.SmallJoins
set_option linter.unusedVariables false
set_option linter.unusedSimpArgs false
namespace Go.Vi
open Go Go.Vx Go.Proofs Go.ChangeShapes Go.WideShapes Go.Deep Go.RowKit

/-- The values of a block's cells. -/
def blkV (b : Blk) (f : Nat) : Value := match f with
  | 0 => .int .i64 b.1
  | 1 => .int .i64 b.2.1
  | 2 => .int .i64 b.2.2.1
  | _ => .bool b.2.2.2
/-- What the walk is told of a slice of blocks that came in. -/
def IsBlks (w : World) (a : Option Addr) (len cap : Nat) (zs : List Blk) : Prop :=
  (a = none ∧ len = 0 ∧ cap = 0 ∧ zs = []) ∨
  ∃ x, a = some x ∧ x.spot = none ∧ x.block < w.heap.size ∧ len ≤ cap ∧ zs.length = cap ∧ ∀ i, i < cap → ∀ f, f < 4 → w.cell? (x.add (i * 4 + f)) = some (blkV (zs.getD i z0) f)
theorem blkRow_ok {ad : Nat → Ad} {w : World} {x : Addr} {l : List Blk} {wr : Bool} {gl : Option Nat} (hx : x.spot = none) (hc : ∀ i, i < l.length → ∀ f, f < 4 → w.cell? (x.add (i * 4 + f)) = some (blkV (l.getD i z0) f)) :
    Ck.ok ad w (⟨x.block, x.off, 4, wr, gl, .rows 39 l⟩ : Ck C1) := by
  unfold Ck.ok
  refine ⟨rfl, fun i hi f hf => ?_⟩
  have e : (⟨x.block, x.off + (i * 4 + f), none⟩ : Addr) = x.add (i * 4 + f) := by
    unfold Addr.add
    split
    · rename_i h; rw [h]
      obtain ⟨b, o, s⟩ := x
      simp only at hx; subst hx; rfl
    · simp
  show w.cell? ⟨x.block, x.off + (i * 4 + f), none⟩ = _
  have hf : f < 4 := hf
  rw [e, hc i hi f hf]
  rcases f with _ | _ | _ | _ | f
  · rfl
  · rfl
  · rfl
  · rfl
  · omega
theorem u39 : Try.prog.underlying 39 = some (.struct #[{ name := "Number", type := 3, offset := 0, embedded := false, tag := "", pkgPath := "", byteOffset := 0 }, { name := "Live", type := 3, offset := 1, embedded := false, tag := "", pkgPath := "", byteOffset := 8 },
   { name := "Worn", type := 3, offset := 2, embedded := false, tag := "", pkgPath := "", byteOffset := 16 }, { name := "Failed", type := 4, offset := 3, embedded := false, tag := "", pkgPath := "", byteOffset := 24 }]) := by kernel_rfl
theorem c39 : Try.prog.cellsOf 39 = 4 := by kernel_rfl
theorem c3 : Try.prog.cellsOf 3 = 1 := by kernel_rfl
theorem c4 : Try.prog.cellsOf 4 = 1 := by kernel_rfl
theorem u3 : Try.prog.underlying 3 = some (.int .i64) := by kernel_rfl
theorem u4 : Try.prog.underlying 4 = some .bool := by kernel_rfl
theorem one_at {cs : List Value} {i : Nat} {v : Value} (h : (cs.drop i).take 1 = [v]) : cs[i]? = some v := by
  cases hd : cs.drop i with
  | nil => rw [hd] at h; simp at h
  | cons y r =>
    rw [hd] at h
    simp at h
    have := List.getElem?_drop (xs := cs) (i := i) (j := 0)
    rw [hd] at this
    simpa [h] using this.symm
theorem blk_open {H : Type} {enc : TypeId × Value → H} {w : World} {base : Nat} {spare : Nat → Bool} {held : Bool} {fuel : Nat} {cs : List Value} {y : DataW H × List MemPlace} (h : DataW.trod enc Try.prog w base spare held fuel 39 cs = some y) :
    ∃ b : Blk, ∀ f, f < 4 → cs[f]? = some (blkV b f) := by
  obtain ⟨y0, y1, y2, y3, n, _, _, h0, h1, h2, h3⟩ := Go.Joins.trod_struct4 u39 h
  simp only [c3, c4] at h0 h1 h2 h3
  obtain ⟨n0, e0, _, _⟩ := DataW.trod_int u3 h0
  obtain ⟨n1, e1, _, _⟩ := DataW.trod_int u3 h1
  obtain ⟨n2, e2, _, _⟩ := DataW.trod_int u3 h2
  obtain ⟨n3, e3, _⟩ := DataW.trod_bool u4 h3
  refine ⟨(n0, n1, n2, n3), fun f hf => ?_⟩
  rcases f with _ | _ | _ | _ | f
  · exact one_at e0
  · exact one_at e1
  · exact one_at e2
  · exact one_at e3
  · omega
theorem blks_open {H : Type} {enc : TypeId × Value → H} {W : World} {base b0 : Nat} {r : Reach} {a : Option Addr} {len cap : Nat} {d : DataW H} {p : List MemPlace} (hv : Value.okWide Try.prog W r b0 22 (.slice a len cap))
    (h : DataW.Trod enc Try.prog W base (fun _ => true) true 22 (.slice a len cap) d p) : ∃ zs, IsBlks W a len cap zs := by
  obtain ⟨fuel, hf⟩ := h
  rcases open_slice Try.underlying22 hf with ⟨hcs, _⟩ | ⟨x, l, c, m, n, D, Pl, hcs, _, hl, hm, hmc, _, hall⟩
  · simp [Value.cells] at hcs
    obtain ⟨rfl, rfl, rfl⟩ := hcs
    exact ⟨[], .inl ⟨rfl, rfl, rfl, rfl⟩⟩
  · simp [Value.cells] at hcs
    obtain ⟨rfl, rfl, rfl⟩ := hcs
    simp at hmc
    subst hmc
    obtain ⟨hs, hb⟩ := okWide_at Try.underlying22 hv
    have hex : ∀ i, i < m → ∃ b : Blk, ∀ f, f < 4 → W.cell? (x.add (i * 4 + f)) = some (blkV b f) := fun i hi => by
      obtain ⟨cs', h1, h2⟩ := hall i hi
      rw [c39] at h1
      obtain ⟨b, hb⟩ := blk_open h2
      obtain ⟨_, _, h3⟩ := World.cells?_some h1
      exact ⟨b, fun f hf => by rw [← add_add, h3 f hf, hb f hf]⟩
    obtain ⟨g, hg⟩ := choose_lt hex
    refine ⟨(List.range m).map g, .inr ⟨x, rfl, hs, hb, hl, by simp, fun i hi f hf => ?_⟩⟩
    rw [hg i hi f hf]
    congr 2
    simp [List.getD_eq_getElem?_getD, hi]
end Go.Vi
