/-
  Round 17: a slice of things told that came in; the errors that are laid.
  Conditions: none.
-/
import Derived.Test.YtncpjklejppdkaaDoorPpN
import Derived.Test.YtncpjklejppdkaaDoorVxY
import Derived.Test.YtncpjklejppdkaaDoorRows
import Derived.ProofKit
import Derived.OpenShut
import Derived.ChangeArms
import Derived.MakeChecks
import Derived.Deep.Slices
import Derived.Deep.Strs
set_option linter.unusedVariables false
set_option linter.unusedSimpArgs false
namespace Go.Vx
open Go Go.Proofs Go.ChangeShapes Go.WideShapes Go.Deep Go.RowKit Go.Proofs.YtncpjklejppdkaaDoor

/-! A slice of things told. -/
abbrev Dt := Int × Int × Int
def doV (b : Dt) (f : Nat) : Value := match f with
  | 0 => .int .i64 b.1
  | 1 => .int .i64 b.2.1
  | _ => .int .i64 b.2.2
def IsDos (w : World) (a : Option Addr) (len cap : Nat) (zs : List Dt) : Prop :=
  (a = none ∧ len = 0 ∧ cap = 0 ∧ zs = []) ∨
  ∃ x, a = some x ∧ x.spot = none ∧ x.block < w.heap.size ∧ len ≤ cap ∧ zs.length = cap ∧ ∀ i, i < cap → ∀ f, f < 3 → w.cell? (x.add (i * 3 + f)) = some (doV (zs.getD i (0, 0, 0)) f)
theorem doRow_ok [Gl] {ad : Nat → Ad} {w : World} {x : Addr} {l : List Dt} {wr : Bool} {gl : Option Nat} (hx : x.spot = none) (hc : ∀ i, i < l.length → ∀ f, f < 3 → w.cell? (x.add (i * 3 + f)) = some (doV (l.getD i (0, 0, 0)) f)) :
    Ck.ok ad w (⟨x.block, x.off, 3, wr, gl, .rows 42 l⟩ : Ck C0) := by
  unfold Ck.ok
  refine ⟨rfl, fun i hi f hf => ?_⟩
  have e : (⟨x.block, x.off + (i * 3 + f), none⟩ : Addr) = x.add (i * 3 + f) := by
    unfold Addr.add
    split
    · rename_i h; rw [h]
      obtain ⟨b, o, s⟩ := x
      simp only at hx; subst hx; rfl
    · simp
  show w.cell? ⟨x.block, x.off + (i * 3 + f), none⟩ = _
  have hf : f < 3 := hf
  rw [e, hc i hi f hf]
  rcases f with _ | _ | _ | f
  · rfl
  · rfl
  · rfl
  · omega
theorem c42 : Tryd.prog.cellsOf 42 = 3 := by kernel_rfl
theorem c3 : Tryd.prog.cellsOf 3 = 1 := by kernel_rfl
theorem one_at {cs : List Value} {i : Nat} {v : Value} (h : (cs.drop i).take 1 = [v]) : cs[i]? = some v := by
  cases hd : cs.drop i with
  | nil => rw [hd] at h; simp at h
  | cons y r =>
    rw [hd] at h
    simp at h
    have := List.getElem?_drop (xs := cs) (i := i) (j := 0)
    rw [hd] at this
    simpa [h] using this.symm
theorem do_open {H : Type} {enc : TypeId × Value → H} {w : World} {base : Nat} {spare : Nat → Bool} {held : Bool} {fuel : Nat} {cs : List Value} {y : DataW H × List MemPlace} (h : DataW.trod enc Tryd.prog w base spare held fuel 42 cs = some y) :
    ∃ b : Dt, ∀ f, f < 3 → cs[f]? = some (doV b f) := by
  obtain ⟨y0, y1, y2, n, _, _, h0, h1, h2⟩ := trod_struct3 Tryd.underlying42 h
  simp only [c3] at h0 h1 h2
  obtain ⟨n0, e0, _, _⟩ := DataW.trod_int Tryd.underlying3 h0
  obtain ⟨n1, e1, _, _⟩ := DataW.trod_int Tryd.underlying3 h1
  obtain ⟨n2, e2, _, _⟩ := DataW.trod_int Tryd.underlying3 h2
  refine ⟨(n0, n1, n2), fun f hf => ?_⟩
  rcases f with _ | _ | _ | f
  · exact one_at e0
  · exact one_at e1
  · exact one_at e2
  · omega
theorem dos_open {H : Type} {enc : TypeId × Value → H} {W : World} {base b0 : Nat} {r : Reach} {a : Option Addr} {len cap : Nat} {d : DataW H} {p : List MemPlace} (hv : Value.okWide Tryd.prog W r b0 36 (.slice a len cap))
    (h : DataW.Trod enc Tryd.prog W base (fun _ => true) true 36 (.slice a len cap) d p) : ∃ zs, IsDos W a len cap zs := by
  obtain ⟨fuel, hf⟩ := h
  rcases open_slice Tryd.underlying36 hf with ⟨hcs, _⟩ | ⟨x, l, c, m, n, D, Pl, hcs, _, hl, hm, hmc, _, hall⟩
  · simp [Value.cells] at hcs
    obtain ⟨rfl, rfl, rfl⟩ := hcs
    exact ⟨[], .inl ⟨rfl, rfl, rfl, rfl⟩⟩
  · simp [Value.cells] at hcs
    obtain ⟨rfl, rfl, rfl⟩ := hcs
    simp at hmc
    subst hmc
    obtain ⟨hs, hb⟩ := okWide_at Tryd.underlying36 hv
    have hex : ∀ i, i < m → ∃ b : Dt, ∀ f, f < 3 → W.cell? (x.add (i * 3 + f)) = some (doV b f) := fun i hi => by
      obtain ⟨cs', h1, h2⟩ := hall i hi
      rw [c42] at h1
      obtain ⟨b, hb⟩ := do_open h2
      obtain ⟨_, _, h3⟩ := World.cells?_some h1
      exact ⟨b, fun f hf => by rw [← add_add, h3 f hf, hb f hf]⟩
    obtain ⟨g, hg⟩ := choose_lt hex
    refine ⟨(List.range m).map g, .inr ⟨x, rfl, hs, hb, hl, by simp, fun i hi f hf => ?_⟩⟩
    rw [hg i hi f hf]
    congr 2
    simp [List.getD_eq_getElem?_getD, hi]

/-! The errors. -/
theorem star : "*" ++ "errors.errorString" = "*errors.errorString" := by decide
theorem row94 (u : TypeId) (h : Tryd.prog.typeName? 3 u = some "*errors.errorString") : u = 94 :=
  typeName_ptr_named (nm := "errors.errorString") (by rw [star]; kernel_rfl) (by kernel_rfl) (by decide) u (by rw [star]; exact h)
theorem c112 : Tryd.prog.cellsOf 112 = 1 := by kernel_rfl
theorem c9 : Tryd.prog.cellsOf 9 = 1 := by kernel_rfl
/-- Where a variable stands among those that are laid. -/
def pos (g : Nat) : Nat := match g with
  | 0 => 1
  | 1 => 9
  | 2 => 0
  | g => if g < 10 then g - 1 else g
abbrev gL : List Nat := [2, 0, 3, 4, 5, 6, 7, 8, 9, 1, 10, 11, 12, 13, 14, 15, 16, 17, 18]
theorem pos_ok : ∀ g, g < 19 → pos g < gL.length ∧ gL.getD (pos g) 0 = g := by decide
theorem pos_one : ∀ i, i < 19 → ∀ j, j < 19 → pos i = pos j → i = j := by decide
theorem laid_sent : SentL Tryd.prog "*errors.errorString" 27 Rows.poolPlaysRow.laid gL := by
  refine ⟨⟨_, rfl⟩, by kernel_rfl, by kernel_rfl, ⟨_, rfl⟩, by kernel_rfl, by kernel_rfl, ⟨_, rfl⟩, by kernel_rfl, by kernel_rfl, ⟨_, rfl⟩, by kernel_rfl, by kernel_rfl, ⟨_, rfl⟩, by kernel_rfl, by kernel_rfl,
    ⟨_, rfl⟩, by kernel_rfl, by kernel_rfl, ⟨_, rfl⟩, by kernel_rfl, by kernel_rfl, ⟨_, rfl⟩, by kernel_rfl, by kernel_rfl, ⟨_, rfl⟩, by kernel_rfl, by kernel_rfl, ⟨_, rfl⟩, by kernel_rfl, by kernel_rfl,
    ⟨_, rfl⟩, by kernel_rfl, by kernel_rfl, ⟨_, rfl⟩, by kernel_rfl, by kernel_rfl, ⟨_, rfl⟩, by kernel_rfl, by kernel_rfl, ⟨_, rfl⟩, by kernel_rfl, by kernel_rfl, ⟨_, rfl⟩, by kernel_rfl, by kernel_rfl,
    ⟨_, rfl⟩, by kernel_rfl, by kernel_rfl, ⟨_, rfl⟩, by kernel_rfl, by kernel_rfl, ⟨_, rfl⟩, by kernel_rfl, by kernel_rfl, ⟨_, rfl⟩, by kernel_rfl, by kernel_rfl, trivial⟩
theorem laid_plain (w : World) : laidMetH Tryd.prog Rows.poolPlaysRow.laid w = laidMet Tryd.prog Rows.poolPlaysRow.laid w := Go.MakeChecks.laidMetH_plain _ _ _ (by kernel_rfl)
/-- The errors lie there, no two at one place. -/
theorem gl_of {W : World} (h : laidMetH Tryd.prog Rows.poolPlaysRow.laid W) : ∃ G : Gl, @Apart G ∧ ∀ g, g < 19 →
    W.cell? ⟨g, 0, none⟩ = some (.iface 94 (.pointer (some (@Gl.A G g)))) ∧ W.heap[(@Gl.A G g).block]? = some (.cells (@Gl.c G g) (@Gl.t G g) (0, 0)) := by
  rw [laid_plain] at h
  obtain ⟨ps, hv, hnd, hrows⟩ := h
  obtain ⟨az, hs, _⟩ := laid_all Tryd.underlying27 row94 Tryd.underlying94 Tryd.underlying112 rfl rfl Tryd.underlying9 c112 c9 _ _ _ laid_sent hv hnd hrows
  have hex : ∀ g, ∃ p : Array Value × TypeId, g < 19 → W.heap[(az.getD (pos g) default).block]? = some (.cells p.1 p.2 (0, 0)) := by
    intro g
    by_cases hg : g < 19
    · obtain ⟨_, c, t, h2⟩ := hs.get (pos g) (pos_ok g hg).1
      exact ⟨(c, t), fun _ => h2⟩
    · exact ⟨(#[], 0), fun h => absurd h hg⟩
  refine ⟨⟨fun g => az.getD (pos g) default, fun g => (Classical.choose (hex g)).1, fun g => (Classical.choose (hex g)).2⟩, ?_, ?_⟩
  · intro i j hi hj he
    exact pos_one i hi j hj (hs.one (pos_ok i hi).1 (pos_ok j hj).1 he)
  · intro g hg
    obtain ⟨h1, _⟩ := hs.get (pos g) (pos_ok g hg).1
    rw [(pos_ok g hg).2] at h1
    exact ⟨h1, Classical.choose_spec (hex g) hg⟩
theorem gv_is [Gl] (g : Nat) : (C0 g).gv = glV g := by unfold C0; split <;> rfl
theorem gp_is [Gl] (g : Nat) : (C0 g).gpins = glP g := by unfold C0; split <;> rfl
theorem more_of [Gl] {W : World} (h : ∀ g, g < 19 → W.cell? ⟨g, 0, none⟩ = some (.iface 94 (.pointer (some (Gl.A g)))) ∧ W.heap[(Gl.A g).block]? = some (.cells (Gl.c g) (Gl.t g) (0, 0)))
    {mem : List (Ck C0)} (hnw : noWr mem = true) : More (wrS mem) W W mem where
  gv g v hv := by
    rw [gv_is] at hv
    unfold glV at hv
    split at hv
    · rename_i hb
      have hg : g < 19 := by simpa using hb
      simp only [Option.some.injEq] at hv
      subst hv
      obtain ⟨h1, _⟩ := h g hg
      refine ⟨h1, ?_, ?_⟩
      · rcases Nat.lt_or_ge g W.heap.size with h' | h'
        · exact h'
        · simp [World.cell?, Array.getElem?_eq_none h'] at h1
      · rintro ⟨c, hc, hw, _⟩
        rw [noWr_ok hnw c hc] at hw; cases hw
    · cases hv
  gp g p hp := by
    rw [gp_is] at hp
    unfold glP at hp
    split at hp
    · rename_i hb
      have hg : g < 19 := by simpa using hb
      rw [List.mem_singleton] at hp
      subst hp
      obtain ⟨_, h2⟩ := h g hg
      refine ⟨h2, heap_size_of h2, ?_⟩
      rintro ⟨c, hc, hw, _⟩
      rw [noWr_ok hnw c hc] at hw; cases hw
    · cases hp
  pin p hp := by cases hp
  nod := List.nodup_nil
end Go.Vx
