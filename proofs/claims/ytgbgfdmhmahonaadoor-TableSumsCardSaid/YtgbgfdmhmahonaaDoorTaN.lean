/-
  Round 20: a slice of places that came in; three errors that are laid.
  Conditions: none.
-/
import Derived.Test.YtgbgfdmhmahonaaDoorTaM
import Derived.Test.YtgbgfdmhmahonaaDoorVxAC
import Derived.Test.YtgbgfdmhmahonaaDoorRows
set_option linter.unusedVariables false
set_option maxRecDepth 100000
set_option linter.unusedSimpArgs false
namespace Go.Vx
open Go Go.Proofs Go.ChangeShapes Go.WideShapes Go.Deep Go.RowKit Go.Proofs.YtgbgfdmhmahonaaDoor

theorem c30 : Tryd.prog.cellsOf 30 = 2 := by kernel_rfl
theorem c3 : Tryd.prog.cellsOf 3 = 1 := by kernel_rfl
theorem place_open {H : Type} {enc : TypeId × Value → H} {w : World} {base : Nat} {spare : Nat → Bool} {held : Bool} {fuel : Nat} {cs : List Value} {y : DataW H × List MemPlace} (h : DataW.trod enc Tryd.prog w base spare held fuel 30 cs = some y) :
    ∃ b : Pl, ∀ f, f < 2 → cs[f]? = some (cellV cPl b f) := by
  obtain ⟨y0, y1, n, _, _, h0, h1⟩ := trod_struct2 Tryd.underlying30 h
  simp only [c3] at h0 h1
  obtain ⟨n0, e0, _, _⟩ := DataW.trod_int Tryd.underlying3 h0
  obtain ⟨n1, e1, _, _⟩ := DataW.trod_int Tryd.underlying3 h1
  refine ⟨(n0, n1), fun f hf => ?_⟩
  rcases f with _ | _ | f
  · exact one_at e0
  · exact one_at e1
  · omega
theorem places_open {H : Type} {enc : TypeId × Value → H} {W : World} {base b0 : Nat} {r : Reach} {a : Option Addr} {len cap : Nat} {d : DataW H} {p : List MemPlace} (hv : Value.okWide Tryd.prog W r b0 22 (.slice a len cap))
    (h : DataW.Trod enc Tryd.prog W base (fun _ => true) true 22 (.slice a len cap) d p) : ∃ zs, IsRows cPl W a len cap zs :=
  rows_open cPl Tryd.underlying22 c30 (fun _ _ _ h => place_open h) hv h

/-! The errors. -/
theorem star : "*" ++ "errors.errorString" = "*errors.errorString" := by decide
theorem row123 (u : TypeId) (h : Tryd.prog.typeName? 3 u = some "*errors.errorString") : u = 123 :=
  typeName_ptr_named (nm := "errors.errorString") (by rw [star]; kernel_rfl) (by kernel_rfl) (by decide) u (by rw [star]; exact h)
theorem c139 : Tryd.prog.cellsOf 139 = 1 := by kernel_rfl
theorem c9 : Tryd.prog.cellsOf 9 = 1 := by kernel_rfl
/-- Where a variable stands among those that are laid. -/
def pos3 (g : Nat) : Nat := 2 - g
abbrev gL3 : List Nat := [2, 1, 0]
theorem pos3_ok : ∀ g, g < 3 → pos3 g < gL3.length ∧ gL3.getD (pos3 g) 0 = g := by decide
/-- The errors lie there. -/
theorem gl3_of {W : World} {L : List (String × DataW Unit)} (hL : SentL Tryd.prog "*errors.errorString" 26 L gL3) (h : laidMet Tryd.prog L W) : ∃ G : Gl, @Gl.all G = false ∧ ∀ g, g < 3 →
    W.cell? ⟨g, 0, none⟩ = some (.iface 123 (.pointer (some (@Gl.A G g)))) ∧ W.heap[(@Gl.A G g).block]? = some (.cells (@Gl.c G g) (@Gl.t G g) (0, 0)) := by
  obtain ⟨ps, hv, hnd, hrows⟩ := h
  obtain ⟨az, hs, _⟩ := laid_all Tryd.underlying26 row123 Tryd.underlying123 Tryd.underlying139 rfl rfl Tryd.underlying9 c139 c9 _ _ _ hL hv hnd hrows
  have hex : ∀ g, ∃ p : Array Value × TypeId, g < 3 → W.heap[(az.getD (pos3 g) default).block]? = some (.cells p.1 p.2 (0, 0)) := by
    intro g
    by_cases hg : g < 3
    · obtain ⟨_, c, t, h2⟩ := hs.get (pos3 g) (pos3_ok g hg).1
      exact ⟨(c, t), fun _ => h2⟩
    · exact ⟨(#[], 0), fun h => absurd h hg⟩
  refine ⟨⟨fun g => az.getD (pos3 g) default, fun g => (Classical.choose (hex g)).1, fun g => (Classical.choose (hex g)).2, false⟩, rfl, ?_⟩
  intro g hg
  obtain ⟨h1, _⟩ := hs.get (pos3 g) (pos3_ok g hg).1
  rw [(pos3_ok g hg).2] at h1
  exact ⟨h1, Classical.choose_spec (hex g) hg⟩
theorem gv_is [Gl] (g : Nat) : (C0 g).gv = glV g := by unfold C0; split <;> rfl
theorem gp_is [Gl] (g : Nat) : (C0 g).gpins = glP g := by unfold C0; split <;> rfl
theorem glB_lt [Gl] {g : Nat} {n : Nat} (h3 : 3 ≤ n) (hall : Gl.all = true → 19 ≤ n) (h : glB g = true) : g < n := by
  unfold glB at h
  split at h
  · rename_i hb; have : g < 3 := by simpa using hb
    omega
  · split at h
    · rename_i hb; have h19 : g < 19 := by simpa using hb
      have := hall h; omega
    · cases h
theorem more_of [Gl] {W : World} {n : Nat} (h3 : 3 ≤ n) (hall : Gl.all = true → 19 ≤ n) (h : ∀ g, g < n → W.cell? ⟨g, 0, none⟩ = some (.iface 123 (.pointer (some (Gl.A g)))) ∧ W.heap[(Gl.A g).block]? = some (.cells (Gl.c g) (Gl.t g) (0, 0)))
    {mem : List (Ck C0)} (hnw : noWr mem = true) : More (wrS mem) W W mem where
  gv g v hv := by
    rw [gv_is] at hv
    unfold glV at hv
    split at hv
    · rename_i hb
      have hg := glB_lt h3 hall hb
      simp only [Option.some.injEq] at hv
      subst hv
      obtain ⟨h1, _⟩ := h g hg
      refine ⟨h1, ?_, ?_⟩
      · rcases Nat.lt_or_ge g W.heap.size with h' | h'
        · exact h'
        · simp [World.cell?, Array.getElem?_eq_none h'] at h1
      · rintro ⟨c, hc, hw, _⟩
        rw [noWr_ok hnw c hc] at hw; cases hw
    · cases hv
  gp g p hp := by
    rw [gp_is] at hp
    unfold glP at hp
    split at hp
    · rename_i hb
      have hg := glB_lt h3 hall hb
      rw [List.mem_singleton] at hp
      subst hp
      obtain ⟨_, h2⟩ := h g hg
      refine ⟨h2, heap_size_of h2, ?_⟩
      rintro ⟨c, hc, hw, _⟩
      rw [noWr_ok hnw c hc] at hw; cases hw
    · cases hp
  pin p hp := by cases hp
  nod := List.nodup_nil
end Go.Vx
