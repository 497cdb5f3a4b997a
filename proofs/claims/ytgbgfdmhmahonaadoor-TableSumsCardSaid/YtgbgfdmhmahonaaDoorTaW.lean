/-
  Round 20: a slice of things told that came in.
  Conditions: none.
-/
import Derived.Test.YtgbgfdmhmahonaaDoorTaN
import Derived.Lib.SmallJoins
set_option linter.unusedVariables false
set_option maxRecDepth 100000
set_option linter.unusedSimpArgs false
namespace Go.Vx
open Go Go.Proofs Go.ChangeShapes Go.WideShapes Go.Deep Go.RowKit Go.Proofs.YtgbgfdmhmahonaaDoor

theorem c34 : Tryd.prog.cellsOf 34 = 6 := by kernel_rfl
theorem c4 : Tryd.prog.cellsOf 4 = 1 := by kernel_rfl
theorem c48 : Tryd.prog.cellsOf 48 = 10 := by kernel_rfl
theorem meta_open {H : Type} {enc : TypeId × Value → H} {w : World} {base : Nat} {spare : Nat → Bool} {held : Bool} {fuel : Nat} {cs : List Value} {y : DataW H × List MemPlace} (h : DataW.trod enc Tryd.prog w base spare held fuel 34 cs = some y) :
    ∃ m : Me, cs[0]? = some (.int .i64 m.kind) ∧ cs[1]? = some (.int .i64 m.key) ∧ cs[2]? = some (.int .i64 m.seq) ∧ cs[3]? = some (.int .i64 m.stamp) ∧ cs[4]? = some (.int .i64 m.batch) ∧ cs[5]? = some (.int .i64 m.floor) := by
  obtain ⟨xs, n, _, rfl, hl, hlen, hf⟩ := DataW.trod_struct Tryd.underlying34 h
  match xs, hlen with
  | [y0, y1, y2, y3, y4, y5], _ =>
    have h0 : DataW.trod enc Tryd.prog w base spare held n 3 ((cs.drop 0).take (Tryd.prog.cellsOf 3)) = some y0 := hf 0 _ rfl
    have h1 : DataW.trod enc Tryd.prog w base spare held n 3 ((cs.drop 1).take (Tryd.prog.cellsOf 3)) = some y1 := hf 1 _ rfl
    have h2 : DataW.trod enc Tryd.prog w base spare held n 3 ((cs.drop 2).take (Tryd.prog.cellsOf 3)) = some y2 := hf 2 _ rfl
    have h3 : DataW.trod enc Tryd.prog w base spare held n 3 ((cs.drop 3).take (Tryd.prog.cellsOf 3)) = some y3 := hf 3 _ rfl
    have h4 : DataW.trod enc Tryd.prog w base spare held n 3 ((cs.drop 4).take (Tryd.prog.cellsOf 3)) = some y4 := hf 4 _ rfl
    have h5 : DataW.trod enc Tryd.prog w base spare held n 3 ((cs.drop 5).take (Tryd.prog.cellsOf 3)) = some y5 := hf 5 _ rfl
    simp only [c3] at h0 h1 h2 h3 h4 h5
    obtain ⟨n0, e0, _, _⟩ := DataW.trod_int Tryd.underlying3 h0
    obtain ⟨n1, e1, _, _⟩ := DataW.trod_int Tryd.underlying3 h1
    obtain ⟨n2, e2, _, _⟩ := DataW.trod_int Tryd.underlying3 h2
    obtain ⟨n3, e3, _, _⟩ := DataW.trod_int Tryd.underlying3 h3
    obtain ⟨n4, e4, _, _⟩ := DataW.trod_int Tryd.underlying3 h4
    obtain ⟨n5, e5, _, _⟩ := DataW.trod_int Tryd.underlying3 h5
    exact ⟨⟨n0, n1, n2, n3, n4, n5⟩, one_at e0, one_at e1, one_at e2, one_at e3, one_at e4, one_at e5⟩
theorem do_open {H : Type} {enc : TypeId × Value → H} {w : World} {base : Nat} {spare : Nat → Bool} {held : Bool} {fuel : Nat} {cs : List Value} {y : DataW H × List MemPlace} (h : DataW.trod enc Tryd.prog w base spare held fuel 48 cs = some y) :
    ∃ b : Do, ∀ f, f < 10 → cs[f]? = some (cellV cDo b f) := by
  obtain ⟨y0, y1, y2, y3, n, _, _, h0, h1, h2, h3⟩ := Go.Joins.trod_struct4 Tryd.underlying48 h
  simp only [c3, c4, c30, c34] at h0 h1 h2 h3
  obtain ⟨n0, e0, _, _⟩ := DataW.trod_int Tryd.underlying3 h0
  obtain ⟨p, hp⟩ := place_open h1
  obtain ⟨m, m0, m1, m2, m3, m4, m5⟩ := meta_open h2
  obtain ⟨b, e3, _⟩ := DataW.trod_bool Tryd.underlying4 h3
  refine ⟨⟨n0, p, m, b⟩, fun f hf => ?_⟩
  have p0 := part_at (hp 0 (by decide))
  have p1 := part_at (hp 1 (by decide))
  have k0 := part_at m0
  have k1 := part_at m1
  have k2 := part_at m2
  have k3 := part_at m3
  have k4 := part_at m4
  have k5 := part_at m5
  rcases f with _ | _ | _ | _ | _ | _ | _ | _ | _ | _ | f
  · exact one_at e0
  · exact p0
  · exact p1
  · exact k0
  · exact k1
  · exact k2
  · exact k3
  · exact k4
  · exact k5
  · exact one_at e3
  · omega
theorem dos_open {H : Type} {enc : TypeId × Value → H} {W : World} {base b0 : Nat} {r : Reach} {a : Option Addr} {len cap : Nat} {d : DataW H} {p : List MemPlace} (hv : Value.okWide Tryd.prog W r b0 42 (.slice a len cap))
    (h : DataW.Trod enc Tryd.prog W base (fun _ => true) true 42 (.slice a len cap) d p) : ∃ zs, IsRows cDo W a len cap zs :=
  rows_open cDo Tryd.underlying42 c48 (fun _ _ _ h => do_open h) hv h
end Go.Vx
