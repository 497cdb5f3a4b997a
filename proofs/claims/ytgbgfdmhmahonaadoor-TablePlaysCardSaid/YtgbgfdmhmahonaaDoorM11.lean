/-
  Round 20: TablePlays of no slice.
  A slice of structs that came in, as a row of chunks.
  Round 20: a slice of places that came in; three errors that are laid.
  Round 20: a slice of things told that came in.
  Round 20: all nineteen errors, laid.
  Conditions: none.
-/
import Derived.Test.YtgbgfdmhmahonaaDoorM3
import Derived.Test.YtgbgfdmhmahonaaDoorM4
import Derived.Test.YtgbgfdmhmahonaaDoorM9
import Derived.ProofKit
import Derived.OpenShut
import Derived.ChangeArms
import Derived.MakeChecks
import Derived.Deep.Slices
import Derived.Deep.Strs
import Derived.Test.YtgbgfdmhmahonaaDoorRows
import Derived.Lib.SmallJoins
set_option linter.unusedSectionVars false
set_option maxRecDepth 100000
set_option linter.unusedVariables false
set_option linter.unusedSimpArgs false
namespace Go.Vx
open Go Go.Proofs
variable [Gl0]

def LZ : Inv' C0 := ⟨12, Unit, fun _ => [(18, .int .i64 0)], fun _ m => m, fun _ => True, fun _ => 0⟩
def RZ : Inv' C0 := ⟨37, Nat × Nat, fun _ => [(32, .ptr 8 0 0), (289, .junk), (290, .junk)], fun x m => match m with
  | P :: S :: B :: T :: K :: Q :: X :: C :: _ => [P, S, B, T, K, Q, X, C, ck1 x.2 x.1]
  | _ => [], fun x => x.1 ≤ 2, fun x => 2 - x.1⟩
theorem tokZ (a b : Nat) (bs ps : Int) (c d : Nat) : Tok ⟨a, b, bs, ps, c, [], 0, d, [], 0⟩ := ⟨Rep.new .., (fun s hs => by cases hs), by show 0 < 1048576; decide⟩
set_option maxHeartbeats 8000000 in
theorem plays_nil (bs ps key : Int) (p : Pl) (stop : Int) :
    Tells (C := C0) Tryd.prog (.fn 4) [] [.int .i64 bs, .int .i64 ps, .nils, .int .i64 key, .agg (plE p), .int .i64 stop] (.bool .t) := by
  refine loc_pcR (P := Tryd.prog) (E := ⟨[fcNew, fcSlotsS, fcAll, fcKeys],
      [pcFirst, pcSSnn, pcSlotsN], 357,
      [(34, [7, 6], [.p 0, .p 3, .p 4, .p 5, .p 6, .e 1, .e 2, .e 7, .p 8])]⟩)
    (L := [LZ, RZ]) mix [itKeys] Tryd.func4 rfl (by kernel_rfl) (by kernel_rfl) rfl rfl ?_
  ((conv => (arg 1; reduce)); with_reducible repeat' (first | exact Tr.yes_h | refine Tr.and_h ?_ ?_ | refine Tr.imp_h fun _ => ?_ | refine Tr.all_h fun _ => ?_ | refine Tr.lf_h ?_))
  all_goals try first | (show Region.lexB _ _ = true; kernel_rfl) | (show planned _ _ = true; kernel_rfl) | exact rfl | exact True.intro
  · rename_i b0 b1 b2 h0 Y0 p0 h1
    exact plainN 1 (by decide)
  · rename_i b0 b1 b2 h0 Y0 p0 h1
    exact plainN 1 (by decide)
  · rename_i b0 b1 b2 h0 Y0 p0 h1
    exact decide_eq_true rfl
  · rename_i b0 b1 b2 h0 Y0 p0 h1
    exact (p0 (mayF h1)).elim
  · rename_i b0 b1 b2 h0 Y0 p0 h1
    exact (mayT' h1 p0).elim
  · rename_i b0 b1 b2 h0 Y0 p0 h1 b3 b4
    refine Stands.one () ⟨trivial, ?_⟩
    ((conv => (arg 1; reduce)); with_reducible repeat' (first | exact Tr.yes_h | refine Tr.and_h ?_ ?_ | refine Tr.imp_h fun _ => ?_ | refine Tr.all_h fun _ => ?_ | refine Tr.lf_h ?_))
    all_goals (first | first | (show Region.lexB _ _ = true; kernel_rfl) | (show planned _ _ = true; kernel_rfl) | exact rfl | exact True.intro | (first | exact key3 | exact key30 | exact zero3 | exact zero53 | exact eq30 | exact ⟨key3, zero53⟩ | exact ⟨key30, zero3⟩) | ((try dsimp only [imp, C0, cG, cInt, cPl, cSlot, cDo] at *); (try refine inR64 ?_ ?_) <;> (try simp only [List.length_set, List.length_append, List.length_take, List.length_drop]) <;> omega))
  · rename_i b0 b1 b2 h0 Y0 p0 h1 b3 b4 v0 hv0 h2
    exact absurd h2 (by decide)
  · rename_i b0 b1 b2 h0 Y0 p0 h1 b3 b4 v0 hv0 h2
    exact tokZ ..
  · rename_i b0 b1 b2 h0 Y0 p0 h1 b3 b4 v0 hv0 h2 Y1 p1 b5
    refine Stands.one (0, b5) ⟨Nat.zero_le _, ?_⟩
    ((conv => (arg 1; reduce)); with_reducible repeat' (first | exact Tr.yes_h | refine Tr.and_h ?_ ?_ | refine Tr.imp_h fun _ => ?_ | refine Tr.all_h fun _ => ?_ | refine Tr.lf_h ?_))
    all_goals (first | first | (show Region.lexB _ _ = true; kernel_rfl) | (show planned _ _ = true; kernel_rfl) | exact rfl | exact True.intro | (first | exact key3 | exact key30 | exact zero3 | exact zero53 | exact eq30 | exact ⟨key3, zero53⟩ | exact ⟨key30, zero3⟩) | ((try dsimp only [imp, C0, cG, cInt, cPl, cSlot, cDo] at *); (try refine inR64 ?_ ?_) <;> (try simp only [List.length_set, List.length_append, List.length_take, List.length_drop]) <;> omega))
  · rename_i b0 b1 b2 h0 Y0 p0 h1 b3 b4 v0 hv0 h2 Y1 p1 b5 v1 hv1 h3 b6 Y2 p2 b7
    exact tokZ ..
  · rename_i b0 b1 b2 h0 Y0 p0 h1 b3 b4 v0 hv0 h2 Y1 p1 b5 v1 hv1 h3 b6 Y2 p2 b7 Y3 p3
    refine Stands.one () ⟨trivial, ?_⟩
    ((conv => (arg 1; reduce)); with_reducible repeat' (first | exact Tr.yes_h | refine Tr.and_h ?_ ?_ | refine Tr.imp_h fun _ => ?_ | refine Tr.all_h fun _ => ?_ | refine Tr.lf_h ?_))
    all_goals (first | first | (show Region.lexB _ _ = true; kernel_rfl) | (show planned _ _ = true; kernel_rfl) | exact rfl | exact True.intro | (first | exact key3 | exact key30 | exact zero3 | exact zero53 | exact eq30 | exact ⟨key3, zero53⟩ | exact ⟨key30, zero3⟩) | ((try dsimp only [imp, C0, cG, cInt, cPl, cSlot, cDo] at *); (try refine inR64 ?_ ?_) <;> (try simp only [List.length_set, List.length_append, List.length_take, List.length_drop]) <;> omega))
  · rename_i b0 b1 b2 h0 Y0 p0 h1 b3 b4 v0 hv0 h2 Y1 p1 b5 v1 hv1 h3 b6 Y2 p2 b7 Y3 p3 v2 hv2 h4
    exact absurd h4 (by decide)
  · rename_i b0 b1 b2 h0 Y0 p0 h1 b3 b4 v0 hv0 h2 Y1 p1 b5 v1 hv1 h3 b6 Y2 p2 b7 Y3 p3 v2 hv2 h4 h5
    exact absurd h5 (by simp)
  · rename_i b0 b1 b2 h0 Y0 p0 h1 b3 b4 v0 hv0 h2 Y1 p1 b5 v1 hv1 h3 b6 Y2 p2 b7 Y3 p3 v2 hv2 h4 h5 b8
    exact rd_inr h3
  · rename_i b0 b1 b2 h0 Y0 p0 h1 b3 b4 v0 hv0 h2 Y1 p1 b5 v1 hv1 h3 b6 Y2 p2 b7 Y3 p3 v2 hv2 h4 h5 b8
    refine Stands.one (v1.1 + 1, b8) ⟨rd_le h3, rd_ms h3, ?_⟩
    ((conv => (arg 1; reduce)); with_reducible repeat' (first | exact Tr.yes_h | refine Tr.and_h ?_ ?_ | refine Tr.imp_h fun _ => ?_ | refine Tr.all_h fun _ => ?_ | refine Tr.lf_h ?_))
    all_goals (first | first | (show Region.lexB _ _ = true; kernel_rfl) | (show planned _ _ = true; kernel_rfl) | exact rfl | exact True.intro | (first | exact key3 | exact key30 | exact zero3 | exact zero53 | exact eq30 | exact ⟨key3, zero53⟩ | exact ⟨key30, zero3⟩) | ((try dsimp only [imp, C0, cG, cInt, cPl, cSlot, cDo] at *); (try refine inR64 ?_ ?_) <;> (try simp only [List.length_set, List.length_append, List.length_take, List.length_drop]) <;> omega))
  · rename_i b0 b1 b2 h0 Y0 p0 h1 b3 b4 v0 hv0 h2 Y1 p1 b5 v1 hv1 h3 b6 Y2 p2 b7 Y3 p3
    exact (all_no (Syn.nil bs ps 0) p3).elim
  · rename_i b0 b1 b2 h0 Y0 p0 h1 b3 b4 v0 hv0 h2 Y1 p1
    exact (all_no (Syn.nil bs ps 0) p1).elim
  · rename_i b0 b1 b2 h0 Y0 p0 h1 b3 b4 v0 hv0 h2 Y1 p1 Y2 p2
    exact (all_no (Syn.nil bs ps 0) p1).elim
end Go.Vx
set_option linter.unusedVariables false
namespace Go.Vx
open Go Go.ChangeShapes Go.WideShapes Go.Deep Go.RowKit
variable {C : Nat → Codec}
/-- A thing's cell. -/
def cellV (c : Codec) (b : c.α) (f : Nat) : Value := (((c.enc b).getD f .junk)).va noAd
/-- What the walk is told of a slice that came in. -/
def IsRows (c : Codec) (w : World) (a : Option Addr) (len cap : Nat) (zs : List c.α) : Prop :=
  (a = none ∧ len = 0 ∧ cap = 0 ∧ zs = []) ∨
  ∃ x, a = some x ∧ x.spot = none ∧ x.block < w.heap.size ∧ len ≤ cap ∧ zs.length = cap ∧ ∀ i, i < cap → ∀ f, f < c.sz → w.cell? (x.add (i * c.sz + f)) = some (cellV c (zs.getD i c.dflt) f)
theorem rows_ok {ad : Nat → Ad} {w : World} {x : Addr} {t : Nat} {l : List (C t).α} {wr : Bool} {gl : Option Nat} (hx : x.spot = none) (hc : ∀ i, i < l.length → ∀ f, f < (C t).sz → w.cell? (x.add (i * (C t).sz + f)) = some (cellV (C t) (l.getD i (C t).dflt) f)) :
    Ck.ok ad w (⟨x.block, x.off, (C t).sz, wr, gl, .rows t l⟩ : Ck C) := by
  unfold Ck.ok
  refine ⟨rfl, fun i hi f hf => ?_⟩
  have e : (⟨x.block, x.off + (i * (C t).sz + f), none⟩ : Addr) = x.add (i * (C t).sz + f) := by
    unfold Addr.add
    split
    · rename_i h; rw [h]
      obtain ⟨b, o, s⟩ := x
      simp only at hx; subst hx; rfl
    · simp
  show w.cell? ⟨x.block, x.off + (i * (C t).sz + f), none⟩ = _
  rw [e, hc i hi f hf]
  have hl := (C t).len (l.getD i (C t).dflt)
  have e2 := congrArg (fun L => L[f]?) ((C t).flat (l.getD i (C t).dflt) noAd ad)
  simp only [List.getElem?_map, List.getElem?_eq_getElem (show f < ((C t).enc (l.getD i (C t).dflt)).length by omega), Option.map_some, Option.some.injEq] at e2
  unfold cellV
  rw [List.getD_eq_getElem?_getD (l := (C t).enc (l.getD i (C t).dflt)), List.getElem?_eq_getElem (show f < ((C t).enc (l.getD i (C t).dflt)).length by omega)]
  exact congrArg some e2
theorem one_at {cs : List Value} {i : Nat} {v : Value} (h : (cs.drop i).take 1 = [v]) : cs[i]? = some v := by
  cases hd : cs.drop i with
  | nil => rw [hd] at h; simp at h
  | cons y r =>
    rw [hd] at h
    simp at h
    have := List.getElem?_drop (xs := cs) (i := i) (j := 0)
    rw [hd] at this
    simpa [h] using this.symm
/-- A part's part. -/
theorem part_at {cs : List Value} {i n j : Nat} {v : Value} (h : ((cs.drop i).take n)[j]? = some v) : cs[i + j]? = some v := by
  rw [List.getElem?_take] at h
  split at h
  · rw [List.getElem?_drop] at h; exact h
  · cases h
theorem rows_open {P : Program} {H : Type} {enc : TypeId × Value → H} {W : World} {base b0 : Nat} {r : Reach} {a : Option Addr} {len cap : Nat} {d : DataW H} {p : List MemPlace} {ts te : TypeId} (c : Codec) (hu : P.underlying ts = some (.slice te)) (hsz : P.cellsOf te = c.sz)
    (hop : ∀ (fuel : Nat) (cs : List Value) (y : DataW H × List MemPlace), DataW.trod enc P W base (fun _ => true) true fuel te cs = some y → ∃ b : c.α, ∀ f, f < c.sz → cs[f]? = some (cellV c b f))
    (hv : Value.okWide P W r b0 ts (.slice a len cap)) (h : DataW.Trod enc P W base (fun _ => true) true ts (.slice a len cap) d p) : ∃ zs, IsRows c W a len cap zs := by
  obtain ⟨fuel, hf⟩ := h
  rcases open_slice hu hf with ⟨hcs, _⟩ | ⟨x, l, c', m, n, D, Pl, hcs, _, hl, hm, hmc, _, hall⟩
  · simp [Value.cells] at hcs
    obtain ⟨rfl, rfl, rfl⟩ := hcs
    exact ⟨[], .inl ⟨rfl, rfl, rfl, rfl⟩⟩
  · simp [Value.cells] at hcs
    obtain ⟨rfl, rfl, rfl⟩ := hcs
    simp at hmc
    subst hmc
    obtain ⟨hs, hb⟩ := okWide_at hu hv
    have hex : ∀ i, i < m → ∃ b : c.α, ∀ f, f < c.sz → W.cell? (x.add (i * c.sz + f)) = some (cellV c b f) := fun i hi => by
      obtain ⟨cs', h1, h2⟩ := hall i hi
      rw [hsz] at h1
      obtain ⟨b, hb⟩ := hop _ _ _ h2
      obtain ⟨_, _, h3⟩ := World.cells?_some h1
      exact ⟨b, fun f hf => by rw [← add_add, h3 f hf, hb f hf]⟩
    haveI : Inhabited c.α := ⟨c.dflt⟩
    obtain ⟨g, hg⟩ := choose_lt hex
    refine ⟨(List.range m).map g, .inr ⟨x, rfl, hs, hb, hl, by simp, fun i hi f hf => ?_⟩⟩
    rw [hg i hi f hf]
    congr 2
    simp [List.getD_eq_getElem?_getD, hi]
end Go.Vx
set_option linter.unusedVariables false
set_option maxRecDepth 100000
set_option linter.unusedSimpArgs false
namespace Go.Vx
open Go Go.Proofs Go.ChangeShapes Go.WideShapes Go.Deep Go.RowKit Go.Proofs.YtgbgfdmhmahonaaDoor

theorem c30 : Tryd.prog.cellsOf 30 = 2 := by kernel_rfl
theorem c3 : Tryd.prog.cellsOf 3 = 1 := by kernel_rfl
theorem place_open {H : Type} {enc : TypeId × Value → H} {w : World} {base : Nat} {spare : Nat → Bool} {held : Bool} {fuel : Nat} {cs : List Value} {y : DataW H × List MemPlace} (h : DataW.trod enc Tryd.prog w base spare held fuel 30 cs = some y) :
    ∃ b : Pl, ∀ f, f < 2 → cs[f]? = some (cellV cPl b f) := by
  obtain ⟨y0, y1, n, _, _, h0, h1⟩ := trod_struct2 Tryd.underlying30 h
  simp only [c3] at h0 h1
  obtain ⟨n0, e0, _, _⟩ := DataW.trod_int Tryd.underlying3 h0
  obtain ⟨n1, e1, _, _⟩ := DataW.trod_int Tryd.underlying3 h1
  refine ⟨(n0, n1), fun f hf => ?_⟩
  rcases f with _ | _ | f
  · exact one_at e0
  · exact one_at e1
  · omega
theorem places_open {H : Type} {enc : TypeId × Value → H} {W : World} {base b0 : Nat} {r : Reach} {a : Option Addr} {len cap : Nat} {d : DataW H} {p : List MemPlace} (hv : Value.okWide Tryd.prog W r b0 22 (.slice a len cap))
    (h : DataW.Trod enc Tryd.prog W base (fun _ => true) true 22 (.slice a len cap) d p) : ∃ zs, IsRows cPl W a len cap zs :=
  rows_open cPl Tryd.underlying22 c30 (fun _ _ _ h => place_open h) hv h

/-! The errors. -/
theorem star : "*" ++ "errors.errorString" = "*errors.errorString" := by decide
theorem row123 (u : TypeId) (h : Tryd.prog.typeName? 3 u = some "*errors.errorString") : u = 123 :=
  typeName_ptr_named (nm := "errors.errorString") (by rw [star]; kernel_rfl) (by kernel_rfl) (by decide) u (by rw [star]; exact h)
theorem c139 : Tryd.prog.cellsOf 139 = 1 := by kernel_rfl
theorem c9 : Tryd.prog.cellsOf 9 = 1 := by kernel_rfl
/-- Where a variable stands among those that are laid. -/
def pos3 (g : Nat) : Nat := 2 - g
abbrev gL3 : List Nat := [2, 1, 0]
theorem pos3_ok : ∀ g, g < 3 → pos3 g < gL3.length ∧ gL3.getD (pos3 g) 0 = g := by decide
/-- The errors lie there. -/
theorem gl3_of {W : World} {L : List (String × DataW Unit)} (hL : SentL Tryd.prog "*errors.errorString" 26 L gL3) (h : laidMet Tryd.prog L W) : ∃ G : Gl, @Gl.all G = false ∧ ∀ g, g < 3 →
    W.cell? ⟨g, 0, none⟩ = some (.iface 123 (.pointer (some (@Gl.A G g)))) ∧ W.heap[(@Gl.A G g).block]? = some (.cells (@Gl.c G g) (@Gl.t G g) (0, 0)) := by
  obtain ⟨ps, hv, hnd, hrows⟩ := h
  obtain ⟨az, hs, _⟩ := laid_all Tryd.underlying26 row123 Tryd.underlying123 Tryd.underlying139 rfl rfl Tryd.underlying9 c139 c9 _ _ _ hL hv hnd hrows
  have hex : ∀ g, ∃ p : Array Value × TypeId, g < 3 → W.heap[(az.getD (pos3 g) default).block]? = some (.cells p.1 p.2 (0, 0)) := by
    intro g
    by_cases hg : g < 3
    · obtain ⟨_, c, t, h2⟩ := hs.get (pos3 g) (pos3_ok g hg).1
      exact ⟨(c, t), fun _ => h2⟩
    · exact ⟨(#[], 0), fun h => absurd h hg⟩
  refine ⟨⟨fun g => az.getD (pos3 g) default, fun g => (Classical.choose (hex g)).1, fun g => (Classical.choose (hex g)).2, false⟩, rfl, ?_⟩
  intro g hg
  obtain ⟨h1, _⟩ := hs.get (pos3 g) (pos3_ok g hg).1
  rw [(pos3_ok g hg).2] at h1
  exact ⟨h1, Classical.choose_spec (hex g) hg⟩
theorem gv_is [Gl] (g : Nat) : (C0 g).gv = glV g := by unfold C0; split <;> rfl
theorem gp_is [Gl] (g : Nat) : (C0 g).gpins = glP g := by unfold C0; split <;> rfl
theorem glB_lt [Gl] {g : Nat} {n : Nat} (h3 : 3 ≤ n) (hall : Gl.all = true → 19 ≤ n) (h : glB g = true) : g < n := by
  unfold glB at h
  split at h
  · rename_i hb; have : g < 3 := by simpa using hb
    omega
  · split at h
    · rename_i hb; have h19 : g < 19 := by simpa using hb
      have := hall h; omega
    · cases h
theorem more_of [Gl] {W : World} {n : Nat} (h3 : 3 ≤ n) (hall : Gl.all = true → 19 ≤ n) (h : ∀ g, g < n → W.cell? ⟨g, 0, none⟩ = some (.iface 123 (.pointer (some (Gl.A g)))) ∧ W.heap[(Gl.A g).block]? = some (.cells (Gl.c g) (Gl.t g) (0, 0)))
    {mem : List (Ck C0)} (hnw : noWr mem = true) : More (wrS mem) W W mem where
  gv g v hv := by
    rw [gv_is] at hv
    unfold glV at hv
    split at hv
    · rename_i hb
      have hg := glB_lt h3 hall hb
      simp only [Option.some.injEq] at hv
      subst hv
      obtain ⟨h1, _⟩ := h g hg
      refine ⟨h1, ?_, ?_⟩
      · rcases Nat.lt_or_ge g W.heap.size with h' | h'
        · exact h'
        · simp [World.cell?, Array.getElem?_eq_none h'] at h1
      · rintro ⟨c, hc, hw, _⟩
        rw [noWr_ok hnw c hc] at hw; cases hw
    · cases hv
  gp g p hp := by
    rw [gp_is] at hp
    unfold glP at hp
    split at hp
    · rename_i hb
      have hg := glB_lt h3 hall hb
      rw [List.mem_singleton] at hp
      subst hp
      obtain ⟨_, h2⟩ := h g hg
      refine ⟨h2, heap_size_of h2, ?_⟩
      rintro ⟨c, hc, hw, _⟩
      rw [noWr_ok hnw c hc] at hw; cases hw
    · cases hp
  pin p hp := by cases hp
  nod := List.nodup_nil
end Go.Vx
set_option linter.unusedVariables false
set_option maxRecDepth 100000
set_option linter.unusedSimpArgs false
namespace Go.Vx
open Go Go.Proofs Go.ChangeShapes Go.WideShapes Go.Deep Go.RowKit Go.Proofs.YtgbgfdmhmahonaaDoor

theorem c34 : Tryd.prog.cellsOf 34 = 6 := by kernel_rfl
theorem c4 : Tryd.prog.cellsOf 4 = 1 := by kernel_rfl
theorem c48 : Tryd.prog.cellsOf 48 = 10 := by kernel_rfl
theorem meta_open {H : Type} {enc : TypeId × Value → H} {w : World} {base : Nat} {spare : Nat → Bool} {held : Bool} {fuel : Nat} {cs : List Value} {y : DataW H × List MemPlace} (h : DataW.trod enc Tryd.prog w base spare held fuel 34 cs = some y) :
    ∃ m : Me, cs[0]? = some (.int .i64 m.kind) ∧ cs[1]? = some (.int .i64 m.key) ∧ cs[2]? = some (.int .i64 m.seq) ∧ cs[3]? = some (.int .i64 m.stamp) ∧ cs[4]? = some (.int .i64 m.batch) ∧ cs[5]? = some (.int .i64 m.floor) := by
  obtain ⟨xs, n, _, rfl, hl, hlen, hf⟩ := DataW.trod_struct Tryd.underlying34 h
  match xs, hlen with
  | [y0, y1, y2, y3, y4, y5], _ =>
    have h0 : DataW.trod enc Tryd.prog w base spare held n 3 ((cs.drop 0).take (Tryd.prog.cellsOf 3)) = some y0 := hf 0 _ rfl
    have h1 : DataW.trod enc Tryd.prog w base spare held n 3 ((cs.drop 1).take (Tryd.prog.cellsOf 3)) = some y1 := hf 1 _ rfl
    have h2 : DataW.trod enc Tryd.prog w base spare held n 3 ((cs.drop 2).take (Tryd.prog.cellsOf 3)) = some y2 := hf 2 _ rfl
    have h3 : DataW.trod enc Tryd.prog w base spare held n 3 ((cs.drop 3).take (Tryd.prog.cellsOf 3)) = some y3 := hf 3 _ rfl
    have h4 : DataW.trod enc Tryd.prog w base spare held n 3 ((cs.drop 4).take (Tryd.prog.cellsOf 3)) = some y4 := hf 4 _ rfl
    have h5 : DataW.trod enc Tryd.prog w base spare held n 3 ((cs.drop 5).take (Tryd.prog.cellsOf 3)) = some y5 := hf 5 _ rfl
    simp only [c3] at h0 h1 h2 h3 h4 h5
    obtain ⟨n0, e0, _, _⟩ := DataW.trod_int Tryd.underlying3 h0
    obtain ⟨n1, e1, _, _⟩ := DataW.trod_int Tryd.underlying3 h1
    obtain ⟨n2, e2, _, _⟩ := DataW.trod_int Tryd.underlying3 h2
    obtain ⟨n3, e3, _, _⟩ := DataW.trod_int Tryd.underlying3 h3
    obtain ⟨n4, e4, _, _⟩ := DataW.trod_int Tryd.underlying3 h4
    obtain ⟨n5, e5, _, _⟩ := DataW.trod_int Tryd.underlying3 h5
    exact ⟨⟨n0, n1, n2, n3, n4, n5⟩, one_at e0, one_at e1, one_at e2, one_at e3, one_at e4, one_at e5⟩
theorem do_open {H : Type} {enc : TypeId × Value → H} {w : World} {base : Nat} {spare : Nat → Bool} {held : Bool} {fuel : Nat} {cs : List Value} {y : DataW H × List MemPlace} (h : DataW.trod enc Tryd.prog w base spare held fuel 48 cs = some y) :
    ∃ b : Do, ∀ f, f < 10 → cs[f]? = some (cellV cDo b f) := by
  obtain ⟨y0, y1, y2, y3, n, _, _, h0, h1, h2, h3⟩ := Go.Joins.trod_struct4 Tryd.underlying48 h
  simp only [c3, c4, c30, c34] at h0 h1 h2 h3
  obtain ⟨n0, e0, _, _⟩ := DataW.trod_int Tryd.underlying3 h0
  obtain ⟨p, hp⟩ := place_open h1
  obtain ⟨m, m0, m1, m2, m3, m4, m5⟩ := meta_open h2
  obtain ⟨b, e3, _⟩ := DataW.trod_bool Tryd.underlying4 h3
  refine ⟨⟨n0, p, m, b⟩, fun f hf => ?_⟩
  have p0 := part_at (hp 0 (by decide))
  have p1 := part_at (hp 1 (by decide))
  have k0 := part_at m0
  have k1 := part_at m1
  have k2 := part_at m2
  have k3 := part_at m3
  have k4 := part_at m4
  have k5 := part_at m5
  rcases f with _ | _ | _ | _ | _ | _ | _ | _ | _ | _ | f
  · exact one_at e0
  · exact p0
  · exact p1
  · exact k0
  · exact k1
  · exact k2
  · exact k3
  · exact k4
  · exact k5
  · exact one_at e3
  · omega
theorem dos_open {H : Type} {enc : TypeId × Value → H} {W : World} {base b0 : Nat} {r : Reach} {a : Option Addr} {len cap : Nat} {d : DataW H} {p : List MemPlace} (hv : Value.okWide Tryd.prog W r b0 42 (.slice a len cap))
    (h : DataW.Trod enc Tryd.prog W base (fun _ => true) true 42 (.slice a len cap) d p) : ∃ zs, IsRows cDo W a len cap zs :=
  rows_open cDo Tryd.underlying42 c48 (fun _ _ _ h => do_open h) hv h
end Go.Vx
set_option linter.unusedVariables false
set_option maxRecDepth 100000
set_option linter.unusedSimpArgs false
namespace Go.Vx
open Go Go.Proofs Go.ChangeShapes Go.WideShapes Go.Deep Go.RowKit Go.Proofs.YtgbgfdmhmahonaaDoor

/-- Where a variable stands among those that are laid. -/
def posP (g : Nat) : Nat := match g with
  | 0 => 9
  | 1 => 7
  | 2 => 1
  | 3 => 0
  | 9 => 8
  | g => if g < 9 then g - 2 else g
abbrev gLP : List Nat := [3, 2, 4, 5, 6, 7, 8, 1, 9, 0, 10, 11, 12, 13, 14, 15, 16, 17, 18]
theorem posP_ok : ∀ g, g < 19 → posP g < gLP.length ∧ gLP.getD (posP g) 0 = g := by decide
theorem posP_one : ∀ i, i < 19 → ∀ j, j < 19 → posP i = posP j → i = j := by decide
theorem laid_sentP : SentL Tryd.prog "*errors.errorString" 26 Rows.tablePlaysRow.laid gLP := by
  refine ⟨⟨_, rfl⟩, by kernel_rfl, by kernel_rfl, ⟨_, rfl⟩, by kernel_rfl, by kernel_rfl, ⟨_, rfl⟩, by kernel_rfl, by kernel_rfl, ⟨_, rfl⟩, by kernel_rfl, by kernel_rfl, ⟨_, rfl⟩, by kernel_rfl, by kernel_rfl, ⟨_, rfl⟩, by kernel_rfl, by kernel_rfl, ⟨_, rfl⟩, by kernel_rfl, by kernel_rfl, ⟨_, rfl⟩, by kernel_rfl, by kernel_rfl, ⟨_, rfl⟩, by kernel_rfl, by kernel_rfl, ⟨_, rfl⟩, by kernel_rfl, by kernel_rfl, ⟨_, rfl⟩, by kernel_rfl, by kernel_rfl, ⟨_, rfl⟩, by kernel_rfl, by kernel_rfl, ⟨_, rfl⟩, by kernel_rfl, by kernel_rfl, ⟨_, rfl⟩, by kernel_rfl, by kernel_rfl, ⟨_, rfl⟩, by kernel_rfl, by kernel_rfl, ⟨_, rfl⟩, by kernel_rfl, by kernel_rfl, ⟨_, rfl⟩, by kernel_rfl, by kernel_rfl, ⟨_, rfl⟩, by kernel_rfl, by kernel_rfl, ⟨_, rfl⟩, by kernel_rfl, by kernel_rfl, trivial⟩
theorem laid_plainP (w : World) : laidMetH Tryd.prog Rows.tablePlaysRow.laid w = laidMet Tryd.prog Rows.tablePlaysRow.laid w := Go.MakeChecks.laidMetH_plain _ _ _ (by kernel_rfl)
/-- The errors lie there, no two at one place. -/
theorem glP_of {W : World} (h : laidMetH Tryd.prog Rows.tablePlaysRow.laid W) : ∃ G : Gl0, @Apart G ∧ ∀ g, g < 19 →
    W.cell? ⟨g, 0, none⟩ = some (.iface 123 (.pointer (some (@Gl0.A G g)))) ∧ W.heap[(@Gl0.A G g).block]? = some (.cells (@Gl0.c G g) (@Gl0.t G g) (0, 0)) := by
  rw [laid_plainP] at h
  obtain ⟨ps, hv, hnd, hrows⟩ := h
  obtain ⟨az, hs, _⟩ := laid_all Tryd.underlying26 row123 Tryd.underlying123 Tryd.underlying139 rfl rfl Tryd.underlying9 c139 c9 _ _ _ laid_sentP hv hnd hrows
  have hex : ∀ g, ∃ p : Array Value × TypeId, g < 19 → W.heap[(az.getD (posP g) default).block]? = some (.cells p.1 p.2 (0, 0)) := by
    intro g
    by_cases hg : g < 19
    · obtain ⟨_, c, t, h2⟩ := hs.get (posP g) (posP_ok g hg).1
      exact ⟨(c, t), fun _ => h2⟩
    · exact ⟨(#[], 0), fun h => absurd h hg⟩
  refine ⟨⟨fun g => az.getD (posP g) default, fun g => (Classical.choose (hex g)).1, fun g => (Classical.choose (hex g)).2⟩, ?_, ?_⟩
  · intro i j hi hj he
    exact posP_one i hi j hj (hs.one (posP_ok i hi).1 (posP_ok j hj).1 he)
  · intro g hg
    obtain ⟨h1, _⟩ := hs.get (posP g) (posP_ok g hg).1
    rw [(posP_ok g hg).2] at h1
    exact ⟨h1, Classical.choose_spec (hex g) hg⟩
end Go.Vx
