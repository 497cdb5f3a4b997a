/-
  The symbolic evaluator, twenty-third part: what a row's laid sentinels give a walk, a whole list of them.
  Conditions: none.
-/
import Derived.Test.YtgbgfdmhmahonaaDoorVxU
import Derived.Stop.LaidErr
set_option linter.unusedVariables false
namespace Go.Vx
open Go Go.RowKit Go.ChangeShapes

/-- A list of sentinels, with the numbers of their variables. -/
def SentL (P : Program) (nm : String) (ti : TypeId) : List (String × DataW Unit) → List Nat → Prop
  | [], [] => True
  | x :: r, g :: s => (∃ text, x.2 = .iface nm (.ptr (.agg [.lit (.string text)]))) ∧ P.globalNamed x.1 = some g ∧ (P.globals[g]?).map (·.type) = some ti ∧ SentL P nm ti r s
  | _, _ => False
/-- Where they lie: no two at one place, each in a row of its own that nobody writes. -/
def SentAt (W : World) (tp : TypeId) : List Nat → List Addr → Prop
  | [], [] => True
  | g :: s, a :: t => W.cell? ⟨g, 0, none⟩ = some (.iface tp (.pointer (some a))) ∧ (∃ c ty, W.heap[a.block]? = some (.cells c ty (0, 0))) ∧ a ∉ t ∧ SentAt W tp s t
  | _, _ => False

theorem laid_all {P : Program} {W : World} {nm : String} {ti tp te ts : TypeId} {ms : Array (String × TypeId)} {f : Field}
    (hi : P.underlying ti = some (.interface ms)) (hrow : ∀ u, P.typeName? 3 u = some nm → u = tp) (hp : P.underlying tp = some (.pointer te)) (he : P.underlying te = some (.struct #[f]))
    (hft : f.type = ts) (hfo : f.offset = 0) (hs : P.underlying ts = some .string) (hc : P.cellsOf te = 1) (hcs : P.cellsOf ts = 1) :
    ∀ (L : List (String × DataW Unit)) (G : List Nat) (ps : List MemPlace), SentL P nm ti L G → DataW.LaidVars P W L ps → ps.Nodup →
      (∀ b off, MemPlace.cell b off ∈ ps → (∃ c t, W.heap[b]? = some (.cells c t (0, 0))) ∧ ∀ u v, W.cell? ⟨b, off, none⟩ = some (.iface u v) → Value.okWide P W .any 0 u v) →
      ∃ as, SentAt W tp G as ∧ ∀ a ∈ as, MemPlace.cell a.block a.off ∈ ps
  | [], [], ps, _, _, _, _ => ⟨[], trivial, fun a h => by cases h⟩
  | [], _ :: _, _, h, _, _, _ => h.elim
  | _ :: _, [], _, h, _, _, _ => h.elim
  | (n, d) :: r, g :: s, ps, hL, hv, hnd, hrows => by
    obtain ⟨⟨text, rfl⟩, hg, ht, hL⟩ := hL
    obtain ⟨g', t', cs, fu, p, q, hg', ht', hv0, hd, hq, rfl⟩ := hv
    obtain rfl := Option.some.inj (hg.symm.trans hg')
    obtain rfl := Option.some.inj (ht.symm.trans ht')
    obtain ⟨l⟩ := cs
    have ok0 : ∀ u v, l = [.iface u v] → Value.okWide P W .any 0 u v := fun u v e => by
      subst e
      exact (hrows g 0 (by simp [MemPlace.row])).2 u v (by simpa using World.var?_cell hg' hv0 0)
    obtain ⟨a, str, rfl, hca, hsa, hza, rfl⟩ := errorString_of_trod hi hrow hp he hft hfo hs hc hcs hd ok0
    have hsub : q.Sublist (MemPlace.row ⟨g, 0, none⟩ (#[Value.iface tp (.pointer (some a))]).size ++ MemPlace.row a 1 ++ q) := List.sublist_append_right _ _
    obtain ⟨as, h1, h2⟩ := laid_all hi hrow hp he hft hfo hs hc hcs r s q hL hq (hnd.sublist hsub) (fun b off hm => hrows b off (hsub.subset hm))
    refine ⟨a :: as, ⟨by simpa using World.var?_cell hg' hv0 0, (hrows a.block a.off (by simp [MemPlace.row])).1, fun hm => ?_, h1⟩, fun x hx => ?_⟩
    · have := h2 a hm
      have hd2 := (List.nodup_append.1 hnd).2.2 (.cell a.block a.off) (by simp [MemPlace.row]) _ this
      exact hd2 rfl
    · rcases List.mem_cons.1 hx with rfl | hx
      · simp [MemPlace.row]
      · exact hsub.subset (h2 x hx)

theorem SentAt.get {W : World} {tp : TypeId} : ∀ {G : List Nat} {as : List Addr}, SentAt W tp G as → ∀ i, i < G.length →
    W.cell? ⟨G.getD i 0, 0, none⟩ = some (.iface tp (.pointer (some (as.getD i default)))) ∧ ∃ c ty, W.heap[(as.getD i default).block]? = some (.cells c ty (0, 0))
  | [], _, _, i, h => by simp at h
  | g :: s, [], h, _, _ => h.elim
  | g :: s, a :: t, h, 0, _ => ⟨h.1, h.2.1⟩
  | g :: s, a :: t, h, i + 1, hi => by simpa using SentAt.get h.2.2.2 i (by simpa using hi)
theorem SentAt.apart {W : World} {tp : TypeId} : ∀ {G : List Nat} {as : List Addr}, SentAt W tp G as → as.length = G.length ∧ as.Nodup
  | [], [], _ => ⟨rfl, List.nodup_nil⟩
  | [], _ :: _, h => h.elim
  | _ :: _, [], h => h.elim
  | g :: s, a :: t, h => by
    obtain ⟨h1, h2⟩ := SentAt.apart h.2.2.2
    exact ⟨by simp [h1], List.nodup_cons.2 ⟨h.2.2.1, h2⟩⟩
theorem SentAt.one {W : World} {tp : TypeId} {G : List Nat} {as : List Addr} (h : SentAt W tp G as) {i j : Nat} (hi : i < G.length) (hj : j < G.length) (he : as.getD i default = as.getD j default) : i = j := by
  obtain ⟨h1, h2⟩ := h.apart
  have hi' : i < as.length := by omega
  have hj' : j < as.length := by omega
  rw [List.getD_eq_getElem?_getD, List.getD_eq_getElem?_getD, List.getElem?_eq_getElem hi', List.getElem?_eq_getElem hj'] at he
  exact (List.getElem_inj h2).1 he
end Go.Vx
