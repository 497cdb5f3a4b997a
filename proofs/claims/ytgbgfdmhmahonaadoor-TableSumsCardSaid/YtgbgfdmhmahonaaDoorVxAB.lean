/-
  slices.SortFunc at structs, at whatever length: the shelf's contract as a contract of chunks.
  Conditions: none.
-/
import Derived.Test.YtgbgfdmhmahonaaDoorVxU
import Derived.Shelf.SlSortCmp.NoneTotal
set_option linter.unusedVariables false
namespace Go.Vx
open Go Go.Proofs Go.Shelf
variable {C : Nat → Codec}
/-- The cells of a thing. -/
def encC (c : Codec) (x : c.α) : List Value := (c.enc x).map (SV.va noAd)
theorem encC_len (c : Codec) (x : c.α) : (encC c x).length = c.sz := by simp [encC, c.len]
theorem pm_get {α : Type} {p : α → Prop} [Inhabited (Subtype p)] {l : List α} (h : ∀ x ∈ l, p x) {i : Nat} (hi : i < l.length) (d : α) : ((l.pmap (fun x hx => (⟨x, hx⟩ : Subtype p)) h).toArray[i]!).1 = l.getD i d := by
  rw [getElem!_pos _ i (by simpa using hi)]
  simp [List.getD, hi]
theorem perm_val {α : Type} {p : α → Prop} : ∀ {a b : List (Subtype p)}, a.Perm b → (a.map (·.1)).Perm (b.map (·.1)) := fun h => h.map _
theorem pm_val {α : Type} {p : α → Prop} {l : List α} (h : ∀ x ∈ l, p x) : (l.pmap (fun x hx => (⟨x, hx⟩ : Subtype p)) h).map (·.1) = l := by
  rw [List.map_pmap]; simp

theorem sort_gen {P : Program} {ρ : Ren} (L : SlLaysF0.n6 P ρ) (t : Nat) (p : (C t).α → Prop) (hd : p (C t).dflt) (cf : (C t).α → (C t).α → Int) (hO : Go.Sort.SWO (ltOf fun x y : Subtype p => cf x.1 y.1)) (g : Nat) (hz : 0 < (C t).sz)
    (aE : ∀ w, (isAgg (ρ.t 24)).run P w = .ok true w) (zE : ∀ w, (Go.sizeOf (ρ.t 24)).run P w = .ok (C t).sz w) (e6 : ∀ args w, (callFunc (ρ.f 6) args).run P w = .ok (.enter (ρ.f 6) args) w) (eg : ∀ args w, (callFunc g args).run P w = .ok (.enter g args) w)
    (h1 : ∀ x, ∀ v ∈ encC (C t) x, v.oneCell' = true)
    (hcmp : ∀ x y, p x → p y → ∀ W : World, Calls P g #[.agg (encC (C t) x).toArray, .agg (encC (C t) y).toArray] W fun e w' => e = .returned (.int .i64 (cf x y)) ∧ ∃ q os', w' = Go.Sort.grow (W.drewN q) os')
    (b q : Nat) (l : List (C t).α) (n c : Nat) (hn : n ≤ l.length) (hp : ∀ s ∈ l.take n, p s) (hbig : n < 4611686018427387904) :
    Does (C := C) P (.fn (ρ.f 6)) [⟨b, q, (C t).sz, true, none, .rows t l⟩] [.sl 0 0 n c, .fn (.func g) [] []]
      [⟨List (C t).α, fun l' => l'.Perm (l.take n) ∧ l'.Pairwise (fun x y => ¬ cf y x < 0), fun _ => .tup [], fun l' => [⟨b, q, (C t).sz, true, none, .rows t (l' ++ l.drop n)⟩]⟩] := by
  intro w hm
  have hN : (l.take n).length = n := by rw [List.length_take]; omega
  letI : Inhabited (Subtype p) := ⟨⟨(C t).dflt, hd⟩⟩
  let d : Array (Subtype p) := ((l.take n).pmap (fun x hx => (⟨x, hx⟩ : Subtype p)) hp).toArray
  have hds : d.size = n := by simp [d, hN]
  let enc : Subtype p → List Value := fun x => encC (C t) x.1
  have hk : ∀ x, (enc x).length = (C t).sz := fun x => encC_len _ _
  have hrow := hm.ok _ (List.mem_singleton.2 rfl)
  simp only [Ck.ok, true_and] at hrow
  have hblk : b < w.heap.size := hm.lt _ (List.mem_singleton.2 rfl)
  have hfr : ∀ a : Addr, a.block = b → w.frozen? a = false := hm.wrok _ (List.mem_singleton.2 rfl) rfl rfl
  have hcell : ∀ (l' : List (C t).α) i f, i < l'.length → f < (C t).sz → ((((C t).enc (l'.getD i (C t).dflt)).getD f .junk).va (ads ([⟨b, q, (C t).sz, true, none, .rows t l⟩] : List (Ck C)))) = (encC (C t) (l'.getD i (C t).dflt))[f]! := by
    intro l' i f hi hf
    have hl := (C t).len (l'.getD i (C t).dflt)
    have e := congrArg (fun L => L[f]?) ((C t).flat (l'.getD i (C t).dflt) (ads ([⟨b, q, (C t).sz, true, none, .rows t l⟩] : List (Ck C))) noAd)
    simp only [List.getElem?_map, List.getElem?_eq_getElem (show f < ((C t).enc (l'.getD i (C t).dflt)).length by omega), Option.map_some, Option.some.injEq] at e
    rw [getElem!_pos _ f (by rw [encC_len]; exact hf)]
    simp only [encC, List.getElem_map]
    rw [← e]
    congr 1
    rw [List.getD_eq_getElem?_getD, List.getElem?_eq_getElem (show f < ((C t).enc (l'.getD i (C t).dflt)).length by omega)]
    rfl
  have hH : Go.Sort.HoldsK enc (C t).sz w b q d := by
    intro j hj
    simp only [Go.Sort.size_flatK, hds] at hj
    refine ⟨?_, hfr _ rfl⟩
    rw [Go.Sort.get_flatK _ _ _ _ (by rw [hds]; exact hj)]
    have hi : j / (C t).sz < n := Nat.div_lt_of_lt_mul (by rw [Nat.mul_comm]; exact hj)
    have hf : j % (C t).sz < (C t).sz := Nat.mod_lt _ hz
    have := hrow (j / (C t).sz) (by omega) (j % (C t).sz) hf
    rw [hcell l _ _ (by omega) hf] at this
    have e1 : (Ck.ad ({ block := b, base := q, sz := (C t).sz, wr := true, gl := none, cells := .rows t l } : Ck C)).at (j / (C t).sz) (j % (C t).sz) = ⟨b, q + j, none⟩ := by
      simp only [Ck.ad, Ad.at, Nat.div_add_mod' j (C t).sz]
    rw [e1] at this
    rw [this]
    have e2 : (d[j / (C t).sz]!).1 = l.getD (j / (C t).sz) (C t).dflt := by
      rw [pm_get hp (by omega) (C t).dflt]
      simp [List.getD, List.getElem?_take, hi]
    show some _ = some ((encC (C t) (d[j / (C t).sz]!).1)[j % (C t).sz]!)
    rw [e2]
  have hcon := AnyQ.slices_SortFunc (P := P) (ρ := ρ) L (C t).sz aE zE enc hk (fun x => h1 x.1) (fun x y => cf x.1 y.1) hO g #[] b q c d w eg
    (fun m os dk _ x y => hcmp x.1 y.1 x.2 y.2 _) hH hblk (by rw [hds]; exact hbig)
  rw [hds] at hcon
  have e0 : (SV.vas (ads ([⟨b, q, (C t).sz, true, none, .rows t l⟩] : List (Ck C))) [.sl 0 0 n c, .fn (.func g) [] []]).toArray = #[.slice (some ⟨b, q, none⟩) n c, .func (.func g) #[] #[]] := by
    simp [SV.vas, SV.va, ads, nth, Ck.ad, Ad.at]
  rw [e0]
  refine ⟨_, _, e6 _ w, hcon.mono ?_⟩
  rintro e w' ⟨rfl, d', k, os, hperm, hsort, rfl⟩
  obtain ⟨hs', _, hperm⟩ := hperm
  have hs' : d'.size = n := hs'.trans hds
  have hperm : d'.toList.Perm d.toList := by
    have ea : d'.extract 0 n = d' := by rw [← hs']; simp
    have eb : d.extract 0 n = d := by rw [← hds]; simp
    rw [ea, eb] at hperm
    exact hperm
  have hL : (d'.toList.map (·.1)).length = n := by simp [hs']
  have hH' := holdsK_sortWorldK_c enc (C t).sz w b q d d' k os hH hblk (by rw [hs', hds])
  have hsz0 : (Go.Sort.putRowK enc (C t).sz (Go.Sort.ahead w k) b q d').heap.size = w.heap.size := by
    unfold Go.Sort.putRowK; rw [Go.Sort.size_putRow]; rfl
  have hother : ∀ a : Addr, a.block < w.heap.size → (a.block ≠ b ∨ a.off < q ∨ q + n * (C t).sz ≤ a.off) → (sortWorldK enc (C t).sz w b q k d' os).cell? a = w.cell? a := by
    intro a ha hoff
    unfold sortWorldK
    rw [Go.Sort.cell?_grow _ _ _ (by rw [hsz0]; exact ha)]
    unfold Go.Sort.putRowK
    rw [Go.Sort.cell?_putRow_other]
    · rfl
    · rw [Go.Sort.size_flatK, hs']; exact hoff
  have hheap : ∀ j, j < w.heap.size → j ≠ b → (sortWorldK enc (C t).sz w b q k d' os).heap[j]? = w.heap[j]? := by
    intro j hj hjb
    unfold sortWorldK
    rw [Go.Sort.heap_grow_old _ _ (by rw [hsz0]; exact hj)]
    unfold Go.Sort.putRowK Go.Sort.putRow Go.Sort.mapBlock
    simp only [Array.getElem?_modify]
    rw [if_neg (Ne.symm hjb)]
    rfl
  refine ⟨.tup [], [⟨b, q, (C t).sz, true, none, .rows t (d'.toList.map (·.1) ++ l.drop n)⟩], by simp [SV.va, SV.vas], ?_, ?_, ?_⟩
  · refine ⟨rfl, rfl, rfl, ?_, ?_, ?_, ?_, ?_, ?_, ?_, ?_, ?_⟩
    · exact size_sortWorldK_c enc (C t).sz w b q k d' os
    · intro j hj hS
      refine hheap j hj fun hjb => hS ⟨_, List.mem_singleton.2 rfl, rfl, hjb.symm⟩
    · intro c' hc' _ _
      exact ⟨_, List.mem_singleton.2 rfl, rfl, by rw [List.mem_singleton.1 hc']⟩
    · intro c' hc'
      rw [List.mem_singleton.1 hc']
      simp only [Ck.ok, true_and]
      intro i hi f hf
      have hlen : (d'.toList.map (·.1) ++ l.drop n).length = l.length := by rw [List.length_append, hL, List.length_drop]; omega
      have hc2 := hcell (d'.toList.map (·.1) ++ l.drop n) i f hi hf
      have e3 : ads ([⟨b, q, (C t).sz, true, none, .rows t (d'.toList.map (·.1) ++ l.drop n)⟩] : List (Ck C)) = ads ([⟨b, q, (C t).sz, true, none, .rows t l⟩] : List (Ck C)) := by
        funext k; cases k <;> rfl
      rw [e3, hc2]
      by_cases hin : i < n
      · have := (hH'.cell (i := i) (c := f) (by rw [hs']; exact hin) hf).1
        have e1 : (Ck.ad ({ block := b, base := q, sz := (C t).sz, wr := true, gl := none, cells := .rows t (d'.toList.map (·.1) ++ l.drop n) } : Ck C)).at i f = ⟨b, q + i * (C t).sz + f, none⟩ := by
          simp only [Ck.ad, Ad.at, Nat.add_assoc]
        rw [e1, this]
        have e2 : (d'.toList.map (·.1) ++ l.drop n).getD i (C t).dflt = (d'[i]!).1 := by
          rw [getElem!_pos _ i (by rw [hs']; exact hin)]
          simp [List.getD, List.getElem?_append, hs', hin]
        rw [e2]
      · have := hrow i (by omega) f hf
        rw [hcell l i f (by omega) hf] at this
        have e2 : (d'.toList.map (·.1) ++ l.drop n).getD i (C t).dflt = l.getD i (C t).dflt := by
          simp only [List.getD_eq_getElem?_getD]
          rw [List.getElem?_append_right (by rw [hL]; omega), hL, List.getElem?_drop, show n + (i - n) = i by omega]
        rw [e2, ← this]
        refine hother _ hblk (.inr (.inr ?_))
        show q + n * (C t).sz ≤ q + (i * (C t).sz + f)
        have := Nat.mul_le_mul_right (C t).sz (show n ≤ i by omega)
        omega
    · intro c' hc' _ _ a ha
      rw [List.mem_singleton.1 hc'] at ha
      unfold sortWorldK
      rw [Go.Sort.frozen?_grow _ _ _ (by rw [hsz0, ha]; exact hblk)]
      unfold Go.Sort.putRowK
      rw [Go.Sort.frozen?_putRow]
      exact hfr a ha
    · intro i j hi hj hij
      simp at hi hj; omega
    · intro c' hc'
      rw [List.mem_singleton.1 hc']
      exact Nat.lt_of_lt_of_le hblk (size_sortWorldK_c enc (C t).sz w b q k d' os)
    · intro c' hc' g' hg'
      rw [List.mem_singleton.1 hc'] at hg'; cases hg'
    · refine hm.more.mono hm.inS ?_ ?_ (Nat.le_refl _)
      · intro j hj hno
        exact hheap j hj fun hjb => hno _ (List.mem_singleton.2 rfl) rfl rfl hjb.symm
      · intro c' hc' hl'
        rw [List.mem_singleton.1 hc']
        exact .inl ⟨_, List.mem_singleton.2 rfl, rfl, rfl⟩
  · refine ⟨Nat.le_refl _, ?_, ?_⟩
    · intro k hk
      have : k = 0 := by simp at hk; omega
      subst this
      exact ⟨rfl, rfl, rfl, rfl⟩
    · intro k h0 h2
      simp at h0 h2; omega
  · refine Ends.one (d'.toList.map (·.1)) ⟨?_, ?_⟩ ⟨rfl, rfl⟩
    · have := perm_val hperm
      have e2 : d.toList.map (·.1) = l.take n := by
        show ((l.take n).pmap (fun x hx => (⟨x, hx⟩ : Subtype p)) hp).map (·.1) = l.take n
        exact pm_val hp
      rw [e2] at this
      exact this
    · rw [List.pairwise_iff_getElem]
      intro i j hi hj hij
      simp only [List.length_map, Array.length_toList, hs'] at hi hj
      have := hsort i j (Nat.zero_le _) hij hj
      rw [getElem!_pos _ i (by rw [hs']; exact hi), getElem!_pos _ j (by rw [hs']; exact hj)] at this
      unfold ltOf at this
      simpa using this
theorem sort_nil {P : Program} {ρ : Ren} (L : SlLaysF0.n6 P ρ) (e6 : ∀ args w, (callFunc (ρ.f 6) args).run P w = .ok (.enter (ρ.f 6) args) w) (g : Nat) :
    Does (C := C) P (.fn (ρ.f 6)) [] [.nils, .fn (.func g) [] []] [⟨Unit, fun _ => True, fun _ => .tup [], fun _ => []⟩] := by
  intro w hm
  have hcon := AnyF.slices_SortFunc_none (P := P) (ρ := ρ) L none 0 (.func (.func g) #[] #[]) w
  have e0 : (SV.vas (ads ([] : List (Ck C))) [.nils, .fn (.func g) [] []]).toArray = #[.slice none 0 0, .func (.func g) #[] #[]] := by
    simp [SV.vas, SV.va]
  rw [e0]
  refine ⟨_, _, e6 _ w, hcon.mono ?_⟩
  rintro e w' ⟨rfl, rfl⟩
  refine ⟨.tup [], [], by simp [SV.va, SV.vas], hm, ⟨Nat.le_refl _, fun k hk => ?_, fun k _ h2 => ?_⟩, Ends.one () trivial ⟨rfl, rfl⟩⟩
  · simp at hk
  · simp at h2
end Go.Vx
