/-
  Round 20: a table's two maps as one list of slots.
  Conditions: none.
-/
import Derived.Test.YtgbgfdmhmahonaaDoorTaB
import Derived.Test.YtgbgfdmhmahonaaDoorVxAA
set_option linter.unusedSectionVars false
set_option linter.unusedVariables false
set_option linter.unusedSimpArgs false
namespace Go.Vx
open Go Go.Proofs

/-! Lists of slots. -/
def lhas (l : List Slot) (k : Int) : Bool := l.any fun s => decide (s.key = k)
def lget (l : List Slot) (k : Int) : Slot := (l.find? fun s => decide (s.key = k)).getD slot0
def lat (l : List Slot) (p : Pl) : Bool := l.any fun s => decide (s.pl = p)
def lwho (l : List Slot) (p : Pl) : Int := ((l.find? fun s => decide (s.pl = p)).map (·.key)).getD 0
def ldel (l : List Slot) (k : Int) : List Slot := l.filter fun s => !decide (s.key = k)
def lset (l : List Slot) (s : Slot) : List Slot := ldel l s.key ++ [s]
/-- No key, no page twice. -/
structure Lok (l : List Slot) : Prop where
  nk : (l.map (·.key)).Nodup
  np : (l.map (·.pl)).Nodup
theorem Lok.del {l : List Slot} (h : Lok l) (k : Int) : Lok (ldel l k) :=
  ⟨h.nk.sublist (List.filter_sublist.map _), h.np.sublist (List.filter_sublist.map _)⟩
theorem mem_ldel {l : List Slot} {k : Int} {s : Slot} : s ∈ ldel l k ↔ s ∈ l ∧ s.key ≠ k := by simp [ldel]
theorem lhas_iff {l : List Slot} {k : Int} : lhas l k = true ↔ ∃ s ∈ l, s.key = k := by simp [lhas]
theorem lat_iff {l : List Slot} {p : Pl} : lat l p = true ↔ ∃ s ∈ l, s.pl = p := by simp [lat]
theorem nodup_inj {α β : Type} {f : α → β} : ∀ {l : List α}, (l.map f).Nodup → ∀ {a b : α}, a ∈ l → b ∈ l → f a = f b → a = b
  | [], _, _, _, h, _, _ => by cases h
  | x :: r, h, a, b, ha, hb, e => by
    simp only [List.map_cons, List.nodup_cons] at h
    rcases List.mem_cons.1 ha with ha' | ha' <;> rcases List.mem_cons.1 hb with hb' | hb'
    · rw [ha', hb']
    · exact (h.1 (List.mem_map.2 ⟨b, hb', by rw [← e, ha']⟩)).elim
    · exact (h.1 (List.mem_map.2 ⟨a, ha', by rw [e, hb']⟩)).elim
    · exact nodup_inj h.2 ha' hb' e
theorem Lok.key {l : List Slot} (h : Lok l) {a b : Slot} (ha : a ∈ l) (hb : b ∈ l) (e : a.key = b.key) : a = b := nodup_inj h.nk ha hb e
theorem Lok.pl {l : List Slot} (h : Lok l) {a b : Slot} (ha : a ∈ l) (hb : b ∈ l) (e : a.pl = b.pl) : a = b := nodup_inj h.np ha hb e
theorem find_of {α : Type} {p : α → Bool} {l : List α} {a : α} (ha : a ∈ l) (hp : p a = true) (hu : ∀ b ∈ l, p b = true → b = a) : l.find? p = some a := by
  cases h : l.find? p with
  | none => exact absurd hp (by simpa using List.find?_eq_none.1 h a ha)
  | some b => rw [hu b (List.mem_of_find?_eq_some h) (List.find?_some h)]
theorem Lok.get {l : List Slot} (h : Lok l) {s : Slot} (hs : s ∈ l) : lget l s.key = s := by
  unfold lget
  rw [find_of hs (by simp) (fun b hb hk => h.key hb hs (by simpa using hk))]; rfl
theorem Lok.who {l : List Slot} (h : Lok l) {s : Slot} (hs : s ∈ l) : lwho l s.pl = s.key := by
  unfold lwho
  rw [find_of hs (by simp) (fun b hb hk => h.pl hb hs (by simpa using hk))]; rfl
theorem lget_mem {l : List Slot} {k : Int} (h : lhas l k = true) : lget l k ∈ l ∧ (lget l k).key = k := by
  unfold lhas at h
  unfold lget
  cases hf : l.find? fun s => decide (s.key = k) with
  | none =>
    obtain ⟨s, hs, hk⟩ := List.any_eq_true.1 h
    exact absurd hk (by simpa using List.find?_eq_none.1 hf s hs)
  | some s => exact ⟨List.mem_of_find?_eq_some hf, by simpa using List.find?_some hf⟩
theorem lwho_mem {l : List Slot} {p : Pl} (h : lat l p = true) : ∃ s ∈ l, s.pl = p ∧ s.key = lwho l p := by
  unfold lat at h
  unfold lwho
  cases hf : l.find? fun s => decide (s.pl = p) with
  | none =>
    obtain ⟨s, hs, hk⟩ := List.any_eq_true.1 h
    exact absurd hk (by simpa using List.find?_eq_none.1 hf s hs)
  | some s => exact ⟨s, List.mem_of_find?_eq_some hf, by simpa using List.find?_some hf, rfl⟩
theorem Lok.set {l : List Slot} (h : Lok l) {s : Slot} (hp : lat l s.pl = true → lwho l s.pl = s.key) : Lok (lset l s) := by
  have hd := h.del s.key
  unfold lset
  constructor
  · rw [List.map_append, List.nodup_append]
    refine ⟨hd.nk, by simp, ?_⟩
    intro a ha b hb e
    obtain ⟨t, ht, rfl⟩ := List.mem_map.1 ha
    have hb : b = s.key := by simpa using hb
    exact (mem_ldel.1 ht).2 (e.trans hb)
  · rw [List.map_append, List.nodup_append]
    refine ⟨hd.np, by simp, ?_⟩
    intro a ha b hb e
    obtain ⟨t, ht, rfl⟩ := List.mem_map.1 ha
    have hb : b = s.pl := by simpa using hb
    obtain ⟨ht1, ht2⟩ := mem_ldel.1 ht
    have e : t.pl = s.pl := e.trans hb
    have := hp (lat_iff.2 ⟨t, ht1, e⟩)
    rw [← e, h.who ht1] at this
    exact ht2 this

variable [Gl]
/-- The two maps say the same. -/
structure Rep (x : Tb) : Prop where
  ks : ∀ e ∈ x.kl, e.2.1.key = e.1
  pp : x.pl.map (fun e => (e.1, e.2.1)) = x.kl.map (fun e => (e.2.1.pl, e.1))
  ok : Lok (x.kl.map (·.2.1))
  bk : Births (c := C0 3) (d := C0 53) x.kl x.kc
  bp : Births (c := C0 30) (d := C0 3) x.pl x.pc
/-- Its slots. -/
abbrev tl (x : Tb) : List Slot := x.kl.map (·.2.1)
section
variable {x : Tb} (h : Rep x)
include h
theorem Rep.khas (k : Int) : khas x.kl k = lhas (tl x) k := by
  unfold Vx.khas lhas
  rw [mhas_any, List.any_map]
  refine Bool.eq_iff_iff.2 ?_
  simp only [List.any_eq_true]
  constructor
  · rintro ⟨e, he, hb⟩
    have hb : k = e.1 := @of_decide_eq_true _ (Int.instDecidableEq _ _) hb
    exact ⟨e, he, by simp [h.ks e he, hb]⟩
  · rintro ⟨e, he, hb⟩
    have hb : e.2.1.key = k := by simpa using hb
    exact ⟨e, he, @decide_eq_true _ (Int.instDecidableEq _ _) (by rw [← hb, h.ks e he])⟩
theorem Rep.kget (k : Int) : kget x.kl k = lget (tl x) k := by
  unfold Vx.kget lget
  rw [mget_find, List.find?_map]
  have : x.kl.find? ((fun s => decide (s.key = k)) ∘ fun e => e.2.1) = x.kl.find? fun e => (C0 3).beq k e.1 := by
    rw [← List.head?_filter, ← List.head?_filter]
    congr 1
    refine List.filter_congr fun e he => ?_
    simp only [Function.comp, h.ks e he]
    exact Bool.eq_iff_iff.2 ⟨fun hb => @decide_eq_true _ (Int.instDecidableEq _ _) (of_decide_eq_true hb).symm, fun hb => decide_eq_true (@of_decide_eq_true _ (Int.instDecidableEq _ _) hb).symm⟩
  rw [this]
  rfl
theorem Rep.mem {e : Pl × Int × Nat} (he : e ∈ x.pl) : ∃ s ∈ tl x, s.pl = e.1 ∧ s.key = e.2.1 := by
  have : (e.1, e.2.1) ∈ x.kl.map (fun e => (e.2.1.pl, e.1)) := by rw [← h.pp]; exact List.mem_map.2 ⟨e, he, rfl⟩
  obtain ⟨f, hf, e'⟩ := List.mem_map.1 this
  simp only [Prod.mk.injEq] at e'
  exact ⟨f.2.1, List.mem_map.2 ⟨f, hf, rfl⟩, e'.1, by rw [h.ks f hf]; exact e'.2⟩
theorem Rep.mem' {s : Slot} (hs : s ∈ tl x) : ∃ e ∈ x.pl, e.1 = s.pl ∧ e.2.1 = s.key := by
  obtain ⟨f, hf, rfl⟩ := List.mem_map.1 hs
  have : (f.2.1.pl, f.1) ∈ x.pl.map (fun e => (e.1, e.2.1)) := by rw [h.pp]; exact List.mem_map.2 ⟨f, hf, rfl⟩
  obtain ⟨e, he, e'⟩ := List.mem_map.1 this
  simp only [Prod.mk.injEq] at e'
  exact ⟨e, he, e'.1, by rw [h.ks f hf]; exact e'.2⟩
end
theorem beq30 (p q : Pl) : (C0 30).beq p q = true ↔ p = q := by
  show (decide (p.1 = q.1) && decide (p.2 = q.2)) = true ↔ _
  simp [Prod.ext_iff]
section
variable {x : Tb} (h : Rep x)
include h
theorem Rep.phas (p : Pl) : phas x.pl p = lat (tl x) p := by
  unfold Vx.phas
  rw [mhas_any]
  refine Bool.eq_iff_iff.2 ?_
  rw [lat_iff, List.any_eq_true]
  constructor
  · rintro ⟨e, he, hb⟩
    obtain ⟨s, hs, h1, _⟩ := h.mem he
    exact ⟨s, hs, by rw [h1, ((beq30 _ _).1 hb)]⟩
  · rintro ⟨s, hs, rfl⟩
    obtain ⟨e, he, h1, _⟩ := h.mem' hs
    exact ⟨e, he, (beq30 _ _).2 h1.symm⟩
theorem Rep.pget (p : Pl) : pget x.pl p = lwho (tl x) p := by
  cases ha : lat (tl x) p with
  | false =>
    have hb : Vx.phas x.pl p = false := by rw [h.phas, ha]
    have e1 : Vx.pget x.pl p = 0 := by
      unfold Vx.pget mget
      unfold Vx.phas mhas at hb
      cases hm : mfix (C0 30) (C0 3) p x.pl 0 with
      | none => rfl
      | some q => rw [hm] at hb; cases hb
    have e2 : lwho (tl x) p = 0 := by
      unfold lwho
      cases hf : (tl x).find? fun s => decide (s.pl = p) with
      | none => rfl
      | some s =>
        have := lat_iff.2 ⟨s, List.mem_of_find?_eq_some hf, by simpa using List.find?_some hf⟩
        rw [ha] at this; cases this
    rw [e1, e2]
  | true =>
    obtain ⟨s, hs, h1, h2⟩ := lwho_mem ha
    obtain ⟨e, he, h3, h4⟩ := h.mem' hs
    unfold Vx.pget
    rw [mget_find]
    have hf : x.pl.find? (fun e => (C0 30).beq p e.1) ≠ none := by
      intro hn
      exact absurd ((beq30 _ _).2 (h1.symm.trans h3.symm)) (by simpa using List.find?_eq_none.1 hn e he)
    cases hf' : x.pl.find? (fun e => (C0 30).beq p e.1) with
    | none => exact absurd hf' hf
    | some f =>
      obtain ⟨t, ht, g1, g2⟩ := h.mem (List.mem_of_find?_eq_some hf')
      have g3 := List.find?_some hf'
      have g3 := (beq30 p f.1).1 g3
      have : t = s := h.ok.pl ht hs (by rw [g1, h1, g3])
      show f.2.1 = _
      rw [← g2, this, h2]
theorem Rep.pnd : (x.pl.map (·.1)).Nodup := by
  have e : x.pl.map (·.1) = (tl x).map (·.pl) := by
    have := congrArg (List.map Prod.fst) h.pp
    simpa [List.map_map, Function.comp_def] using this
  rw [e]; exact h.ok.np
end
theorem erase_filter {α : Type} {p : α → Bool} : ∀ {l : List α}, (∀ a b, a ∈ l → b ∈ l → p a = true → p b = true → a = b) → l.Nodup → l.eraseP p = l.filter fun a => !p a
  | [], _, _ => rfl
  | x :: r, h, hn => by
    rw [List.nodup_cons] at hn
    rw [List.eraseP_cons, List.filter_cons]
    cases hp : p x with
    | true =>
      simp only [cond_true, Bool.not_true, Bool.false_eq_true, if_false]
      refine (List.filter_eq_self.2 fun b hb => ?_).symm
      cases hb' : p b with
      | false => rfl
      | true => exact (hn.1 (by rw [h x b (by simp) (by simp [hb]) hp hb']; exact hb)).elim
    | false =>
      simp only [cond_false, Bool.not_false, if_true]
      rw [erase_filter (fun a b ha hb => h a b (by simp [ha]) (by simp [hb])) hn.2]
theorem nodup_of_map {α β : Type} {f : α → β} {l : List α} (h : (l.map f).Nodup) : l.Nodup := by
  induction l with
  | nil => simp
  | cons x r ih =>
    simp only [List.map_cons, List.nodup_cons] at h ⊢
    exact ⟨fun hx => h.1 (List.mem_map.2 ⟨x, hx, rfl⟩), ih h.2⟩
theorem Rep.kdel {x : Tb} (h : Rep x) (k : Int) : kdel x.kl k = x.kl.filter fun e => !decide (e.2.1.key = k) := by
  unfold Vx.kdel
  have hk : (x.kl.map (·.1)).Nodup := by
    have e : x.kl.map (·.1) = (tl x).map (·.key) := by
      rw [List.map_map]
      exact List.map_congr_left fun e he => (h.ks e he).symm
    rw [e]; exact h.ok.nk
  rw [mdel_erase, erase_filter ?_ (nodup_of_map hk)]
  · refine List.filter_congr fun e he => ?_
    rw [h.ks e he]
    exact congrArg not (Bool.eq_iff_iff.2 ⟨fun hb => decide_eq_true (@of_decide_eq_true _ (Int.instDecidableEq _ _) hb).symm, fun hb => @decide_eq_true _ (Int.instDecidableEq _ _) (of_decide_eq_true hb).symm⟩)
  · intro a b ha hb h1 h2
    have h1 : k = a.1 := @of_decide_eq_true _ (Int.instDecidableEq _ _) h1
    have h2 : k = b.1 := @of_decide_eq_true _ (Int.instDecidableEq _ _) h2
    exact nodup_inj hk ha hb (h1.symm.trans h2)
theorem Rep.pdel {x : Tb} (h : Rep x) (p : Pl) : pdel x.pl p = x.pl.filter fun e => !decide (e.1 = p) := by
  unfold Vx.pdel
  rw [mdel_erase, erase_filter ?_ (nodup_of_map h.pnd)]
  · refine List.filter_congr fun e he => ?_
    exact congrArg not (Bool.eq_iff_iff.2 ⟨fun hb => decide_eq_true ((beq30 _ _).1 hb).symm, fun hb => (beq30 _ _).2 (of_decide_eq_true hb).symm⟩)
  · intro a b ha hb h1 h2
    exact nodup_inj h.pnd ha hb (((beq30 p a.1).1 h1).symm.trans ((beq30 p b.1).1 h2))
theorem filter_pp {α β : Type} {l : List α} {m : List β} {f : α → Pl × Int} {g : β → Pl × Int} (h : l.map f = m.map g) (p : Pl × Int → Bool) : (l.filter (p ∘ f)).map f = (m.filter (p ∘ g)).map g := by
  rw [← List.filter_map, ← List.filter_map, h]
theorem Rep.drop {x : Tb} (h : Rep x) (k : Int) : Rep (tdrop x k) ∧ tl (tdrop x k) = ldel (tl x) k := by
  have hl : tl (tdrop x k) = ldel (tl x) k := by
    show (Vx.kdel x.kl k).map (·.2.1) = _
    rw [h.kdel]
    unfold ldel
    rw [List.filter_map]; rfl
  have hp : (tdrop x k).pl.map (fun e => (e.1, e.2.1)) = (tdrop x k).kl.map (fun e => (e.2.1.pl, e.1)) := by
    show (bif Vx.khas x.kl k then Vx.pdel x.pl (Vx.kget x.kl k).pl else x.pl).map _ = (Vx.kdel x.kl k).map _
    rw [h.khas, h.kget, h.kdel]
    cases hh : lhas (tl x) k with
    | false =>
      rw [List.filter_eq_self.2 (fun e he => ?_)]
      · exact h.pp
      · have : ¬ e.2.1.key = k := fun hk => by
          have hem : e.2.1 ∈ tl x := List.mem_map.2 ⟨e, he, rfl⟩
          have := lhas_iff.2 ⟨e.2.1, hem, hk⟩
          rw [hh] at this; cases this
        simp [this]
    | true =>
      obtain ⟨hm, hk⟩ := lget_mem hh
      simp only [cond_true]
      rw [h.pdel]
      have := filter_pp h.pp (fun q => !decide (q.1 = (lget (tl x) k).pl))
      simp only [Function.comp_def] at this
      rw [this]
      congr 1
      refine List.filter_congr fun e he => ?_
      have hem : e.2.1 ∈ tl x := List.mem_map.2 ⟨e, he, rfl⟩
      refine congrArg not (decide_eq_decide.2 ⟨fun hp => ?_, fun hp => ?_⟩)
      · rw [h.ok.pl hem hm hp]; exact hk
      · rw [h.ok.key hem hm (hp.trans hk.symm)]
  have hsub : (Vx.kdel x.kl k).Sublist x.kl := by rw [h.kdel]; exact List.filter_sublist
  refine ⟨⟨fun e he => h.ks e (hsub.subset he), hp, ?_, h.bk.sub hsub, ?_⟩, hl⟩
  · show Lok (tl (tdrop x k))
    rw [hl]; exact h.ok.del k
  · refine h.bp.sub ?_
    show (bif Vx.khas x.kl k then Vx.pdel x.pl (Vx.kget x.kl k).pl else x.pl).Sublist x.pl
    cases Vx.khas x.kl k with
    | false => exact List.Sublist.refl _
    | true => simp only [cond_true]; rw [h.pdel]; exact List.filter_sublist
/-- A key given a page. -/
abbrev tset (x : Tb) (s : Slot) : Tb := ⟨x.tp, x.tq, x.bs, x.ps, x.kb, (tdrop x s.key).kl ++ [(s.key, s, x.kc)], x.kc + 1, x.pb, (tdrop x s.key).pl ++ [(s.pl, s.key, x.pc)], x.pc + 1⟩
theorem Rep.set {x : Tb} (h : Rep x) {s : Slot} (hp : lat (tl x) s.pl = true → lwho (tl x) s.pl = s.key) : Rep (tset x s) ∧ tl (tset x s) = lset (tl x) s := by
  obtain ⟨hd, hl⟩ := h.drop s.key
  have hl' : tl (tset x s) = lset (tl x) s := by
    show ((tdrop x s.key).kl ++ [(s.key, s, x.kc)]).map (·.2.1) = _
    rw [List.map_append]
    show tl (tdrop x s.key) ++ [s] = _
    rw [hl]; rfl
  refine ⟨⟨fun e he => ?_, ?_, ?_, hd.bk.add _ _, hd.bp.add _ _⟩, hl'⟩
  · rcases List.mem_append.1 he with he | he
    · exact hd.ks e he
    · have : e = (s.key, s, x.kc) := by simpa using he
      rw [this]
  · show ((tdrop x s.key).pl ++ [(s.pl, s.key, x.pc)]).map _ = ((tdrop x s.key).kl ++ [(s.key, s, x.kc)]).map _
    rw [List.map_append, List.map_append, hd.pp]
    rfl
  · show Lok (tl (tset x s))
    rw [hl']; exact h.ok.set hp
theorem lhas_del (l : List Slot) (k : Int) : lhas (ldel l k) k = false := by
  cases h : lhas (ldel l k) k with
  | false => rfl
  | true =>
    obtain ⟨s, hs, hk⟩ := lhas_iff.1 h
    exact ((mem_ldel.1 hs).2 hk).elim
theorem lat_del {l : List Slot} (hl : Lok l) {p : Pl} {k : Int} (h : lat l p = true → lwho l p = k) : lat (ldel l k) p = false := by
  cases hc : lat (ldel l k) p with
  | false => rfl
  | true =>
    obtain ⟨s, hs, rfl⟩ := lat_iff.1 hc
    obtain ⟨h1, h2⟩ := mem_ldel.1 hs
    have := h (lat_iff.2 ⟨s, h1, rfl⟩)
    rw [hl.who h1] at this
    exact (h2 this).elim
theorem Rep.new (a b : Nat) (p q : Int) (c d : Nat) : Rep ⟨a, b, p, q, c, [], 0, d, [], 0⟩ := ⟨(fun _ h => by cases h), rfl, ⟨by simp, by simp⟩, Births.nil _, Births.nil _⟩
end Go.Vx
