/-
  The symbolic evaluator, eighth part: new memory: variables, slices, append.
  Conditions: none.
-/
import Derived.Test.YtgbgfdmhmahonaaDoorVxG
namespace Go.Vx
open Go
variable {C : Nat → Codec}

def Ck.lt (n : Nat) (c : Ck C) : Bool := match c.cells with
  | .one vs => SV.lts n vs
  | .it mc _ _ => Nat.blt mc n
  | _ => true
def memLt (n : Nat) : List (Ck C) → Bool
  | [] => true
  | c :: r => c.lt n && memLt n r
def tmLt (n : Nat) : Tm → Bool
  | [] => true
  | (_, v) :: r => SV.lt n v && tmLt n r

theorem memLt_mem {n : Nat} {m : List (Ck C)} (h : memLt n m = true) {c : Ck C} (hc : c ∈ m) : c.lt n = true := by
  induction m with
  | nil => cases hc
  | cons x r ih =>
    simp only [memLt, Bool.and_eq_true] at h
    rcases List.mem_cons.1 hc with e | e
    · subst e; exact h.1
    · exact ih h.2 e
theorem tmLt_get {n : Nat} : ∀ {tm : Tm}, tmLt n tm = true → ∀ t, SV.lt n (get tm t) = true
  | [], _, t => rfl
  | (k, v) :: r, h, t => by
    simp only [tmLt, Bool.and_eq_true] at h
    rw [get_put]
    split
    · exact h.1
    · exact tmLt_get h.2 t
theorem SV.lts_getD {n : Nat} : ∀ {vs : List SV}, SV.lts n vs = true → ∀ f, SV.lt n (vs.getD f .junk) = true
  | [], _, _ => rfl
  | v :: r, h, 0 => by simp only [SV.lts, Bool.and_eq_true] at h; exact h.1
  | v :: r, h, f + 1 => by simp only [SV.lts, Bool.and_eq_true] at h; exact SV.lts_getD h.2 f

theorem Ck.ok_ads {ad ad' : Nat → Ad} {n : Nat} (ha : ∀ c, c < n → ad c = ad' c) {w : World} {c : Ck C} (hl : c.lt n = true) (h : Ck.ok ad w c) : Ck.ok ad' w c := by
  unfold Ck.ok at *
  unfold Ck.lt at hl
  split
  · rename_i t l h1
    simp only [h1] at h
    refine ⟨h.1, fun i hi f hf => ?_⟩
    rw [h.2 i hi f hf]
    have := (C t).flat (l.getD i (C t).dflt) ad ad'
    have hlen := (C t).len (l.getD i (C t).dflt)
    generalize (C t).enc (l.getD i (C t).dflt) = es at this hlen
    have e := congrArg (fun l => l[f]?) this
    simp only [List.getElem?_map] at e
    rw [List.getElem?_eq_getElem (by omega)] at e
    simp only [Option.map_some, Option.some.injEq] at e
    simp [List.getD, List.getElem?_eq_getElem (show f < es.length by omega), e]
  · rename_i vs h1
    simp only [h1] at h hl
    refine ⟨h.1, fun f hf => ?_⟩
    have h2 := h.2 f hf
    have h3 := SV.lts_getD hl f
    revert h2 h3
    generalize vs.getD f .junk = v
    intro h2 h3
    have e := SV.va_congr ha v h3
    cases v <;> simp only [cellIs] at h2 ⊢ <;> first | exact h2 | (rw [← e]; exact h2)
  · rename_i h1; simp only [h1] at h; exact h
  · rename_i h1; simp only [h1] at h hl; rw [← ha _ (by simpa using hl)]; exact h
  · trivial

theorem ActOK.ads {ad ad' : Nat → Ad} {n k : Nat} (ha : ∀ c, c < k → ad c = ad' c) {tm : Tm} {a : Act} (hl : tmLt k tm = true) (h : ActOK ad n tm a) : ActOK ad' n tm a := by
  refine ⟨h.defers, h.size, fun t => ?_, h.inv⟩
  rcases h.tmps t with h1 | h1
  · exact .inl h1
  · right; rw [h1, SV.va_congr ha _ (tmLt_get hl t)]

theorem nth_append (m : List (Ck C)) (x : Ck C) (k : Nat) : nth (m ++ [x]) k = if k < m.length then nth m k else if k = m.length then x else Ck.zero := by
  induction m generalizing k with
  | nil => cases k <;> simp [nth]
  | cons y r ih =>
    cases k with
    | zero => simp [nth]
    | succ k => simp [nth, ih]
theorem ads_append (m : List (Ck C)) (x : Ck C) : ∀ c, c < m.length → ads m c = ads (m ++ [x]) c := by
  intro c hc; simp [ads, nth_append, hc]
theorem ads_append_new (m : List (Ck C)) (x : Ck C) : ads (m ++ [x]) m.length = x.ad := by simp [ads, nth_append]

theorem size_alloc' (w : World) (o : Obj) : (w.alloc o).heap.size = w.heap.size + 1 := by simp
theorem heap_alloc_lt (w : World) (o : Obj) {k : Nat} (h : k < w.heap.size) : (w.alloc o).heap[k]? = w.heap[k]? := Go.RowKit.Below.heap_alloc w o k h
theorem heap_alloc_at (w : World) (o : Obj) : (w.alloc o).heap[w.heap.size]? = some o := by
  show (w.heap.push o)[w.heap.size]? = _
  simp

/-- A new chunk, made by the call. -/
theorem MemOK.newO {S : Sx} {w0 w : World} {m : List (Ck C)} (h : MemOK S w0 w m) (hl : memLt m.length m = true) (o : Obj) (ho : ∀ (w : World) (a : Addr), w.heap[a.block]? = some o → w.frozen? a = false) (sz : Nat) (cs : Cells C)
    (hok : Ck.ok (ads (m ++ [⟨w.heap.size, 0, sz, true, none, cs⟩])) (w.alloc o) ⟨w.heap.size, 0, sz, true, none, cs⟩) :
    MemOK S w0 (w.alloc o) (m ++ [⟨w.heap.size, 0, sz, true, none, cs⟩]) := by
  have hm : ∀ x, x ∈ m ++ [(⟨w.heap.size, 0, sz, true, none, cs⟩ : Ck C)] → x ∈ m ∨ x = ⟨w.heap.size, 0, sz, true, none, cs⟩ := by
    intro x hx; simpa using hx
  have hmore : More S w0 (w.alloc o) (m ++ [⟨w.heap.size, 0, sz, true, none, cs⟩]) := by
    refine h.more.mono h.inS (fun k hk _ => heap_alloc_lt w _ hk) (fun x hx hxl => ?_) h.size
    rcases hm x hx with hx | rfl
    · exact .inl ⟨x, hx, hxl, rfl⟩
    · exact .inr (Nat.le_refl _)
  refine ⟨h.os, h.tape, h.output, by have := h.size; simp; omega, ?_, ?_, ?_, ?_, ?_, ?_, ?_, hmore⟩
  · intro k hk hno
    have hk' : k < w.heap.size := by have := h.size; omega
    rw [heap_alloc_lt w _ hk']
    exact h.keep k hk hno
  · intro x hx hxw hxb
    rcases hm x hx with hx | rfl
    · exact h.inS _ hx hxw hxb
    · have := h.size; exact absurd hxb (Nat.not_lt.2 this)
  · intro x hx
    rcases hm x hx with hx | rfl
    · refine Ck.ok_ads (ads_append m _) (memLt_mem hl hx) (Ck.ok_same (h.ok _ hx) (heap_alloc_lt w _ (h.lt _ hx)))
    · exact hok
  · intro x hx hw hlv a ha
    rcases hm x hx with hx | rfl
    · rw [World.frozen?_of_block (w := w) (by rw [ha]; exact heap_alloc_lt w _ (h.lt _ hx))]
      exact h.wrok _ hx hw hlv a ha
    · obtain ⟨b, off, s⟩ := a
      simp only at ha; subst ha
      exact ho _ _ (heap_alloc_at w o)
  · intro i j hi hj hij hiw hil hjl
    simp only [List.length_append, List.length_singleton] at hi hj
    rw [nth_append] at hiw hil ⊢
    rw [nth_append] at hjl ⊢
    by_cases h1 : i < m.length
    · by_cases h2 : j < m.length
      · rw [if_pos h1] at hiw hil ⊢
        rw [if_pos h2] at hjl ⊢
        exact h.apart i j h1 h2 hij hiw hil hjl
      · have : j = m.length := by omega
        subst this
        rw [if_pos h1, if_neg (Nat.lt_irrefl _), if_pos rfl]
        exact Nat.ne_of_lt (h.lt _ (nth_mem h1))
    · have : i = m.length := by omega
      subst this
      have h2 : j < m.length := by omega
      rw [if_pos h2, if_neg (Nat.lt_irrefl _), if_pos rfl]
      exact Nat.ne_of_gt (h.lt _ (nth_mem h2))
  · intro x hx
    rcases hm x hx with hx | rfl
    · have := h.lt _ hx; simp; omega
    · simp
  · intro x hx g hg
    rcases hm x hx with hx | rfl
    · exact h.glob _ hx g hg
    · cases hg

theorem MemOK.new {S : Sx} {w0 w : World} {m : List (Ck C)} (h : MemOK S w0 w m) (hl : memLt m.length m = true) (arr : Array Value) (e : TypeId) (sz : Nat) (cs : Cells C)
    (hok : Ck.ok (ads (m ++ [⟨w.heap.size, 0, sz, true, none, cs⟩])) (w.alloc (.cells arr e)) ⟨w.heap.size, 0, sz, true, none, cs⟩) :
    MemOK S w0 (w.alloc (.cells arr e)) (m ++ [⟨w.heap.size, 0, sz, true, none, cs⟩]) :=
  h.newO hl (.cells arr e) (fun w a hw => by simp [World.frozen?, hw]) sz cs hok
theorem MemOK.drew {S : Sx} {w0 w : World} {m : List (Ck C)} (h : MemOK S w0 w m) : MemOK S w0 w.drew m := by
  refine ⟨h.os, h.tape, h.output, h.size, h.keep, h.inS, fun c hc => ?_, h.wrok, h.apart, h.lt, h.glob, h.more.mono h.inS (fun _ _ _ => rfl) (fun c hc hl => .inl ⟨c, hc, hl, rfl⟩) h.size⟩
  exact Ck.ok_same (h.ok c hc) rfl

/-- A value known by its shape. -/
def SV.isV : SV → Value → Bool
  | .int k n, .int k' n' => sameKind k k' && decide (n = n')
  | .bool s, .bool b => s.val == b
  | .nilp, .pointer none => true
  | .nils, .slice none 0 0 => true
  | .nili, .nilIface => true
  | .nilf, .nilFunc => true
  | .val (.string s), .string s' => Nat.beq s.size 0 && Nat.beq s'.size 0
  | .val .nilIface, .nilIface => true
  | _, _ => false
def SV.isVs : List SV → List Value → Bool
  | [], [] => true
  | a :: r, b :: s => SV.isV a b && SV.isVs r s
  | _, _ => false
theorem SV.isV_ok (ad : Nat → Ad) {s : SV} {v : Value} (h : SV.isV s v = true) : s.va ad = v := by
  unfold SV.isV at h
  split at h <;> try (first | contradiction | rfl)
  · simp only [Bool.and_eq_true, decide_eq_true_eq] at h
    rw [sameKind_eq h.1, h.2]; rfl
  · simp at h; simp [SV.va, h]
  · simp only [Bool.and_eq_true] at h
    have h1 := Nat.eq_of_beq_eq_true h.1
    have h2 := Nat.eq_of_beq_eq_true h.2
    rename_i s s'
    obtain ⟨d⟩ := s
    obtain ⟨d'⟩ := s'
    have e1 : d = #[] := Array.eq_empty_of_size_eq_zero h1
    have e2 : d' = #[] := Array.eq_empty_of_size_eq_zero h2
    simp [SV.va, e1, e2]
theorem SV.isVs_ok (ad : Nat → Ad) : ∀ {s : List SV} {v : List Value}, SV.isVs s v = true → s.map (SV.va ad) = v
  | [], [], _ => rfl
  | a :: r, b :: s, h => by
    simp only [SV.isVs, Bool.and_eq_true] at h
    simp [SV.isV_ok ad h.1, SV.isVs_ok ad h.2]
  | [], _ :: _, h => by simp [SV.isVs] at h
  | _ :: _, [], h => by simp [SV.isVs] at h

/-- The codec's default is the type's zero. -/
def zeroOK (P : Program) (cd : Codec) (e : TypeId) : Bool :=
  match P.info? e with
  | some i => match i.zero with
    | some z => SV.isVs (cd.enc cd.dflt) z.cells.toList && Nat.beq i.size cd.sz && !(Nat.beq cd.sz 0)
    | none => false
  | none => false

theorem zeroOK_ok {P : Program} {cd : Codec} {e : TypeId} (h : zeroOK P cd e = true) : ∃ i z, P.info? e = some i ∧ i.zero = some z ∧ (∀ ad, (cd.enc cd.dflt).map (SV.va ad) = z.cells.toList) ∧ i.size = cd.sz ∧ cd.sz ≠ 0 ∧ z.cells.size = cd.sz := by
  unfold zeroOK at h
  split at h <;> try contradiction
  rename_i i hi
  split at h <;> try contradiction
  rename_i z hz
  simp only [Bool.and_eq_true, Bool.not_eq_true'] at h
  refine ⟨i, z, hi, hz, fun ad => SV.isVs_ok ad h.1.1, Nat.eq_of_beq_eq_true h.1.2, Nat.ne_of_beq_eq_false h.2, ?_⟩
  have := congrArg List.length (SV.isVs_ok (fun _ => ⟨0, 0, 0⟩) h.1.1)
  simp [cd.len] at this
  exact this.symm

end Go.Vx
