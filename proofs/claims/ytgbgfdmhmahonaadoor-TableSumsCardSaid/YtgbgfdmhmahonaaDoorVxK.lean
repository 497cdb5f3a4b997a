/-
  The symbolic evaluator, eleventh part: append.
  Conditions: none.
-/
import Derived.Test.YtgbgfdmhmahonaaDoorVxJ
set_option linter.unusedSimpArgs false
namespace Go.Vx
open Go
variable {C : Nat → Codec}

theorem MemOK.kill {S : Sx} {w0 w : World} {m : List (Ck C)} (h : MemOK S w0 w m) (c : Nat) : MemOK S w0 w (setCk m c .dead) := by
  have hnth : ∀ k, (nth (setCk m c .dead) k).block = (nth m k).block ∧ (nth (setCk m c .dead) k).wr = (nth m k).wr ∧ ((nth (setCk m c .dead) k).live = true → (nth m k).live = true) := by
    intro k
    rw [nth_setCk]
    split
    · rename_i e; rw [e.1]; exact ⟨rfl, rfl, fun h => by simp [Ck.live] at h⟩
    · exact ⟨rfl, rfl, id⟩
  have hmore : More S w0 w (setCk m c .dead) := by
    refine h.more.mono h.inS (fun _ _ _ => rfl) (fun x hx hxl => ?_) h.size
    rcases mem_setCk hx with ⟨k, hk, _, rfl⟩ | ⟨_, rfl⟩
    · exact .inl ⟨_, nth_mem hk, hxl, rfl⟩
    · simp [Ck.live] at hxl
  refine ⟨h.os, h.tape, h.output, h.size, ?_, ?_, ?_, ?_, ?_, ?_, ?_, hmore⟩
  · exact h.keep
  · intro x hx hxw hxb
    rcases mem_setCk hx with ⟨k, hk, _, rfl⟩ | ⟨hc, rfl⟩
    · exact h.inS _ (nth_mem hk) hxw hxb
    · exact h.inS (nth m c) (nth_mem hc) hxw hxb
  · intro x hx
    rw [ads_setCk]
    rcases mem_setCk hx with ⟨k, hk, _, rfl⟩ | ⟨_, rfl⟩
    · exact h.ok _ (nth_mem hk)
    · trivial
  · intro x hx hxw hxl a ha
    rcases mem_setCk hx with ⟨k, hk, _, rfl⟩ | ⟨_, rfl⟩
    · exact h.wrok _ (nth_mem hk) hxw hxl a ha
    · simp [Ck.live] at hxl
  · intro i j hi hj hij hiw hil hjl
    rw [length_setCk] at hi hj
    rw [(hnth i).1, (hnth j).1]
    rw [(hnth i).2.1] at hiw
    exact h.apart i j hi hj hij hiw ((hnth i).2.2 hil) ((hnth j).2.2 hjl)
  · intro x hx
    rcases mem_setCk hx with ⟨k, hk, _, rfl⟩ | ⟨hc, rfl⟩
    · exact h.lt _ (nth_mem hk)
    · exact h.lt (nth m c) (nth_mem hc)
  · intro x hx g hg
    rcases mem_setCk hx with ⟨k, hk, _, rfl⟩ | ⟨hc, rfl⟩
    · exact h.glob _ (nth_mem hk) g hg
    · exact h.glob (nth m c) (nth_mem hc) g hg

/-- What a chunk's rows hold goes to a new name. -/
theorem MemOK.move {S : Sx} {w0 w : World} {m : List (Ck C)} (h : MemOK S w0 w m) (hlt : memLt m.length m = true) {c : Nat} {t : Nat} {l : List (C t).α} (hcl : (nth m c).cells = .rows t l) (hw : (nth m c).wr = true) (i : Nat) :
    MemOK S w0 w (setCk m c .dead ++ [⟨(nth m c).block, (nth m c).base + i * (nth m c).sz, (nth m c).sz, true, none, .rows t (l.drop i)⟩]) := by
  have hlive : (nth m c).live = true := by simp [Ck.live, hcl]
  have hc := lt_of_live hlive
  have hk := h.kill c
  have hlen := length_setCk m c (.dead : Cells C)
  generalize hm' : setCk m c (.dead : Cells C) = m' at hk hlen
  generalize hx : (⟨(nth m c).block, (nth m c).base + i * (nth m c).sz, (nth m c).sz, true, none, .rows t (l.drop i)⟩ : Ck C) = x
  have hxb : x.block = (nth m c).block := by rw [← hx]
  have hin : ∀ y, y ∈ m' ++ [x] → y ∈ m' ∨ y = x := by intro y hy; simpa using hy
  have hads : ∀ k, k < m.length → ads m k = ads (m' ++ [x]) k := by
    intro k hk
    rw [← ads_append m' x k (by omega), ← hm', ads_setCk]
  have hblk : ∀ k, (nth m' k).block = (nth m k).block ∧ (nth m' k).wr = (nth m k).wr ∧ ((nth m' k).live = true → k ≠ c ∧ (nth m k).live = true) := by
    intro k
    rw [← hm', nth_setCk]
    split
    · rename_i e; rw [e.1]; exact ⟨rfl, rfl, fun h => by simp [Ck.live] at h⟩
    · rename_i e; exact ⟨rfl, rfl, fun h => ⟨fun e' => e ⟨e', e' ▸ hc⟩, h⟩⟩
  have hmore : More S w0 w (m' ++ [x]) := by
    refine h.more.mono h.inS (fun _ _ _ => rfl) (fun y hy hyl => ?_) h.size
    rcases hin y hy with hy | rfl
    · obtain ⟨k, hkl, rfl⟩ := mem_nth hy
      obtain ⟨e1, _, e3⟩ := hblk k
      exact .inl ⟨nth m k, nth_mem (by omega), (e3 hyl).2, e1.symm⟩
    · exact .inl ⟨_, nth_mem hc, hlive, hxb.symm⟩
  refine ⟨h.os, h.tape, h.output, h.size, ?_, ?_, ?_, ?_, ?_, ?_, ?_, hmore⟩
  · exact h.keep
  · intro y hy hyw hyb
    rcases hin y hy with hy | rfl
    · exact hk.inS y hy hyw hyb
    · rw [hxb] at hyb ⊢
      exact h.inS _ (nth_mem hc) hw hyb
  · intro y hy
    rcases hin y hy with hy | rfl
    · subst hm'
      rcases mem_setCk hy with ⟨k, hk', _, rfl⟩ | ⟨_, rfl⟩
      · exact Ck.ok_ads hads (memLt_mem hlt (nth_mem hk')) (h.ok _ (nth_mem hk'))
      · trivial
    · have hok := h.ok _ (nth_mem hc)
      simp only [Ck.ok, hcl] at hok
      obtain ⟨hsz, hok⟩ := hok
      rw [← hx]
      refine ⟨hsz, fun r hr f hf => ?_⟩
      simp only [List.length_drop] at hr
      have := hok (r + i) (by omega) f hf
      have e1 : (l.drop i).getD r (C t).dflt = l.getD (r + i) (C t).dflt := by simp [List.getD, Nat.add_comm]
      rw [e1]
      have e2 : ((⟨(nth m c).block, (nth m c).base + i * (nth m c).sz, (nth m c).sz, true, none, .rows t (l.drop i)⟩ : Ck C).ad).at r f = (nth m c).ad.at (r + i) f := by
        simp [Ck.ad, Ad.at, Nat.add_mul]; omega
      rw [e2, this, enc_flat (C t) (ads m) _ _ f hf]
  · intro y hy hyw hyl a ha
    rcases hin y hy with hy | rfl
    · exact hk.wrok y hy hyw hyl a ha
    · rw [hxb] at ha
      exact h.wrok _ (nth_mem hc) hw hlive a ha
  · intro a b ha hb hab haw hal hbl
    simp only [List.length_append, List.length_singleton] at ha hb
    rw [nth_append] at haw hal ⊢
    rw [nth_append] at hbl ⊢
    by_cases h1 : a < m'.length
    · rw [if_pos h1] at haw hal ⊢
      by_cases h2 : b < m'.length
      · rw [if_pos h2] at hbl ⊢
        exact hk.apart a b h1 h2 hab haw hal hbl
      · have : b = m'.length := by omega
        rw [if_neg h2, if_pos this, hxb]
        have h3 := (hblk a).2.2 hal
        rw [(hblk a).1]
        rw [(hblk a).2.1] at haw
        exact h.apart a c (by omega) hc h3.1 haw h3.2 hlive
    · have : a = m'.length := by omega
      rw [if_neg h1, if_pos this, hxb]
      have h2 : b < m'.length := by omega
      rw [if_pos h2] at hbl ⊢
      have h3 := (hblk b).2.2 hbl
      rw [(hblk b).1]
      exact h.apart c b hc (by omega) (Ne.symm h3.1) hw hlive h3.2
  · intro y hy
    rcases hin y hy with hy | rfl
    · exact hk.lt y hy
    · rw [hxb]; exact h.lt _ (nth_mem hc)
  · intro y hy g hg
    rcases hin y hy with hy | rfl
    · exact hk.glob y hy g hg
    · rw [← hx] at hg; cases hg

/-- Rows read one cell after the other. -/
theorem read_rows {S : Sx} {w0 w : World} {m : List (Ck C)} (h : MemOK S w0 w m) {c t : Nat} {l : List (C t).α} (hcl : (nth m c).cells = .rows t l) {i k : Nat} (hik : i + k ≤ l.length) (hn : (C t).sz ≠ 0) :
    ∀ j v, ((flatSV (C t) ((l.drop i).take k)).map (SV.va (ads m)))[j]? = some v → w.cell? (((ads m c).at i 0).add j) = some v := by
  intro j v hj
  have hlive : (nth m c).live = true := by simp [Ck.live, hcl]
  have hok := h.ok _ (nth_mem (lt_of_live hlive))
  simp only [Ck.ok, hcl] at hok
  obtain ⟨hsz, hok⟩ := hok
  have hlen : ((l.drop i).take k).length = k := by simp; omega
  have hjl : j < k * (C t).sz := by
    have := (List.getElem?_eq_some_iff.1 hj).1
    simpa [flatSV_len, hlen] using this
  have hpos : 0 < (C t).sz := by omega
  have hdm := Nat.div_add_mod j (C t).sz
  have hm : j % (C t).sz < (C t).sz := Nat.mod_lt _ hpos
  have hd : j / (C t).sz < k := by
    apply Nat.div_lt_of_lt_mul; rw [Nat.mul_comm]; exact hjl
  have e : j = (j / (C t).sz) * (C t).sz + j % (C t).sz := by rw [Nat.mul_comm]; omega
  rw [e, List.getElem?_map, flatSV_get (C t) _ _ _ (by rw [hlen]; exact hd) hm] at hj
  simp only [Option.map_some, Option.some.injEq] at hj
  have hr := hok (i + j / (C t).sz) (by omega) _ hm
  have e1 : ((l.drop i).take k).getD (j / (C t).sz) (C t).dflt = l.getD (i + j / (C t).sz) (C t).dflt := by
    simp [List.getD, List.getElem?_take_of_lt hd]
  rw [e1] at hj
  rw [Ad.at_add]
  have e2 : (ads m c).at i (0 + j) = (nth m c).ad.at (i + j / (C t).sz) (j % (C t).sz) := by
    simp only [ads, Ck.ad, Ad.at, hsz]
    congr 1
    rw [Nat.add_mul]; omega
  rw [e2, hr, hj]

theorem flat_one (cd : Codec) (ad : Nat → Ad) : ∀ (l : List cd.α), ∀ v ∈ (flatSV cd l).map (SV.va ad), v.oneCell' = true
  | [], v, hv => by simp [flatSV] at hv
  | x :: r, v, hv => by
    simp only [flatSV, List.map_append, List.mem_append] at hv
    rcases hv with hv | hv
    · obtain ⟨s, hs, rfl⟩ := List.mem_map.1 hv
      exact SV.cell_one _ (cd.cell x s hs)
    · exact flat_one cd ad r v hv

theorem run_append_in {P : Program} {w : World} (t ty e : TypeId) (i : TypeInfo) (ht : P.underlying t = some (.slice e)) (hi : P.info? e = some i) (b o n mm : Nat) (a : Addr) (k q : Nat) (news : List Value)
    (hl : news.length = k * i.size) (hnews : ∀ j v, news[j]? = some v → w.cell? (a.add j) = some v) (h1 : ∀ v ∈ news, v.oneCell' = true) (hroom : n + k ≤ mm)
    (hc : ∀ j, j < news.length → (w.cell? ⟨b, o + n * i.size + j, none⟩).isSome = true) (hf : ∀ j, j < news.length → w.frozen? ⟨b, o + n * i.size + j, none⟩ = false) :
    (Builtin.append_ #[t, t] ty #[.slice (some ⟨b, o, none⟩) n mm, .slice (some a) k q]).run P w = .ok (.slice (some ⟨b, o, none⟩) (n + k) mm) (w.setCells b (o + n * i.size) news) := by
  have hfc := run_firstCells_some (P := P) w i.size k a k q news hl hnews
  have hst := run_storeCells_cells (P := P) b (o + n * i.size) news 0 w (fun j hj => by simpa using hc j hj) (fun j hj => by simpa using hf j hj) h1
  simp only [Nat.add_zero] at hst
  simp [Builtin.append_, run_underlying ht, sizeOf, typeInfo, hi, Builtin.lenOf, hroom, hfc, Addr.add_lit, hst]

theorem castL_self {t : Nat} (h : t = t) (l : List (C t).α) : castL h l = l := rfl

theorem flat_append {ad : Nat → Ad} {cd : Codec} (l1 l2 : List cd.α) (z : Array Value) (hz : (cd.enc cd.dflt).map (SV.va ad) = z.toList) (hs : z.size = cd.sz) (hn : cd.sz ≠ 0) (k : Nat) :
    Flat ad cd (((flatSV cd l1).map (SV.va ad)).toArray ++ ((flatSV cd l2).map (SV.va ad)).toArray ++ Builtin.zeroCells z k) (l1 ++ l2 ++ List.replicate k cd.dflt) := by
  have hzc : Builtin.zeroCells z k = madeCells z (k * cd.sz) := by simp [Builtin.zeroCells, madeCells, hs]
  have hfl := flat_made (ad := ad) (cd := cd) hz hs k
  apply flat_of
  have hrep : (flatSV cd (List.replicate k cd.dflt)).map (SV.va ad) = (madeCells z (k * cd.sz)).toList := by
    apply List.ext_getElem?
    intro j
    by_cases hj : j < k * cd.sz
    · have hpos : 0 < cd.sz := by omega
      have hdm := Nat.div_add_mod j cd.sz
      have hm : j % cd.sz < cd.sz := Nat.mod_lt _ hpos
      have hd : j / cd.sz < k := by apply Nat.div_lt_of_lt_mul; rw [Nat.mul_comm]; exact hj
      have e : j = (j / cd.sz) * cd.sz + j % cd.sz := by rw [Nat.mul_comm]; omega
      have h1 := hfl.get (j / cd.sz) (by simpa using hd) _ hm
      rw [← e] at h1
      have h2 : (madeCells z (k * cd.sz)).toList[j]? = some (SV.va ad ((cd.enc ((List.replicate k cd.dflt).getD (j / cd.sz) cd.dflt)).getD (j % cd.sz) SV.junk)) := by
        rw [Array.getElem?_toList]; exact h1
      rw [h2, List.getElem?_map]
      rw [show (flatSV cd (List.replicate k cd.dflt))[j]? = some ((cd.enc ((List.replicate k cd.dflt).getD (j / cd.sz) cd.dflt)).getD (j % cd.sz) .junk) by
        conv => lhs; rw [e]
        exact flatSV_get cd _ _ _ (by simpa using hd) hm]
      rfl
    · rw [List.getElem?_eq_none (by simp [flatSV_len]; omega), List.getElem?_eq_none (by simp [size_madeCells]; omega)]
  have happ : ∀ a b : List cd.α, flatSV cd (a ++ b) = flatSV cd a ++ flatSV cd b := by
    intro a b
    induction a with
    | nil => rfl
    | cons x r ih => simp [flatSV, ih]
  rw [happ, happ, List.map_append, List.map_append, hrep, hzc]
  simp

theorem flat_rep {ad : Nat → Ad} {cd : Codec} (z : Array Value) (hz : (cd.enc cd.dflt).map (SV.va ad) = z.toList) (hs : z.size = cd.sz) (k : Nat) : (flatSV cd (List.replicate k cd.dflt)).map (SV.va ad) = (Builtin.zeroCells z k).toList := by
  have hzc : Builtin.zeroCells z k = madeCells z (k * cd.sz) := by simp [Builtin.zeroCells, madeCells, hs]
  have hfl := flat_made (ad := ad) (cd := cd) hz hs k
  rw [hzc]
  apply List.ext_getElem?
  intro j
  by_cases hj : j < k * cd.sz
  · have hpos : 0 < cd.sz := by
      rcases Nat.eq_zero_or_pos cd.sz with h | h
      · rw [h] at hj; omega
      · exact h
    have hdm := Nat.div_add_mod j cd.sz
    have hm : j % cd.sz < cd.sz := Nat.mod_lt _ hpos
    have hd : j / cd.sz < k := by apply Nat.div_lt_of_lt_mul; rw [Nat.mul_comm]; exact hj
    have e : j = (j / cd.sz) * cd.sz + j % cd.sz := by rw [Nat.mul_comm]; omega
    have h1 := hfl.get (j / cd.sz) (by simpa using hd) _ hm
    rw [← e] at h1
    have h2 : (madeCells z (k * cd.sz)).toList[j]? = some (SV.va ad ((cd.enc ((List.replicate k cd.dflt).getD (j / cd.sz) cd.dflt)).getD (j % cd.sz) SV.junk)) := by
      rw [Array.getElem?_toList]; exact h1
    rw [h2, List.getElem?_map]
    rw [show (flatSV cd (List.replicate k cd.dflt))[j]? = some ((cd.enc ((List.replicate k cd.dflt).getD (j / cd.sz) cd.dflt)).getD (j % cd.sz) .junk) by
      conv => lhs; rw [e]
      exact flatSV_get cd _ _ _ (by simpa using hd) hm]
    rfl
  · rw [List.getElem?_eq_none (by simp [flatSV_len]; omega), List.getElem?_eq_none (by simp [size_madeCells]; omega)]

theorem eev_clear {P : Program} {S : Sx} {w0 w : World} {n : Nat} {tm : Tm} {m : List (Ck C)} {a : Act} (h : ActOK (ads m) n tm a) (hm : MemOK S w0 w m) {al : List (Nat × Bool)} (ha : AlOK tm al) {t e : TypeId} {x : Operand} {s : SV}
    {dst : Option Tmp} {ty : TypeId} {pos : String} {after : Array Edge} {g : Option (Nat × Bool)} (hu : P.underlying t = some (.slice e)) (hs : ev tm m al x = some s)
    {K : SV → List (Ck C) → Tr} (hl : clearSV P m e s K) : Left P S w0 tm m w (execOp a.eval ⟨dst, .call ⟨.builtin .clear, #[x], #[t]⟩, ty, pos, after, g⟩) K := by
  have es := ev_ok h hm.glob ha _ _ hs
  have hexec : ∀ (w' : World), (Builtin.clear_ #[t] ty #[s.va (ads m)]).run P w = .ok (.tuple #[]) w' →
      (execOp a.eval ⟨dst, .call ⟨.builtin .clear, #[x], #[t]⟩, ty, pos, after, g⟩).run P w = .ok (.value (SV.va (ads m) (.tup []))) w' := by
    intro w' hr
    simp [execOp, resolve, invoke, builtin, es, hr, SV.va, SV.vas]
  unfold clearSV at hl
  split at hl <;> try (first | contradiction | exact False.elim hl)
  rename_i hz
  obtain ⟨i, z, hi, hzr, hzz, hsz, hn0, hzs⟩ := zeroOK_ok hz
  split at hl <;> try (first | contradiction | exact False.elim hl)
  · refine ⟨w, m, .tup [], .inl (hexec w ?_), hm, hl, fun _ _ => rfl, Nat.le_refl _, .inl ⟨rfl, rfl⟩⟩
    simp [Builtin.clear_, SV.va, run_underlying' hu]
  · rename_i c i0 k mm
    split at hl <;> try (first | contradiction | exact False.elim hl)
    rename_i t1 l hcl
    split at hl <;> try (first | contradiction | exact False.elim hl)
    rename_i ht
    subst ht
    rw [castL_self] at hl
    split at hl <;> try (first | contradiction | exact False.elim hl)
    rename_i hwr
    obtain ⟨hlen, hK⟩ := hl
    have hlen : i0 + k ≤ l.length := hlen
    have hlive : (nth m c).live = true := by simp [Ck.live, hcl]
    have hok := hm.ok _ (nth_mem (lt_of_live hlive))
    simp only [Ck.ok, hcl] at hok
    obtain ⟨hcsz, hok⟩ := hok
    obtain ⟨vals, hvals⟩ : ∃ vals, vals = (flatSV (C t1) (List.replicate k (C t1).dflt)).map (SV.va (ads m)) := ⟨_, rfl⟩
    have hvl : vals.length = k * (C t1).sz := by rw [hvals, List.length_map, flatSV_len]; simp
    have hrep : vals = (Builtin.zeroCells z.cells k).toList := by rw [hvals]; exact flat_rep z.cells (hzz _) hzs k
    have hpos : 0 < (C t1).sz := Nat.pos_of_ne_zero hn0
    have hcell : ∀ j, j < vals.length → (w.cell? ⟨(nth m c).block, (nth m c).base + i0 * (nth m c).sz + j, none⟩).isSome = true := by
      intro j hj
      rw [hvl] at hj
      have hdm := Nat.div_add_mod j (C t1).sz
      have hmd : j % (C t1).sz < (C t1).sz := Nat.mod_lt _ hpos
      have hd : j / (C t1).sz < k := by apply Nat.div_lt_of_lt_mul; rw [Nat.mul_comm]; exact hj
      have := hok (i0 + j / (C t1).sz) (by omega) _ hmd
      have e1 : (nth m c).ad.at (i0 + j / (C t1).sz) (j % (C t1).sz) = ⟨(nth m c).block, (nth m c).base + i0 * (nth m c).sz + j, none⟩ := by
        simp only [Ck.ad, Ad.at, hcsz, Nat.add_mul]
        congr 1
        rw [Nat.mul_comm (j / (C t1).sz)]; omega
      rw [e1] at this
      rw [this]; rfl
    have hst := run_storeCells_cells (P := P) (nth m c).block ((nth m c).base + i0 * (nth m c).sz) vals 0 w (fun j hj => by simpa using hcell j hj)
      (fun j hj => hm.wrok _ (nth_mem (lt_of_live hlive)) hwr hlive _ rfl) (by rw [hvals]; exact flat_one _ _ _)
    simp only [Nat.add_zero] at hst
    obtain ⟨g1, g2, g3, g4, g5⟩ := heap_setCells (nth m c).block vals ((nth m c).base + i0 * (nth m c).sz) w
    refine ⟨w.setCells (nth m c).block ((nth m c).base + i0 * (nth m c).sz) vals, setCk m c (.rows t1 (l.take i0 ++ List.replicate k (C t1).dflt ++ l.drop (i0 + k))), .tup [], .inl ?_, ?_, hK, fun j _ => by rw [ads_setCk], by rw [length_setCk]; omega, .inl ⟨length_setCk _ _ _, ads_setCk _ _ _⟩⟩
    · rw [ads_setCk]
      refine hexec _ ?_
      have ha0 : (ads m c).at i0 0 = ⟨(nth m c).block, (nth m c).base + i0 * (nth m c).sz, none⟩ := by simp [ads, Ck.ad, Ad.at]
      cases k with
      | zero =>
        have : vals = [] := by rw [hvals]; rfl
        rw [this]
        simp [Builtin.clear_, SV.va, run_underlying' hu, World.setCells]
      | succ k =>
        rw [hrep] at hst
        rw [hrep]
        simp [Builtin.clear_, SV.va, run_underlying' hu, ha0, zeroValue, typeInfo, hi, hzr, hst]
    · refine hm.upd hwr hlive g3 g4 g5 g2 g1 (fun a => World.frozen?_setCells _ _ _ _ _) _ rfl ?_
      simp only [Ck.ok]
      refine ⟨hcsz, fun r hr f hf => ?_⟩
      have e0 : ({ nth m c with cells := .rows t1 (l.take i0 ++ List.replicate k (C t1).dflt ++ l.drop (i0 + k)) } : Ck C).ad = (nth m c).ad := rfl
      rw [e0]
      have hlr : (l.take i0 ++ List.replicate k (C t1).dflt ++ l.drop (i0 + k)).length = l.length := by simp; omega
      rw [hlr] at hr
      have hget : (l.take i0 ++ List.replicate k (C t1).dflt ++ l.drop (i0 + k)).getD r (C t1).dflt = if i0 ≤ r ∧ r < i0 + k then (C t1).dflt else l.getD r (C t1).dflt := by
        simp only [List.getD_eq_getElem?_getD]
        split
        · rename_i hb
          rw [List.append_assoc, List.getElem?_append_right (by simp; omega), List.getElem?_append_left (by simp; omega), List.getElem?_replicate]
          rw [if_pos (by simp; omega)]; rfl
        · rename_i hb
          by_cases h1 : r < i0
          · rw [List.append_assoc, List.getElem?_append_left (by simp; omega), List.getElem?_take, if_pos h1]
          · rw [List.getElem?_append_right (by simp; omega), List.getElem?_drop]
            congr 2
            simp; omega
      rw [hget]
      by_cases hb : i0 ≤ r ∧ r < i0 + k
      · rw [if_pos hb]
        have e1 : (nth m c).ad.at r f = ⟨(nth m c).block, (nth m c).base + i0 * (nth m c).sz + ((r - i0) * (C t1).sz + f), none⟩ := by
          simp only [Ck.ad, Ad.at, hcsz]
          congr 1
          have : r * (C t1).sz = i0 * (C t1).sz + (r - i0) * (C t1).sz := by rw [← Nat.add_mul]; congr 1; omega
          omega
        have hlt : (r - i0) * (C t1).sz + f < vals.length := by
          rw [hvl]
          have : (r - i0 + 1) * (C t1).sz ≤ k * (C t1).sz := Nat.mul_le_mul_right _ (by omega)
          rw [Nat.add_mul] at this
          omega
        have h2 := World.cell?_setCells_in (nth m c).block vals ((nth m c).base + i0 * (nth m c).sz) w (fun j hj => by simpa using hcell j hj) _ hlt
        rw [e1, h2]
        have h3 : vals[(r - i0) * (C t1).sz + f]? = some ((((C t1).enc (C t1).dflt).getD f .junk).va (ads m)) := by
          rw [hvals, List.getElem?_map, flatSV_get (C t1) _ _ _ (by simp; omega) hf]
          simp only [Option.map_some, Option.some.injEq]
          congr 3
          simp [List.getD_eq_getElem?_getD, List.getElem?_replicate]
          split <;> rfl
        rw [← h3, List.getElem?_eq_getElem hlt]
      · rw [if_neg hb, ← hok r hr f hf]
        refine World.cell?_setCells_out _ _ _ _ _ (fun _ _ => ?_)
        simp only [Ck.ad, Ad.at, hvl, hcsz]
        rcases Nat.lt_or_ge r i0 with h1 | h1
        · left
          have : (r + 1) * (C t1).sz ≤ i0 * (C t1).sz := Nat.mul_le_mul_right _ h1
          rw [Nat.add_mul] at this
          omega
        · right
          have h2 : i0 + k ≤ r := by omega
          have : (i0 + k) * (C t1).sz ≤ r * (C t1).sz := Nat.mul_le_mul_right _ h2
          rw [Nat.add_mul] at this
          omega

theorem eev_append {P : Program} {S : Sx} {w0 w : World} {n : Nat} {tm : Tm} {m : List (Ck C)} {a : Act} (h : ActOK (ads m) n tm a) (hm : MemOK S w0 w m) {al : List (Nat × Bool)} (ha : AlOK tm al) {cl : Call}
    {dst : Option Tmp} {ty : TypeId} {pos : String} {after : Array Edge} {g : Option (Nat × Bool)}
    {K : SV → List (Ck C) → Tr} (hl : eev P tm m al (.call cl) K) : Left P S w0 tm m w (execOp a.eval ⟨dst, .call cl, ty, pos, after, g⟩) K := by
  obtain ⟨callee, args, argTypes⟩ := cl
  simp only [eev] at hl
  split at hl <;> try (first | contradiction | exact False.elim hl)
  rotate_left
  · split at hl <;> try (first | contradiction | exact False.elim hl)
    rename_i t x hts hxs
    split at hl <;> try (first | contradiction | exact False.elim hl)
    rename_i e s hu hs
    have hargs : args = #[x] := by apply Array.ext'; simpa using hxs
    have htys : argTypes = #[t] := by apply Array.ext'; simpa using hts
    subst hargs htys
    exact eev_clear h hm ha hu hs hl
  split at hl <;> try (first | contradiction | exact False.elim hl)
  rename_i t t' so xo hts hxs
  split at hl <;> try (first | contradiction | exact False.elim hl)
  rename_i e s x hbeq hu hs hx
  have htt := Nat.eq_of_beq_eq_true hbeq
  subst htt
  have hargs : args = #[so, xo] := by apply Array.ext'; simpa using hxs
  have htys : argTypes = #[t, t] := by apply Array.ext'; simpa using hts
  subst hargs htys
  have es := ev_ok h hm.glob ha _ _ hs
  have ex := ev_ok h hm.glob ha _ _ hx
  have hexec : ∀ (v : Value) (w' : World), (Builtin.append_ #[t, t] ty #[s.va (ads m), x.va (ads m)]).run P w = .ok v w' →
      (execOp a.eval ⟨dst, .call ⟨.builtin .append, #[so, xo], #[t, t]⟩, ty, pos, after, g⟩).run P w = .ok (.value v) w' := by
    intro v w' hr
    simp [execOp, resolve, invoke, builtin, es, ex, hr]
  unfold appendSV at hl
  split at hl <;> try (first | contradiction | exact False.elim hl)
  rename_i ti hti
  split at hl <;> try (first | contradiction | exact False.elim hl)
  rename_i hc
  simp only [Bool.and_eq_true, Bool.not_eq_true'] at hc
  obtain ⟨⟨⟨c1, c2⟩, c3⟩, c4⟩ := hc
  have c3 : ti.bytes ≠ 0 := Nat.ne_of_beq_eq_false c3
  obtain ⟨ti', z, hti', hz, hzz, hsz, hn0, hzs⟩ := zeroOK_ok c4
  rw [hti] at hti'; simp only [Option.some.injEq] at hti'; subst hti'
  split at hl <;> try (first | contradiction | exact False.elim hl)
  rotate_left
  · -- nothing to be added
    split at hl <;> try (first | contradiction | exact False.elim hl)
    · rename_i c i nn mm
      obtain ⟨p1, hl⟩ := hl
      have p1 : nn ≤ mm := p1
      refine ⟨w, m, .sl c i nn mm, .inl ?_, hm, hl, fun _ _ => rfl, Nat.le_refl _, .inl ⟨rfl, rfl⟩⟩
      refine hexec _ _ ?_
      simp [Builtin.append_, run_underlying' hu, sizeOf, typeInfo, hti, Builtin.lenOf, SV.va, run_firstCells_none, p1, storeCells]
    · refine ⟨w, m, .nils, .inl ?_, hm, hl, fun _ _ => rfl, Nat.le_refl _, .inl ⟨rfl, rfl⟩⟩
      refine hexec _ _ ?_
      simp [Builtin.append_, run_underlying' hu, sizeOf, typeInfo, hti, Builtin.lenOf, SV.va, run_firstCells_none]
  rename_i c2' i2 k q2
  split at hl <;> try (first | contradiction | exact False.elim hl)
  rename_i t2 l2 hcl2
  split at hl <;> try (first | contradiction | exact False.elim hl)
  rename_i h2
  subst h2
  rw [castL_self] at hl
  have hbytes : ∀ N : Nat, N * ti.bytes ≤ 140737488355328 → (N : Int) ≤ 9223372036854775807 := by
    intro N hN
    have : N ≤ N * ti.bytes := Nat.le_mul_of_pos_right _ (by omega)
    omega
  have hcap : ∀ (w1 : World) (need old : Nat), need ≤ grownCap w1 need old t2 := fun w1 need old => grownCap_ge w1 need old t2
  split at hl <;> try (first | contradiction | exact False.elim hl)
  · -- onto a slice that there is
    rename_i c i nn mm
    split at hl <;> try (first | contradiction | exact False.elim hl)
    rename_i t1 l1 hcl1
    split at hl <;> try (first | contradiction | exact False.elim hl)
    rename_i h1
    subst h1
    rw [castL_self] at hl
    obtain ⟨hlf, hl⟩ := hl
    obtain ⟨p1, p2, p3, p4⟩ := hlf
    have hlive : (nth m c).live = true := by simp [Ck.live, hcl1]
    have hok := hm.ok _ (nth_mem (lt_of_live hlive))
    simp only [Ck.ok, hcl1] at hok
    obtain ⟨hcsz, hok⟩ := hok
    have hnews := read_rows hm hcl2 p3 hn0
    have holds := read_rows hm hcl1 (i := i) (k := nn) (by omega) hn0
    have hnl : ((flatSV (C t1) ((l2.drop i2).take k)).map (SV.va (ads m))).length = k * ti.size := by rw [List.length_map, flatSV_len, hsz]; congr 1; simp; omega
    have hol : ((flatSV (C t1) ((l1.drop i).take nn)).map (SV.va (ads m))).length = nn * ti.size := by rw [List.length_map, flatSV_len, hsz]; congr 1; simp; omega
    have hgrow : mm < nn + k → ∃ w' cap, (Builtin.append_ #[t, t] ty #[(SV.sl c i nn mm).va (ads m), (SV.sl c2' i2 k q2).va (ads m)]).run P w = .ok (.slice (some ⟨w.heap.size, 0, none⟩) (nn + k) (nn + k + cap)) w' ∧
        (∀ (m2 : List (Ck C)), MemOK S w0 w m2 → memLt m2.length m2 = true →
          MemOK S w0 w' (m2 ++ [⟨w.heap.size, 0, (C t1).sz, true, none, .rows t1 ((l1.drop i).take nn ++ (l2.drop i2).take k ++ List.replicate cap (C t1).dflt)⟩])) := by
      intro hg
      have hr := run_append_grow (P := P) w t ty t1 ti z hu hti hz ((ads m c).at i 0) nn mm _ hol holds ((ads m c2').at i2 0) k q2 _ hnl hnews hg (hbytes _ p4) (growslice_fits hg p4)
      have hge := hcap w (nn + k) mm
      refine ⟨w.drew.alloc (.cells (((flatSV (C t1) ((l1.drop i).take nn)).map (SV.va (ads m))).toArray ++ ((flatSV (C t1) ((l2.drop i2).take k)).map (SV.va (ads m))).toArray ++ Builtin.zeroCells z.cells (grownCap w (nn + k) mm t1 - (nn + k))) t1), grownCap w (nn + k) mm t1 - (nn + k), ?_, ?_⟩
      · rw [show nn + k + (grownCap w (nn + k) mm t1 - (nn + k)) = grownCap w (nn + k) mm t1 by omega]
        exact hr
      · intro m2 hm2 hlt2
        have := MemOK.new (w := w.drew) hm2.drew hlt2 (((flatSV (C t1) ((l1.drop i).take nn)).map (SV.va (ads m))).toArray ++ ((flatSV (C t1) ((l2.drop i2).take k)).map (SV.va (ads m))).toArray ++ Builtin.zeroCells z.cells (grownCap w (nn + k) mm t1 - (nn + k))) t1
          (C t1).sz (.rows t1 ((l1.drop i).take nn ++ (l2.drop i2).take k ++ List.replicate (grownCap w (nn + k) mm t1 - (nn + k)) (C t1).dflt))
          (((flat_append (ad := ads m) _ _ z.cells (hzz _) hzs hn0 _).ads _).ok w.drew t1 true none)
        exact this
    split at hl
    · -- it may be written
      rename_i hwr
      have hlk := length_setCk m c (.dead : Cells C)
      have hltk : memLt (setCk m c (.dead : Cells C)).length (setCk m c .dead) = true := by
        rw [hlk]
        have : ∀ (r : List (Ck C)) (c k : Nat), memLt k r = true → memLt k (setCk r c .dead) = true := by
          intro r
          induction r with
          | nil => intro c k h; exact h
          | cons y r ih =>
            intro c k h
            simp only [memLt, Bool.and_eq_true] at h
            cases c with
            | zero => simp [setCkN, setCk0, setCkS, memLt, h.2, Ck.lt]
            | succ c => simp [setCkN, setCk0, setCkS, memLt, h.1, ih c k h.2]
        exact this m c _ c1
      have hadsk : ∀ (x : Ck C) k, k < m.length → ads m k = ads (setCk m c .dead ++ [x]) k := by
        intro x k hk
        rw [← ads_append _ _ k (by omega), ads_setCk]
      have hadsn : ∀ (x : Ck C), ads (setCk m c .dead ++ [x]) m.length = x.ad := by
        intro x
        have := ads_append_new (setCk m c .dead) x
        rwa [hlk] at this
      by_cases hroom : nn + k ≤ mm
      · -- room
        have hcellrow : ∀ j, j < k * (C t1).sz → (nth m c).ad.at (i + nn + j / (C t1).sz) (j % (C t1).sz) = ⟨(nth m c).block, (nth m c).base + i * (nth m c).sz + nn * ti.size + j, none⟩ := by
          intro j hj
          have hdm := Nat.div_add_mod j (C t1).sz
          simp only [Ck.ad, Ad.at, hcsz, hsz]
          congr 1
          rw [Nat.add_mul, Nat.add_mul]
          have : j / (C t1).sz * (C t1).sz + j % (C t1).sz = j := by rw [Nat.mul_comm]; omega
          omega
        have hpos : 0 < (C t1).sz := by omega
        have hisSome : ∀ j, j < ((flatSV (C t1) ((l2.drop i2).take k)).map (SV.va (ads m))).length → (w.cell? ⟨(nth m c).block, (nth m c).base + i * (nth m c).sz + nn * ti.size + j, none⟩).isSome = true := by
          intro j hj
          rw [hnl, hsz] at hj
          rw [← hcellrow j hj]
          have hd : j / (C t1).sz < k := by apply Nat.div_lt_of_lt_mul; rw [Nat.mul_comm]; exact hj
          rw [hok _ (by omega) _ (Nat.mod_lt _ hpos)]; rfl
        have hr := run_append_in (P := P) (w := w) t ty t1 ti hu hti (nth m c).block ((nth m c).base + i * (nth m c).sz) nn mm ((ads m c2').at i2 0) k q2 _ hnl hnews (flat_one _ _ _) hroom hisSome
          (fun j _ => hm.wrok _ (nth_mem (lt_of_live hlive)) hwr hlive _ rfl)
        obtain ⟨g1, g2, g3, g4, g5⟩ := heap_setCells (nth m c).block ((flatSV (C t1) ((l2.drop i2).take k)).map (SV.va (ads m))) ((nth m c).base + i * (nth m c).sz + nn * ti.size) w
        have hupd : MemOK S w0 (w.setCells (nth m c).block ((nth m c).base + i * (nth m c).sz + nn * ti.size) ((flatSV (C t1) ((l2.drop i2).take k)).map (SV.va (ads m)))) (setCk m c (.rows t1 (l1.take (i + nn) ++ (l2.drop i2).take k ++ l1.drop (i + nn + k)))) := by
          refine hm.upd hwr hlive g3 g4 g5 g2 g1 (fun a => World.frozen?_setCells _ _ _ _ _) _ rfl ?_
          refine ⟨hcsz, fun r hr' f hf => ?_⟩
          have e0 : ({ nth m c with cells := .rows t1 (l1.take (i + nn) ++ (l2.drop i2).take k ++ l1.drop (i + nn + k)) } : Ck C).ad = (nth m c).ad := rfl
          rw [e0]
          have hlen1 : (l1.take (i + nn)).length = i + nn := by simp; omega
          have hlen2 : ((l2.drop i2).take k).length = k := by simp; omega
          have hlen3 : (l1.take (i + nn) ++ (l2.drop i2).take k ++ l1.drop (i + nn + k)).length = l1.length := by simp; omega
          rw [hlen3] at hr'
          have hoff : (nth m c).ad.at r f = ⟨(nth m c).block, (nth m c).base + (r * (C t1).sz + f), none⟩ := by simp [Ck.ad, Ad.at, hcsz]
          by_cases hin : i + nn ≤ r ∧ r < i + nn + k
          · have hj : (r - (i + nn)) * (C t1).sz + f < ((flatSV (C t1) ((l2.drop i2).take k)).map (SV.va (ads m))).length := by
              rw [hnl, hsz]
              have := Nat.mul_le_mul_right (C t1).sz (show (r - (i + nn)) + 1 ≤ k by omega)
              rw [Nat.add_mul] at this; omega
            have := World.cell?_setCells_in (nth m c).block _ ((nth m c).base + i * (nth m c).sz + nn * ti.size) w hisSome _ hj
            have e1 : (⟨(nth m c).block, (nth m c).base + i * (nth m c).sz + nn * ti.size + ((r - (i + nn)) * (C t1).sz + f), none⟩ : Addr) = (nth m c).ad.at r f := by
              rw [hoff, hcsz, hsz]
              congr 1
              have : r * (C t1).sz = (i + nn + (r - (i + nn))) * (C t1).sz := by congr 1; omega
              rw [this, Nat.add_mul, Nat.add_mul]; omega
            rw [e1] at this
            rw [this]
            have e2 : (l1.take (i + nn) ++ (l2.drop i2).take k ++ l1.drop (i + nn + k)).getD r (C t1).dflt = ((l2.drop i2).take k).getD (r - (i + nn)) (C t1).dflt := by
              simp only [List.getD]
              rw [List.getElem?_append_left (by simp; omega), List.getElem?_append_right (by omega), hlen1]
            rw [e2]
            have hg := flatSV_get (C t1) ((l2.drop i2).take k) (r - (i + nn)) f (by omega) hf
            rw [← List.getElem?_eq_getElem hj, List.getElem?_map, hg]; rfl
          · rw [World.cell?_setCells_out]
            · rw [hok r hr' f hf]
              have e2 : (l1.take (i + nn) ++ (l2.drop i2).take k ++ l1.drop (i + nn + k)).getD r (C t1).dflt = l1.getD r (C t1).dflt := by
                simp only [List.getD]
                by_cases h1 : r < i + nn
                · rw [List.getElem?_append_left (by simp; omega), List.getElem?_append_left (by omega), List.getElem?_take_of_lt h1]
                · rw [List.getElem?_append_right (by simp; omega)]
                  simp only [List.length_append, hlen1, hlen2, List.getElem?_drop]
                  rw [show i + nn + k + (r - (i + nn + k)) = r by omega]
              rw [e2]
            · intro _ _
              rw [hoff, hnl, hcsz, hsz]
              simp only
              rcases Nat.lt_or_ge r (i + nn) with h1 | h1
              · left
                have := Nat.mul_le_mul_right (C t1).sz (show r + 1 ≤ i + nn by omega)
                rw [Nat.add_mul, Nat.add_mul] at this; omega
              · right
                have := Nat.mul_le_mul_right (C t1).sz (show i + nn + k ≤ r by omega)
                rw [Nat.add_mul, Nat.add_mul] at this; omega
        have hltu : memLt (setCk m c (.rows t1 (l1.take (i + nn) ++ (l2.drop i2).take k ++ l1.drop (i + nn + k)))).length (setCk m c (.rows t1 (l1.take (i + nn) ++ (l2.drop i2).take k ++ l1.drop (i + nn + k)))) = true := by
          rw [length_setCk]
          have : ∀ (r : List (Ck C)) (c k : Nat) (cs : List (C t1).α), memLt k r = true → memLt k (setCk r c (.rows t1 cs)) = true := by
            intro r
            induction r with
            | nil => intro c k cs h; exact h
            | cons y r ih =>
              intro c k cs h
              simp only [memLt, Bool.and_eq_true] at h
              cases c with
              | zero => simp [setCkN, setCk0, setCkS, memLt, h.2, Ck.lt]
              | succ c => simp [setCkN, setCk0, setCkS, memLt, h.1, ih c k cs h.2]
          exact this m c _ _ c1
        have hcu : nth (setCk m c (.rows t1 (l1.take (i + nn) ++ (l2.drop i2).take k ++ l1.drop (i + nn + k)))) c = { nth m c with cells := .rows t1 (l1.take (i + nn) ++ (l2.drop i2).take k ++ l1.drop (i + nn + k)) } := by
          rw [nth_setCk, if_pos ⟨rfl, lt_of_live hlive⟩]
        have hmv := hupd.move hltu (c := c) (t := t1) (by rw [hcu]) (by rw [hcu]; exact hwr) i
        have hss : ∀ (r : List (Ck C)) (c : Nat) (x y : Cells C), setCk (setCk r c x) c y = setCk r c y := by
          intro r
          induction r with
          | nil => intro c x y; rfl
          | cons z r ih => intro c x y; cases c with
            | zero => rfl
            | succ c => simp [setCkN, setCk0, setCkS, ih]
        rw [hss, hcu] at hmv
        have hlen1 : (l1.take (i + nn)).length = i + nn := by simp; omega
        have hdr : (l1.take (i + nn) ++ (l2.drop i2).take k ++ l1.drop (i + nn + k)).drop i = (l1.drop i).take nn ++ (l2.drop i2).take k ++ l1.drop (i + nn + k) := by
          rw [List.append_assoc, List.drop_append_of_le_length (by omega), ← List.append_assoc, List.drop_take, show i + nn - i = nn by omega]
        simp only [hdr] at hmv
        have hsp : (l1.drop (i + nn + k)).length = l1.length - (i + nn + k) := by simp
        refine ⟨_, _, .sl m.length 0 (nn + k) mm, .inl ?_, hmv, ?_, hadsk _, by simp [hlk], .inr c2⟩
        rotate_left
        · have := hl (nth m c).block ((nth m c).base + i * (nth m c).sz) (l1.drop (i + nn + k)) mm hroom (by omega)
          simp only [hcsz] at this ⊢
          exact this
        · rw [hexec _ _ hr]
          simp only [SV.va, hadsn, Ck.ad, Ad.at]
          simp
      · -- none
        obtain ⟨w', cap, hr, hmem⟩ := hgrow (by omega)
        have hm2 := hmem _ (hm.kill c) hltk
        refine ⟨_, _, .sl m.length 0 (nn + k) (nn + k + cap), .inl ?_, hm2, ?_, hadsk _, by simp [hlk], .inr c2⟩
        rotate_left
        · exact hl w.heap.size 0 (List.replicate cap (C t1).dflt) (nn + k + cap) (by omega) (by simp)
        · rw [hexec _ _ hr]
          simp only [SV.va, hadsn, Ck.ad, Ad.at]
          simp
    · -- it may not
      obtain ⟨p5, hl⟩ := hl
      have p5 := p5
      obtain ⟨w', cap, hr, hmem⟩ := hgrow p5
      have hm2 := hmem _ hm c1
      refine ⟨_, _, .sl m.length 0 (nn + k) (nn + k + cap), .inl ?_, hm2, ?_, ads_append _ _, by simp, .inr c2⟩
      rotate_left
      · have := hl w.heap.size (List.replicate cap (C t1).dflt)
        simp only [List.length_replicate] at this
        exact this
      · rw [hexec _ _ hr]
        simp only [SV.va, ads_append_new, Ck.ad, Ad.at]
        simp
  · -- onto nil
    obtain ⟨hlf, hl0, hl⟩ := hl
    obtain ⟨p3, p4⟩ := hlf
    have hnews := read_rows hm hcl2 p3 hn0
    have hnl : ((flatSV (C t2) ((l2.drop i2).take k)).map (SV.va (ads m))).length = k * ti.size := by rw [List.length_map, flatSV_len, hsz]; congr 1; simp; omega
    by_cases hk : k = 0
    · subst hk
      refine ⟨w, m, .nils, .inl ?_, hm, hl0 rfl, fun _ _ => rfl, Nat.le_refl _, .inl ⟨rfl, rfl⟩⟩
      refine hexec _ _ ?_
      have hfc := run_firstCells_some (P := P) w ti.size 0 ((ads m c2').at i2 0) 0 q2 [] (by simp) (by simp)
      simp [Builtin.append_, run_underlying' hu, sizeOf, typeInfo, hti, Builtin.lenOf, SV.va, hfc]
    · have hr := run_append_nil (P := P) w t ty t2 ti z hu hti hz ((ads m c2').at i2 0) k q2 _ hnl hnews (by omega) (hbytes _ p4) (by omega)
      have hge := hcap w k 0
      have hmem := MemOK.new (w := w.drew) hm.drew c1 (((flatSV (C t2) ((l2.drop i2).take k)).map (SV.va (ads m))).toArray ++ Builtin.zeroCells z.cells (grownCap w k 0 t2 - k)) t2
          (C t2).sz (.rows t2 ((l2.drop i2).take k ++ List.replicate (grownCap w k 0 t2 - k) (C t2).dflt))
          (by
            have := ((flat_append (ad := ads m) [] ((l2.drop i2).take k) z.cells (hzz _) hzs hn0 (grownCap w k 0 t2 - k)).ads (ads (m ++ [⟨w.drew.heap.size, 0, (C t2).sz, true, none, .rows t2 ((l2.drop i2).take k ++ List.replicate (grownCap w k 0 t2 - k) (C t2).dflt)⟩]))).ok w.drew t2 true none
            simpa [flatSV] using this)
      refine ⟨_, _, .sl m.length 0 k (k + (List.replicate (grownCap w k 0 t2 - k) (C t2).dflt).length), .inl ?_, hmem, ?_, ads_append _ _, by simp, .inr c2⟩
      rotate_left
      · have := hl (by omega) w.heap.size (List.replicate (grownCap w k 0 t2 - k) (C t2).dflt)
        exact this
      · refine hexec _ _ ?_
        have e1 : k + (List.replicate (grownCap w k 0 t2 - k) (C t2).dflt).length = grownCap w k 0 t2 := by simp; omega
        simp only [SV.va, ads_append_new, Ck.ad, Ad.at, e1] at hr ⊢
        rw [hr]
        simp

end Go.Vx
