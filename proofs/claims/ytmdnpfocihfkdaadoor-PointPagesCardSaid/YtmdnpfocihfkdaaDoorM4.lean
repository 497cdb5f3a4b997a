/-
  The symbolic evaluator, sixteenth part: regions, code, loops.
  The symbolic evaluator, seventeenth part: functions and their contracts.
  The symbolic evaluator, eighteenth part: which function a method of an interface value is.
  The symbolic evaluator, nineteenth part: from a contract to a law's own call.
  Lists in order; parts of lists; two things that change places; two lists in order that are laid into one: plain facts.
  The symbolic evaluator: the plan of a great region, looked at in pieces.
  The symbolic evaluator, twenty-third part: what a row's laid sentinels give a walk, a whole list of them.
  A slice of structs that came in, az a row of chunks.
  Inputs that hold slices: a struct's own slices, slices of slices; the frame that also tells what the input's blocks hold.
  Round 23: element types; errors; slices of slices.
  Round 23: the order of the great regions of sorting (the print of tools/bigplan.py).
  Round 23: sums of bytes, the program's and the document's.
  Round 23: parts of a slice of pages change places; two parts that stand side by side are turned.
  Round 23: pages that are compared; a part of a slice of pages is put in order, one by one.
  Round 23: two parts that are laid into one: plain facts.
  Round 23: two parts that are laid into one, the great case: plain facts.
  Conditions: none.
-/
import Derived.Test.YtmdnpfocihfkdaaDoorM3
import Derived.Below
import Derived.Stop.LaidErr
import Derived.ProofKit
import Derived.OpenShut
import Derived.ChangeArms
import Derived.MakeChecks
import Derived.Deep.Slices
import Derived.Deep.Strs
import Derived.Handed
import Derived.Deep.Matrix
import Derived.Test.YtmdnpfocihfkdaaDoorProg
import Derived.KernelRfl
open Array renaming replicate → xw
open Bool renaming and_eq_true → zx
open List renaming append_assoc → zm, append_nil → zk, cons_append → wg, drop_append → qy, drop_append_of_le_length → xe, drop_drop → wz, drop_eq_nil_of_le → wd, drop_left → qk, drop_take → uh, drop_zero → xi, getD → yd, getD_eq_getElem?_getD → zz, getElem?_drop → xp, getElem?_eq_getElem → zv, getElem?_map → zh, getElem?_take_of_lt → xy, length_append → zw, length_cons → xz, length_drop → zj, length_nil → uv, length_set → xc, length_take → zp, mapM_cons → qi, mem_cons_of_mem → zg, mem_cons_self → xj, nil_append → xl, range → vh, take_add → vo, take_add_one → tx, take_append → qq, take_append_drop → zc, take_append_of_le_length → yh, take_left → rg, take_of_length_le → zu, take_take → vm, take_zero → xv
open Nat renaming beq → zo, ble → si, blt → xh, eq_of_beq_eq_true → zr, le_refl → zy, lt_or_ge → xr, sub_self → sw, sub_zero → uw, zero_le → zn, zero_lt_one → rl
open Option renaming getD_some → zb, map_some → yu
set_option linter.unusedVariables false
set_option linter.unusedSimpArgs false
set_option linter.unusedSectionVars false
namespace Go.Vx
open Go
variable {C : Nat → Codec}
theorem sops_ok {P : Program} {S : Sx} {w0 : World} {E : Env P C} {ops : Array Oper} {Q : Exit → Act → World → Prop} : ∀ {l : List Oper} {tm : Tm} {m : List (Ck C)} {K : Tm → List (Ck C) → Tr} {a : Act} {w : World},
 sops E ops l tm m K → ActOK (ads m) E.n tm a → MemOK S w0 w m → (∀ tm' m' a' w', K tm' m' → ActOK (ads m') E.n tm' a' → MemOK S w0 w' m' → Q .normal a' w') → wpList P ops Q l a w
 | [], tm, m, K, a, w, hs, h, hm, hq => hq _ _ _ _ hs h hm
 | o :: r, tm, m, K, a, w, hs, h, hm, hq => by
   obtain ⟨h1, h2⟩ := stepP_ok (Q := Q) (next := wpList P ops Q r) hs h hm (fun tm' m' a' w' hk h' hm' _ => by simp only [fTm1_eq, fM_eq] at hk; exact sops_ok hk h' hm' hq)
   unfold wpList
   split
   · rename_i hw; exact .inl (h1 hw)
   · rename_i hw; exact h2 (by simpa using hw)
def stepQ {P : Program} (E : Env P C) (ops : Array Oper) (o : Oper) (tm : Tm) (m : List (Ck C)) (K : Tm → List (Ck C) → Tr) : Tr :=
 match gd ops tm o.guard with
 | .lost => .no
 | .skip => match put? E.n tm o.dst [] .undef with
   | some tm' => K tm' m
   | none => .no
 | .run cs => match pureP E tm m (alOf cs) o with
   | some (ps, v) => match put? E.n tm o.dst cs v with
     | some tm' => asks cs ps (K tm' m)
     | none => .no
   | none => match famOf P E.fams tm m (alOf cs) o.op with
     | some _ => famQ E ops o 8 tm m K
     | none => match pureQ E tm m (alOf cs) o.op with
       | some (ps, v) => match put? E.n tm o.dst cs v with
         | some tm' => asks cs ps (K tm' m)
         | none => .no
       | none => match cs with
         | [] => .no
         | _ :: _ => match put? E.n tm o.dst [] .undef with
           | some tm' => asks cs [False] (K tm' m)
           | none => .no
def sopsQ {P : Program} (E : Env P C) (ops : Array Oper) : List Oper → Tm → List (Ck C) → (Tm → List (Ck C) → Tr) → Tr
 | [], tm, m, K => K tm m
 | o :: r, tm, m, K => stepQ E ops o tm m fun tm' m' => fTm1 tm' fun tm' => sopsQ E ops r tm' m' K
theorem sopsQ_ok {P : Program} {S : Sx} {w0 : World} {E : Env P C} {ops : Array Oper} {Q : Act → Prop} : ∀ {l : List Oper} {tm : Tm} {m : List (Ck C)} {K : Tm → List (Ck C) → Tr} {a : Act}, GlOK m →
 sopsQ E ops l tm m K → ActOK (ads m) E.n tm a → (∀ tm' m' a', K tm' m' → ActOK (ads m') E.n tm' a' → (∀ w, MemOK S w0 w m ↔ MemOK S w0 w m') → (m.length ≤ m'.length ∧ ∀ k, k < m.length → ads m k = ads m' k) → Q a') → wpQuiet P ops (fun w => MemOK S w0 w m) Q l a
 | [], tm, m, K, a, hg, hs, h, hq => hq _ _ _ hs h (fun _ => Iff.rfl) ⟨zy _, fun _ _ => rfl⟩
 | o :: r, tm, m, K, a, hg, hs, h, hq => by
   unfold wpQuiet
   simp only [sopsQ] at hs
   unfold stepQ at hs
   split at hs <;> try (first | contradiction | exact False.elim hs)
   · rename_i hgd
     have hw := gd_skip h hgd
     split at hs <;> try (first | contradiction | exact False.elim hs)
     rename_i tm' hp
     rw [if_neg (by simp [hw])]
     dsimp only at hs
     rw [fTm1_eq] at hs
     exact sopsQ_ok hg hs (put_ok h hp (by simp) _ rfl) hq
   · rename_i cs hgd
     obtain ⟨hw, hcs⟩ := gd_run h hgd
     have fin : ∀ (ps : List Prop) (v : SV) (tm' : Tm), put? E.n tm o.dst cs v = some tm' → asks cs ps (fTm1 tm' fun tm' => sopsQ E ops r tm' m K) →
      (holds cs = true → allOf ps → ∀ w, MemOK S w0 w m → o.quietAt P a (fun w => MemOK S w0 w m) w (v.va (ads m))) →
      (if Region.wanted o (yielded ops a.tmps) then o.quiet P a (fun w => MemOK S w0 w m) (wpQuiet P ops (fun w => MemOK S w0 w m) Q r) else wpQuiet P ops (fun w => MemOK S w0 w m) Q r (a.put o.dst Go.undef)) := by
      intro ps v tm' hp hs hr
      obtain ⟨hK, hps⟩ := asks_ok hs
      rw [fTm1_eq] at hK
      cases e : holds cs with
      | true =>
        rw [if_pos (by rw [hw, e])]
        refine ⟨v.va (ads m), hr e (hps e), sopsQ_ok hg hK (put_ok h hp hcs _ ?_) hq⟩
        cases cs with
        | nil => rfl
        | cons c r => simp [mkc, SV.va, e]
      | false =>
        rw [if_neg (by rw [hw, e]; simp)]
        refine sopsQ_ok hg hK (put_ok h hp hcs _ ?_) hq
        cases cs with
        | nil => cases e
        | cons c r => simp [mkc, SV.va, e]
     split at hs
     · rename_i ps v hpu
       split at hs <;> try (first | contradiction | exact False.elim hs)
       rename_i tm' hp
       refine fin ps v tm' hp hs fun e hps w hm => ?_
       have hr := pureP_ok h hg (alOf_ok hcs e) hpu hps w
       unfold Oper.quietAt; rw [hr]; exact ⟨rfl, rfl⟩
     split at hs
     · obtain ⟨v, tm', m', hr, hK, h', hiff, hg', hle, hads⟩ := famQ_ok (S := S) (w0 := w0) hg 8 tm hs h
       rw [fTm1_eq] at hK
       have hnext := sopsQ_ok (S := S) (w0 := w0) (Q := Q) hg' hK h' (fun tm2 m2 a2 k1 k2 k3 k4 => hq tm2 m2 a2 k1 k2 (fun w => (hiff w).trans (k3 w)) ⟨Nat.le_trans hle k4.1, fun k hk => (hads k hk).1.trans (k4.2 k (by omega))⟩)
       rw [← memEq hiff] at hnext
       rcases hr with ⟨hw', hr⟩ | ⟨hw', rfl⟩
       · rw [if_pos hw']
         refine ⟨v, fun w hm => ?_, hnext⟩
         unfold Oper.quietAt; rw [hr w hm]; exact ⟨rfl, rfl⟩
       · rw [if_neg (by simp [hw'])]
         exact hnext
     · split at hs
       rotate_left
       · cases cs with
         | nil => exact False.elim hs
         | cons c1 c2 =>
           dsimp only at hs
           split at hs <;> try (first | contradiction | exact False.elim hs)
           rename_i tm' hp
           obtain ⟨hK, hno⟩ := asks_ok hs
           rw [fTm1_eq] at hK
           cases e : holds (c1 :: c2) with
           | true => exact (hno e).1.elim
           | false =>
             rw [if_neg (by rw [hw, e]; simp)]
             exact sopsQ_ok hg hK (put_ok h hp (by simp) _ rfl) hq
       rename_i ps v hpu
       split at hs <;> try (first | contradiction | exact False.elim hs)
       rename_i tm' hp
       refine fin ps v tm' hp hs fun e hps w hm => ?_
       rcases pureQ_ok (S := S) (w0 := w0) h (alOf_ok hcs e) hpu hps w hm with hr | ⟨f, vals, hr, hc⟩
       · unfold Oper.quietAt; rw [hr]; exact ⟨rfl, rfl⟩
       · unfold Oper.quietAt; rw [hr]; exact ⟨rfl, hc⟩
inductive Ex where
 | nor
 | exit (id : Nat)
 | ret
def Ex.of : Ex → Exit
 | .nor => .normal
 | .exit i => .exit i
 | .ret => .ret
def firstId : Code → Nat
 | .region id _ _ => id
 | .seq a b => match firstId a with
   | 0 => firstId b
   | n => n
 | .block _ c => firstId c
 | .loop c => firstId c
 | .scope c => firstId c
 | _ => 0
def writes : Code → List Nat
 | .region _ ops _ => ops.toList.filterMap (·.dst)
 | .seq a b => writes a ++ writes b
 | .cond _ a b => writes a ++ writes b
 | .block _ c => writes c
 | .loop c => writes c
 | .scope c => writes c
 | _ => []
def inList (k : Nat) : List Nat → Bool
 | [] => false
 | x :: r => zo x k || inList k r
def keepTm (ws : List Nat) : Tm → Tm
 | [] => []
 | (k, v) :: r => match inList k ws with
   | true => keepTm ws r
   | false => match v with
     | .cnd _ _ => keepTm (k :: ws) r
     | v => (k, v) :: keepTm (k :: ws) r
structure Inv' (C : Nat → Codec) where
 id : Nat
 X : Type
 tm : X → Tm
 mem : X → List (Ck C) → List (Ck C)
 inv : X → Prop
 meas : X → Nat
def findInvs (id : Nat) : List (Inv' C) → List (Inv' C)
 | [] => []
 | x :: r => if zo x.id id then x :: findInvs id r else findInvs id r
def allI : List (Inv' C) → (Inv' C → Tr) → Tr
 | [], _ => .yes
 | I :: r, f => .and (f I) (allI r f)
theorem allI_ok : ∀ {l : List (Inv' C)} {f : Inv' C → Tr}, (allI l f).holds → ∀ I ∈ l, (f I).holds
 | [], _, _, I, hI => by cases hI
 | J :: r, f, h, I, hI => by
   rcases List.mem_cons.1 hI with rfl | hI
   · exact h.1
   · exact allI_ok h.2 I hI
def Stands (l : List (Inv' C)) (f : (I : Inv' C) → I.X → Prop) : Prop := ∃ I ∈ l, ∃ x, f I x
theorem Stands.one {I : Inv' C} {r : List (Inv' C)} {f : (I : Inv' C) → I.X → Prop} (x : I.X) (h : f I x) : Stands (I :: r) f := ⟨I, xj .., x, h⟩
theorem Stands.next {I : Inv' C} {r : List (Inv' C)} {f : (I : Inv' C) → I.X → Prop} (h : Stands r f) : Stands (I :: r) f := by
 obtain ⟨J, hJ, x, h⟩ := h
 exact ⟨J, zg _ hJ, x, h⟩
mutual
def unif : SV → SV → List (Nat × Nat)
 | .ptr c _ _, .ptr c' _ _ => [(c, c')]
 | .sl c _ _ _, .sl c' _ _ _ => [(c, c')]
 | .sl c _ _ _, .nils => [(c, 200)]
 | .mp c, .mp c' => [(c, c')]
 | .agg a, .agg b => unifs a b
 | .tup a, .tup b => unifs a b
 | .ifc _ v, .ifc _ v' => unif v v'
 | .fn _ a b, .fn _ a' b' => unifs a a' ++ unifs b b'
 | _, _ => []
def unifs : List SV → List SV → List (Nat × Nat)
 | a :: r, b :: s => unif a b ++ unifs r s
 | _, _ => []
end
def look : List (Nat × Nat) → Nat → Nat
 | [], k => k
 | (a, b) :: r, k => if zo a k then b else look r k
def unifTm (tm : Tm) : Tm → List (Nat × Nat)
 | [] => []
 | (k, v) :: r => unif v (get tm k) ++ unifTm tm r
def unifMem (m : List (Ck C)) : Nat → List (Ck C) → List (Nat × Nat) → List (Nat × Nat)
 | _, [], acc => acc
 | k, a :: r, acc => unifMem m (k + 1) r (match a.cells, (nth m (look acc k)).cells with
   | .one vs, .one vs' => acc ++ unifs vs vs'
   | .it c _ _, .it c' _ _ => acc ++ [(c, c')]
   | _, _ => acc)
def namesOf (acc : List (Nat × Nat)) : Nat → List (Ck C) → List Nat
 | _, [] => []
 | k, _ :: r => look acc k :: namesOf acc (k + 1) r
def tmSub (N : Nat) (ρ : List Nat) (tm : Tm) : Tm → Option (List Prop)
 | [] => some []
 | (k, v) :: r => match isJunk v with
   | true => tmSub N ρ tm r
   | false => match eqv N (get tm k) (v.ren ρ), tmSub N ρ tm r with
     | some p, some q => some (p ++ q)
     | _, _ => none
def once : List Nat → Tm → Bool
 | _, [] => true
 | ks, (k, _) :: r => !(inList k ks) && once (k :: ks) r
def fP : List (Nat × Nat) → (List (Nat × Nat) → Tr) → Tr
 | [], K => K []
 | (a, b) :: r, K => fP r fun r => K ((a, b) :: r)
theorem fP_eq : ∀ (l : List (Nat × Nat)) (K : List (Nat × Nat) → Tr), fP l K = K l
 | [], _ => rfl
 | (a, b) :: r, K => by simp only [fP, fP_eq r]
def fNat (n : Nat) : (Nat → Tr) → Tr :=
 Nat.rec (motive := fun _ => (Nat → Tr) → Tr) (fun K => K 0) (fun _ ih K => ih fun n => K (n + 1)) n
theorem fNat_eq : ∀ (n : Nat) (K : Nat → Tr), fNat n K = K n
 | 0, _ => rfl
 | n + 1, K => by
   show fNat n (fun n => K (n + 1)) = K (n + 1)
   rw [fNat_eq n]
def fNames : List Nat → (List Nat → Tr) → Tr
 | [], K => K []
 | x :: r, K => fNat x fun x => fNames r fun r => K (x :: r)
theorem fNames_eq : ∀ (l : List Nat) (K : List Nat → Tr), fNames l K = K l
 | [], _ => rfl
 | x :: r, K => by simp only [fNames, fNat_eq, fNames_eq r]
def unifMemK (m : List (Ck C)) : Nat → List (Ck C) → List (Nat × Nat) → (List (Nat × Nat) → Tr) → Tr
 | _, [], acc, K => K acc
 | k, a :: r, acc, K => fP (match a.cells, (nth m (look acc k)).cells with
   | .one vs, .one vs' => acc ++ unifs vs vs'
   | .it c _ _, .it c' _ _ => acc ++ [(c, c')]
   | _, _ => acc) fun acc' => unifMemK m (k + 1) r acc' K
theorem unifMemK_eq (m : List (Ck C)) : ∀ (r : List (Ck C)) (k : Nat) (acc : List (Nat × Nat)) (K : List (Nat × Nat) → Tr), unifMemK m k r acc K = K (unifMem m k r acc)
 | [], _, _, _ => rfl
 | a :: r, k, acc, K => by simp only [unifMemK, unifMem, fP_eq, unifMemK_eq m r]
def subR (tm : Tm) (m : List (Ck C)) (tm' : Tm) (m' : List (Ck C)) (ρ : List Nat) : Tr :=
 match memLt m.length m && tmLt m.length tm && memLt m'.length m' && tmLt m'.length tm' && once [] tm' with
 | false => .no
 | true => withOffs m ρ m' fun ρ M => match apartB ρ m' with
   | false => .no
   | true => match cksEq m.length ρ M ρ m', tmSub m.length ρ tm tm' with
     | some ps, some qs => allLf (ps ++ qs)
     | _, _ => .no
def subP (tm : Tm) (m : List (Ck C)) (tm' : Tm) (m' : List (Ck C)) (acc : List (Nat × Nat)) : Tr :=
 fP acc fun acc => unifMemK m 0 m' acc fun A => fNames (namesOf A 0 m') fun ρ => subR tm m tm' m' ρ
theorem subP_eq (tm : Tm) (m : List (Ck C)) (tm' : Tm) (m' : List (Ck C)) (acc : List (Nat × Nat)) : subP tm m tm' m' acc = subR tm m tm' m' (namesOf (unifMem m 0 m' acc) 0 m') := by
 simp only [subP, fP_eq, unifMemK_eq, fNames_eq]
theorem MemOK.sub {S : Sx} {w0 w : World} {M : List (Ck C)} (h : MemOK S w0 w M) {N : Nat} (hN : ∀ c, N ≤ c → (ads M c).on = false) {ρ : List Nat} {m : List (Ck C)} (hlt : memLt m.length m = true)
 (hk : ∀ k, k < m.length → rn ρ k < M.length ∧ CkEq N ρ (nth m k) (nth M (rn ρ k))) (hap : ∀ i j, i < m.length → j < m.length → i ≠ j → (nth m i).wr = true → rn ρ i ≠ rn ρ j) :
 MemOK S w0 w m ∧ ∀ c, c < m.length → ads m c = ads M (rn ρ c) := by
 obtain ⟨⟨p1, p2, p3, p4⟩, hads⟩ := h.enterP hN hlt hk hap
 have hmore : More S w0 w m := by
  refine h.more.mono h.inS (fun _ _ _ => rfl) (fun x hx hxl => ?_) h.size (zy _) (fun x hx t y hy => ?_)
  · obtain ⟨j, hjl, rfl⟩ := mem_nth hx
    obtain ⟨h1, h2⟩ := hk j hjl
    exact .inl ⟨_, nth_mem h1, h2.live hxl, h2.block.symm, h2.wr⟩
  · obtain ⟨j, hjl, rfl⟩ := mem_nth hx
    obtain ⟨h1, h2⟩ := hk j hjl
    exact .inl ⟨_, nth_mem h1, h2.has hy, fun _ => h2.wr⟩
 refine ⟨⟨h.os, h.tape, h.output, h.size, h.keep, ?_, p1, p2, p3, p4, hmore⟩, hads⟩
 intro c hc hw ho hb
 obtain ⟨k, hkl, rfl⟩ := mem_nth hc
 obtain ⟨h1, h2⟩ := hk k hkl
 rw [h2.block] at hb ⊢
 exact h.inS _ (nth_mem h1) (h2.wr hw) (by rw [← h2.on]; exact ho) hb
theorem get_mem : ∀ (tm : Tm) (k : Nat), get tm k = .junk ∨ (k, get tm k) ∈ tm
 | [], k => .inl rfl
 | (j, u) :: r, k => by
   rw [get_put]
   split
   · rename_i e; subst e; exact .inr (by simp)
   · rcases get_mem r k with h | h
     · exact .inl h
     · exact .inr (by simp [h])
theorem tmSub_ok {N : Nat} {ρ : List Nat} {tm : Tm} : ∀ {tm' : Tm} {ps : List Prop}, tmSub N ρ tm tm' = some ps → allOf ps → ∀ k v, (k, v) ∈ tm' → v ≠ .junk → ∃ qs, eqv N (get tm k) (v.ren ρ) = some qs ∧ allOf qs
 | [], _, _, _, k, v, hk, _ => by cases hk
 | (j, u) :: r, ps, h, hp, k, v, hk, hv => by
   simp only [tmSub] at h
   split at h
   · rename_i hj
     rcases List.mem_cons.1 hk with e | hk
     · simp only [Prod.mk.injEq] at e
       obtain ⟨rfl, rfl⟩ := e
       cases v <;> simp [isJunk] at hj; exact absurd rfl hv
     · exact tmSub_ok h hp k v hk hv
   · split at h <;> try (first | contradiction | exact False.elim h)
     rename_i p q hp' hq'
     simp only [Option.some.injEq] at h; subst h
     have hpq := (allOf_append p q).1 hp
     rcases List.mem_cons.1 hk with e | hk
     · simp only [Prod.mk.injEq] at e
       obtain ⟨rfl, rfl⟩ := e
       exact ⟨p, hp', hpq.1⟩
     · exact tmSub_ok hq' hpq.2 k v hk hv
theorem subR_ok {S : Sx} {w0 w : World} {n : Nat} {tm tm' : Tm} {m m' : List (Ck C)} {ρ0 : List Nat} (h : subR tm m tm' m' ρ0) {a : Act} (ha : ActOK (ads m) n tm a) (hm : MemOK S w0 w m) :
 (ActOK (ads m') n tm' a ∧ MemOK S w0 w m') ∧ (allLt m.length ρ0 = true → ∀ c, c < m'.length → ads m' c = ads m (rn ρ0 c)) := by
 unfold subR at h
 split at h <;> try (first | contradiction | exact False.elim h)
 rename_i hc
 simp only [zx] at hc
 obtain ⟨⟨⟨⟨c0, c0'⟩, c1⟩, c2⟩, c4⟩ := hc
 obtain ⟨ρ, o, h, ho, hlM, hsame⟩ := withOffs_ok h c0
 obtain ⟨M, hMe⟩ : ∃ M, M = m ++ o := ⟨_, rfl⟩
 have hmM := hm.withO c0 ho
 obtain ⟨hadsP, hN⟩ := ads_offs (m := m) (o := o) (fun x hx => (ho x hx).1)
 rw [← hMe] at h hlM hmM hadsP hN
 have haM : ActOK (ads M) n tm a := ha.ads hadsP c0'
 split at h <;> try (first | contradiction | exact False.elim h)
 rename_i c3
 split at h <;> try (first | contradiction | exact False.elim h)
 rename_i ps qs hps hqs
 obtain ⟨hps', hqs'⟩ := (allOf_append _ _).1 (allLf_ok h)
 obtain ⟨hlen, hk⟩ := cksEq_ok hps hps'
 have hk' : ∀ k, k < m'.length → rn ρ k < M.length ∧ CkEq m.length ρ (nth m' k) (nth M (rn ρ k)) := fun k hkl => by
  obtain ⟨h1, qs, h2, h3⟩ := hk k hkl
  exact ⟨h1, ckEq_ok h2 h3⟩
 obtain ⟨hm', hads⟩ := hmM.sub hN c1 hk' (apartB_ok c3 hlen)
 refine ⟨⟨⟨ha.defers, ha.size, fun t => ?_, ?_⟩, hm'⟩, fun hall c hc => ?_⟩
 · by_cases hj : get tm' t = .junk
   · exact .inl hj
   · right
     rcases get_mem tm' t with h1 | h1
     · exact absurd h1 hj
     · obtain ⟨rs, hr1, hr2⟩ := tmSub_ok hqs hqs' t _ h1 hj
       have e := eqv_ok hN _ _ rs hr1 hr2
       rcases haM.tmps t with h2 | h2
       · rw [h2] at hr1
         simp [eqv] at hr1
       · rw [h2, e, SV.va_ren hads _ (tmLt_get c2 t)]
 · intro t cs v hg c hc b hb
   exfalso
   have hj : get tm' t ≠ .junk := by rw [hg]; simp
   rcases get_mem tm' t with h1 | h1
   · exact hj h1
   · obtain ⟨rs, hr1, _⟩ := tmSub_ok hqs hqs' t _ h1 hj
     rw [hg] at hr1
     simp only [SV.ren] at hr1
     unfold eqv at hr1
     split at hr1 <;> simp_all
 · obtain ⟨e1, e2⟩ := hsame hall
   subst e1 e2
   rw [hads c hc, hMe, zk]
theorem subP_ok {S : Sx} {w0 w : World} {n : Nat} {tm tm' : Tm} {m m' : List (Ck C)} {acc : List (Nat × Nat)} (h : subP tm m tm' m' acc) {a : Act} (ha : ActOK (ads m) n tm a) (hm : MemOK S w0 w m) :
 ActOK (ads m') n tm' a ∧ MemOK S w0 w m' := by
 rw [subP_eq] at h
 obtain ⟨ρ, hρ⟩ : ∃ ρ, ρ = namesOf (unifMem m 0 m' acc) 0 m' := ⟨_, rfl⟩
 rw [← hρ] at h
 exact (subR_ok h ha hm).1
theorem wp_loop' {P : Program} {Q : Exit → Act → World → Prop} {a : Act} {w : World} {c : Code} (I : Nat → Act → World → Prop) (n : Nat) (h₀ : I n a w)
 (round : ∀ n a w, I n a w → c.wp P (Exit.then (fun a' w' => ∃ n', n' < n ∧ I n' a' w') Q) a w) : (Code.loop c).wp P Q a w := by
 intro b k cs
 have key : ∀ n a w, I n a w → ∃ e a' w', Q e a' w' ∧ Arrives P (lone (b.at a (.code c :: .inLoop c :: k)) cs w) b k cs e a' w' := by
  intro n
  induction n using Nat.strongRecOn with
  | _ n ih =>
    intro a w hI
    obtain ⟨e, a₁, w₁, hq, harr⟩ := round n a w hI b (.inLoop c :: k) cs
    cases e with
    | normal =>
      obtain ⟨n', hlt, hI₁⟩ := hq
      obtain ⟨e₂, a₂, w₂, hq₂, harr₂⟩ := ih n' hlt a₁ w₁ hI₁
      exact ⟨e₂, a₂, w₂, hq₂, .of_steps (Steps.trans harr (.one step_inLoop)) harr₂⟩
    | exit id => exact ⟨_, a₁, w₁, hq, .pass (x := .inLoop c) rfl (fun _ _ => .inl (by simp)) harr⟩
    | goto l => exact ⟨_, a₁, w₁, hq, .pass (x := .inLoop c) rfl (fun _ _ => .inl (by simp)) harr⟩
    | ret => exact ⟨_, a₁, w₁, hq, .pass (x := .inLoop c) rfl (fun _ _ => .inl (by simp)) harr⟩
    | panic ch => exact ⟨_, a₁, w₁, hq, .pass (x := .inLoop c) rfl (fun _ _ => .inl (by simp)) harr⟩
    | outgrown => exact ⟨_, a₁, w₁, hq, .pass (x := .inLoop c) rfl (fun _ _ => .inl (by simp)) harr⟩
 obtain ⟨e, a', w', hq, harr⟩ := key n a w h₀
 exact ⟨e, a', w', hq, .of_steps (.one step_loop) harr⟩
def keysOf : Tm → List Nat
 | [] => []
 | (k, _) :: r => k :: keysOf r
def sreg {P : Program} (E : Env P C) (id : Nat) (ops : Array Oper) (draw : Bool) (tm : Tm) (m : List (Ck C)) (K : Tm → List (Ck C) → Tr) : Tr :=
 match draw with
 | false => sops E ops ops.toList tm m K
 | true => match findPlan id E.plans with
   | none => .and (.lf (Region.lexB .any ops = true)) (sopsQ E ops ops.toList tm m K)
   | some (F, pl) => .and (.lf (planned ops pl = true)) (.and (inMem (frozen tm F) m) (splan E ops (frozen tm F) m pl tm m K))
def unlike : SV → SV → Bool
 | .nils, .sl _ _ _ _ => true
 | .sl _ _ _ _, .nils => true
 | .nilp, .ptr _ _ _ => true
 | .ptr _ _ _, .nilp => true
 | .nili, .ifc _ _ => true
 | .ifc _ _, .nili => true
 | _, _ => false
def linkP (ws : List Nat) (tm : Tm) : Tm → List Prop
 | [] => []
 | (k, v) :: r => match inList k ws with
   | true => linkP ws tm r
   | false => match unlike (get tm k) v with
     | true => False :: linkP ws tm r
     | false => match get tm k with
       | .int _ a => match v with
         | .int _ b => (a = b) :: linkP ws tm r
         | _ => linkP ws tm r
       | _ => linkP ws tm r
def linkNo (ws : List Nat) (tm : Tm) : Tm → Bool
 | [] => false
 | (k, v) :: r => match inList k ws with
   | true => linkNo ws tm r
   | false => match unlike (get tm k) v with
     | true => true
     | false => linkNo ws tm r
theorem linkNo_ok {ws : List Nat} {tm : Tm} : ∀ {l : Tm}, linkNo ws tm l = true → ¬ allOf (linkP ws tm l)
 | [], h, _ => by cases h
 | (k, v) :: r, h, ha => by
   simp only [linkNo] at h
   simp only [linkP] at ha
   cases hk : inList k ws with
   | true => rw [hk] at h ha; exact linkNo_ok h ha
   | false =>
     rw [hk] at h ha
     simp only at h ha
     cases hu : unlike (get tm k) v with
     | true => rw [hu] at ha; exact ha.1
     | false =>
       rw [hu] at h ha
       simp only at h ha
       split at ha
       · split at ha
         · exact linkNo_ok h ha.2
         · exact linkNo_ok h ha
       · exact linkNo_ok h ha
def ifNo (b : Bool) (X : Tr) : Tr := match b with
 | true => .yes
 | false => X
theorem ifNo_h {b : Bool} {X : Tr} (h : (ifNo b X).holds) : b = true ∨ X.holds := by
 cases b with
 | true => exact .inl rfl
 | false => exact .inr h
def notApp : List (Ck C) → List (Ck C) → Bool
 | _ :: _, _ => false
 | [], [] => false
 | [], _ :: _ => true
def noP (a m : List (Ck C)) : List Prop := match notApp a m with
 | true => [False]
 | false => []
theorem noP_ok {a m : List (Ck C)} {l : List Prop} (h : allOf (noP a m ++ l)) : notApp a m = false ∧ allOf l := by
 unfold noP at h
 split at h
 · exact h.1.elim
 · rename_i e; exact ⟨e, h⟩
def linked : List Prop → Tr → Tr
 | [], X => X
 | p :: r, X => .and (.lf p) (linked r X)
def linkT : List Prop → Tr → Tr
 | [], X => X
 | p :: r, X => .imp p (linkT r X)
theorem linked_ok : ∀ {l : List Prop} {X : Tr}, (linked l X).holds → allOf l ∧ X.holds
 | [], _, h => ⟨trivial, h⟩
 | _ :: _, _, h => ⟨⟨h.1, (linked_ok h.2).1⟩, (linked_ok h.2).2⟩
theorem linkT_ok : ∀ {l : List Prop} {X : Tr}, (linkT l X).holds → allOf l → X.holds
 | [], _, h, _ => h
 | _ :: _, _, h, hl => linkT_ok (h hl.1) hl.2
def hasJ : List (Inv' C) → Bool
 | [] => false
 | x :: r => match xh 999999 x.id with
   | true => true
   | false => hasJ r
def findJ (b : Code) (L : List (Inv' C)) : List (Inv' C) := match hasJ L with
 | false => []
 | true => findInvs (1000000 + firstId b) L
def sexec {P : Program} (E : Env P C) (L : List (Inv' C)) : Code → Tm → List (Ck C) → (Ex → Tm → List (Ck C) → Tr) → Tr
 | .skip, tm, m, K => K .nor tm m
 | .region id ops draw, tm, m, K => sreg E id ops draw tm m fun tm' m' => K .nor tm' m'
 | .seq a b, tm, m, K => match findJ b L with
   | [] => sexec E L a tm m fun e tm' m' => match e with
     | .nor => sexec E L b tm' m' K
     | e => K e tm' m'
   | I0 :: Ir => fL (I0 :: Ir) fun Is => fLN (writes a) fun ws =>
     .and (sexec E L a tm m fun e tm' m' => match e with
      | .nor => Tr.lf (Stands Is fun I' x' => I'.inv x' ∧ (linked (noP (I'.mem x' m) m ++ linkP ws tm (I'.tm x')) (subP tm' m' (I'.tm x' ++ keepTm (keysOf (I'.tm x') ++ ws) tm) (I'.mem x' m) (unifTm tm' (I'.tm x')))).holds)
      | e => K e tm' m')
      (allI Is fun I => .all fun x => ifNo (linkNo ws tm (I.tm x)) (ifNo (notApp (I.mem x m) m) (.imp (I.inv x) (linkT (linkP ws tm (I.tm x)) (fTm (I.tm x ++ keepTm (keysOf (I.tm x) ++ ws) tm) fun tmL => fM (I.mem x m) fun mL => sexec E L b tmL mL K)))))
 | .cond c x y, tm, m, K => match ev tm m [] c with
   | some (.bool .t) => sexec E L x tm m K
   | some (.bool .f) => sexec E L y tm m K
   | some (.bool (.tm b)) => .and (.imp (b = true) (sexec E L x tm m K)) (.imp (b = false) (sexec E L y tm m K))
   | _ => .no
 | .block id c, tm, m, K => sexec E L c tm m fun e tm' m' => match e with
   | .exit i => match zo i id with
     | true => K .nor tm' m'
     | false => K (.exit i) tm' m'
   | e => K e tm' m'
 | .loop c, tm, m, K => fL (findInvs (firstId c) L) fun Is => fLN (writes c) fun ws =>
    .and (.lf (Stands Is fun I x0 => I.inv x0 ∧ (linked (noP (I.mem x0 m) m ++ linkP ws tm (I.tm x0)) (subP tm m (I.tm x0 ++ keepTm (keysOf (I.tm x0) ++ ws) tm) (I.mem x0 m) (unifTm tm (I.tm x0)))).holds))
     (allI Is fun I => .all fun x => ifNo (linkNo ws tm (I.tm x)) (ifNo (notApp (I.mem x m) m) (.imp (I.inv x) (linkT (linkP ws tm (I.tm x)) (fTm (I.tm x ++ keepTm (keysOf (I.tm x) ++ ws) tm) fun tmL => fM (I.mem x m) fun mL => sexec E L c tmL mL fun e tm' m' => match e with
       | .nor => Tr.lf (Stands Is fun I' x' => I'.inv x' ∧ I'.meas x' < I.meas x ∧ (linked (noP (I'.mem x' m) m ++ linkP ws tm (I'.tm x')) (subP tm' m' (I'.tm x' ++ keepTm (keysOf (I'.tm x') ++ ws) tm) (I'.mem x' m) (unifTm tm' (I'.tm x')))).holds)
       | e => K e tm' m')))))
 | .exit id, tm, m, K => K (.exit id) tm m
 | .ret, tm, m, K => K .ret tm m
 | _, _, _, _ => .no
theorem sexec_ok {P : Program} (hmix : P.follows .mixedOrders = true) {S : Sx} {w0 : World} {E : Env P C} {L : List (Inv' C)} : ∀ {c : Code} {tm : Tm} {m : List (Ck C)} {K : Ex → Tm → List (Ck C) → Tr} {a : Act} {w : World} {Q : Exit → Act → World → Prop},
 sexec E L c tm m K → ActOK (ads m) E.n tm a → MemOK S w0 w m → (∀ e tm' m' a' w', K e tm' m' → ActOK (ads m') E.n tm' a' → MemOK S w0 w' m' → Q e.of a' w') → c.wp P Q a w := by
 intro c
 induction c with
 | skip => intro tm m K a w Q hs h hm hq; exact wp_skip (hq _ _ _ _ _ hs h hm)
 | region id ops draw =>
   intro tm m K a w Q hs h hm hq
   simp only [sexec, sreg] at hs
   cases draw with
   | false => exact wp_region_list (sops_ok hs h hm (fun tm' m' a' w' hk h' hm' => hq _ _ _ _ _ hk h' hm'))
   | true =>
     simp only at hs
     split at hs
     rotate_left
     · exact draw_ok hmix hs.1 hs.2.1 hs.2.2 h hm (fun tm' m' a' w' hk h' hm' => hq _ _ _ _ _ hk h' hm')
     obtain ⟨hB, hs⟩ := hs
     exact wp_region_quiet (C := fun w => MemOK S w0 w m) hmix hB hm.drew (sopsQ_ok hm.glob hs h (fun tm' m' a' hk h' hiff _ w' hm' => hq _ _ _ _ _ hk h' ((hiff w').1 hm')))
 | seq x y ihx ihy =>
   intro tm m K a w Q hs h hm hq
   simp only [sexec] at hs
   split at hs
   · refine wp_seq (ihx hs h hm fun e tm' m' a' w' hk h' hm' => ?_)
     cases e with
     | nor => exact ihy hk h' hm' hq
     | exit i => exact hq _ _ _ _ _ hk h' hm'
     | ret => exact hq _ _ _ _ _ hk h' hm'
   · rename_i I0 Ir _
     simp only [fL_eq, fLN_eq] at hs
     obtain ⟨hs, hround⟩ := hs
     have hround := allI_ok hround
     refine wp_seq (ihx hs h hm fun e tm' m' a' w' hk h' hm' => ?_)
     cases e with
     | nor =>
       obtain ⟨I, hI, x, hix, hs'⟩ := hk
       obtain ⟨hlx, hs'⟩ := linked_ok hs'
       obtain ⟨hna, hlx⟩ := noP_ok hlx
       obtain ⟨ha', hm''⟩ := subP_ok hs' h' hm'
       have hro := (ifNo_h (hround I hI x)).resolve_left (fun hno => linkNo_ok hno hlx)
       have hro := (ifNo_h hro).resolve_left (fun hno => by rw [hna] at hno; cases hno)
       have hro := linkT_ok (hro hix) hlx
       simp only [fTm_eq, fM_eq] at hro
       exact ihy hro ha' hm'' hq
     | exit i => exact hq _ _ _ _ _ hk h' hm'
     | ret => exact hq _ _ _ _ _ hk h' hm'
 | cond c x y ihx ihy =>
   intro tm m K a w Q hs h hm hq
   have hnil : AlOK tm [] := by intro p hp; cases hp
   simp only [sexec] at hs
   split at hs <;> try (first | contradiction | exact False.elim hs)
   · rename_i hc
     exact wp_cond (t := true) (ev_ok h hm.glob hnil _ _ hc) (ihx hs h hm hq)
   · rename_i hc
     exact wp_cond (t := false) (ev_ok h hm.glob hnil _ _ hc) (ihy hs h hm hq)
   · rename_i b hc
     cases b with
     | true => exact wp_cond (t := true) (ev_ok h hm.glob hnil _ _ hc) (ihx (hs.1 rfl) h hm hq)
     | false => exact wp_cond (t := false) (ev_ok h hm.glob hnil _ _ hc) (ihy (hs.2 rfl) h hm hq)
 | block id c ih =>
   intro tm m K a w Q hs h hm hq
   refine wp_block (ih hs h hm fun e tm' m' a' w' hk h' hm' => ?_)
   cases e with
   | nor => exact hq _ _ _ _ _ hk h' hm'
   | exit i =>
     simp only [Ex.of, Exit.inBlock]
     simp only at hk
     split at hk
     · rename_i hb
       rw [if_pos (zr hb)]
       exact hq _ _ _ _ _ hk h' hm'
     · rename_i hb
       rw [if_neg (Nat.ne_of_beq_eq_false hb)]
       exact hq _ _ _ _ _ hk h' hm'
   | ret => exact hq _ _ _ _ _ hk h' hm'
 | loop c ih =>
   intro tm m K a w Q hs h hm hq
   simp only [sexec, fL_eq, fLN_eq] at hs
   obtain ⟨⟨I0, hI0, x0, hi0, hs0⟩, hround⟩ := hs
   have hround := allI_ok hround
   obtain ⟨hl0, hs0⟩ := linked_ok hs0
   obtain ⟨hn0, hl0⟩ := noP_ok hl0
   obtain ⟨ha0, hm0⟩ := subP_ok hs0 h hm
   refine wp_loop' (fun n a w => ∃ I ∈ findInvs (firstId c) L, ∃ x, (I.inv x ∧ notApp (I.mem x m) m = false ∧ allOf (linkP (writes c) tm (I.tm x))) ∧ I.meas x = n ∧ ActOK (ads (I.mem x m)) E.n (I.tm x ++ keepTm (keysOf (I.tm x) ++ writes c) tm) a ∧ MemOK S w0 w (I.mem x m)) (I0.meas x0) ⟨I0, hI0, x0, ⟨hi0, hn0, hl0⟩, rfl, ha0, hm0⟩ ?_
   rintro n a1 w1 ⟨I, hI, x, ⟨hix, hna, hlx⟩, rfl, hax, hmx⟩
   have hro := (ifNo_h (hround I hI x)).resolve_left (fun hno => linkNo_ok hno hlx)
   have hro := (ifNo_h hro).resolve_left (fun hno => by rw [hna] at hno; cases hno)
   have hro := linkT_ok (hro hix) hlx
   simp only [fTm_eq, fM_eq] at hro
   refine ih hro hax hmx fun e tm' m' a' w' hk h' hm' => ?_
   cases e with
   | nor =>
     obtain ⟨I', hI', x', hi', hlt, hs'⟩ := hk
     obtain ⟨hl', hs'⟩ := linked_ok hs'
     obtain ⟨hn', hl'⟩ := noP_ok hl'
     obtain ⟨ha', hm''⟩ := subP_ok hs' h' hm'
     exact ⟨I'.meas x', hlt, I', hI', x', ⟨hi', hn', hl'⟩, rfl, ha', hm''⟩
   | exit i => exact hq _ _ _ _ _ hk h' hm'
   | ret => exact hq _ _ _ _ _ hk h' hm'
 | exit id => intro tm m K a w Q hs h hm hq; exact wp_exit (hq _ _ _ _ _ hs h hm)
 | ret => intro tm m K a w Q hs h hm hq; exact wp_ret (hq _ _ _ _ _ hs h hm)
 | rangeFunc _ _ _ _ => intro tm m K a w Q hs; exact False.elim hs
 | scope _ _ => intro tm m K a w Q hs; exact False.elim hs
 | label _ => intro tm m K a w Q hs; exact False.elim hs
 | goto _ => intro tm m K a w Q hs; exact False.elim hs
 | refuse _ => intro tm m K a w Q hs; exact False.elim hs
end Go.Vx
namespace Go.Vx
open Go
variable {C : Nat → Codec}
def initTm : Nat → List SV → Tm
 | _, [] => []
 | k, v :: r => (k, v) :: initTm (k + 1) r
def retOne (P : Program) (tm : Tm) (m : List (Ck C)) : ResultVar → Ans
 | .tmp t => match get tm t with
   | .junk => none
   | .cnd _ _ => none
   | v => some ([], v)
 | .cell a t => match get tm a with
   | .ptr c i f => loadSV P m t c i f
   | _ => none
def retAll (P : Program) (tm : Tm) (m : List (Ck C)) : List ResultVar → Option (List Prop × List SV)
 | [] => some ([], [])
 | x :: r => match retOne P tm m x, retAll P tm m r with
   | some (p, v), some (q, vs) => some (p ++ q, v :: vs)
   | _, _ => none
def retSV (P : Program) (fn : Func) (tm : Tm) (m : List (Ck C)) : Ans :=
 match fn.results.toList with
 | [x] => retOne P tm m x
 | l => (retAll P tm m l).map fun (p, vs) => (p, .tup vs)
def readRes (tmps : Array Value) : ResultVar → Sem Value
 | .tmp t => pure (tmps.getD t Go.undef)
 | .cell b t => do loadVar t (← asAddr (tmps.getD b Go.undef))
theorem retOne_ok {P : Program} {S : Sx} {w0 w : World} {n : Nat} {tm : Tm} {m : List (Ck C)} {a : Act} (h : ActOK (ads m) n tm a) (hm : MemOK S w0 w m) {x : ResultVar} {ps : List Prop} {r : SV}
 (hr : retOne P tm m x = some (ps, r)) (hp : allOf ps) :
 (readRes a.tmps x).run P w = .ok (r.va (ads m)) w := by
 cases x with
 | tmp t =>
   simp only [retOne] at hr
   have key : ∀ v, get tm t = v → v ≠ .junk → (a.tmps.getD t Go.undef) = v.va (ads m) := by
    intro v hv hj
    rcases h.tmps t with h1 | h1
    · exact absurd (hv.symm.trans h1) hj
    · simp [h1, hv]
   split at hr <;> try (first | contradiction | exact False.elim hr)
   rename_i h1 h2
   simp only [Option.some.injEq, Prod.mk.injEq] at hr
   obtain ⟨rfl, rfl⟩ := hr
   simp only [readRes, Sem.run_pure]
   rw [key _ rfl h1]
 | cell b t =>
   simp only [retOne] at hr
   split at hr <;> try (first | contradiction | exact False.elim hr)
   rename_i c i f hg
   have hl := loadSV_ok hm hr hp
   rcases h.tmps b with h1 | h1
   · rw [hg] at h1; cases h1
   · rw [hg] at h1
     simp [readRes, h1, SV.va, asAddr, hl]
theorem retSV_ok {P : Program} {S : Sx} {w0 w : World} {n : Nat} {tm : Tm} {m : List (Ck C)} {a : Act} (h : ActOK (ads m) n tm a) (hm : MemOK S w0 w m) {fn : Func} {ps : List Prop} {r : SV}
 (hr : retSV P fn tm m = some (ps, r)) (hp : allOf ps) : (results fn a.tmps).run P w = .ok (r.va (ads m)) w := by
 have hall : ∀ (l : List ResultVar) (ps : List Prop) (vs : List SV), retAll P tm m l = some (ps, vs) → allOf ps →
  (l.mapM (readRes a.tmps)).run P w = .ok (SV.vas (ads m) vs) w := by
  intro l
  induction l with
  | nil => intro ps vs hr _; simp [retAll] at hr; obtain ⟨rfl, rfl⟩ := hr; rfl
  | cons x l ih =>
    intro ps vs hr hp
    simp only [retAll] at hr
    split at hr <;> try (first | contradiction | exact False.elim hr)
    rename_i p v q vs' h1 h2
    simp only [Option.some.injEq, Prod.mk.injEq] at hr
    obtain ⟨rfl, rfl⟩ := hr
    have hpq := (allOf_append p q).1 hp
    have e1 := retOne_ok h hm h1 hpq.1
    have e2 := ih _ _ h2 hpq.2
    simp only [qi, Sem.run_bind, e1, Result.andThen_ok, e2, Sem.run_pure, SV.vas]
 have hres : results fn a.tmps = (do
  let vs ← fn.results.mapM (readRes a.tmps)
  pure (if h : vs.size = 1 then vs[0] else .tuple vs)) := by
  unfold results
  congr 1
 have hmap : ∀ vs, (fn.results.toList.mapM (readRes a.tmps)).run P w = .ok vs w →
  (fn.results.mapM (readRes a.tmps)).run P w = .ok vs.toArray w := by
  intro vs hvs
  rw [← Array.toArray_toList (xs := fn.results), List.mapM_toArray]
  simp only [Sem.run_map, hvs, Result.andThen_ok]
 rw [hres]
 unfold retSV at hr
 split at hr
 · rename_i x hx
   have e1 := retOne_ok h hm hr hp
   have := hmap [r.va (ads m)] (by rw [hx]; simp only [qi, List.mapM_nil, Sem.run_bind, e1, Result.andThen_ok, Sem.run_pure])
   simp only [Sem.run_bind, this, Result.andThen_ok, Sem.run_pure]
   simp
 · rename_i hne
   cases hra : retAll P tm m fn.results.toList with
   | none => simp [hra] at hr
   | some q =>
     obtain ⟨p, vs⟩ := q
     simp only [hra, yu, Option.some.injEq, Prod.mk.injEq] at hr
     obtain ⟨rfl, rfl⟩ := hr
     have := hmap _ (hall _ _ _ hra hp)
     have hlen : ∀ (l : List ResultVar) (ps : List Prop) (vs : List SV), retAll P tm m l = some (ps, vs) → vs.length = l.length := by
      intro l
      induction l with
      | nil => intro ps vs hr; simp [retAll] at hr; obtain ⟨rfl, rfl⟩ := hr; rfl
      | cons x l ih =>
        intro ps vs hr
        simp only [retAll] at hr
        split at hr <;> try (first | contradiction | exact False.elim hr)
        rename_i p v q vs' h1 h2
        simp only [Option.some.injEq, Prod.mk.injEq] at hr
        obtain ⟨rfl, rfl⟩ := hr
        simp [ih _ _ h2]
     have hl := hlen _ _ _ hra
     have h1 : vs.length ≠ 1 := by
      intro e
      rw [hl] at e
      obtain ⟨x, hx⟩ := List.length_eq_one_iff.1 e
      exact hne x hx
     simp only [Sem.run_bind, this, Result.andThen_ok, Sem.run_pure, SV.va]
     rw [dif_neg (by simp [SV.vas_eq, h1])]
def fexec {P : Program} (E : Env P C) (L : List (Inv' C)) (fn : Func) (c : Code) (args : List SV) (mem : List (Ck C)) (G : SV → List (Ck C) → Tr) : Tr :=
 fTm (initTm 0 args) fun tm0 => fM mem fun mem0 => sexec E L c tm0 mem0 fun e tm m => match e with
  | .exit _ => .no
  | _ => match retSV P fn tm m with
    | some (ps, r) => conj ps (fSV r fun r => fM m fun m => G r m)
    | none => .no
theorem get_init : ∀ (args : List SV) (k t : Nat), get (initTm k args) t = .junk ∨ (k ≤ t ∧ ∃ v, args[t - k]? = some v ∧ get (initTm k args) t = v)
 | [], _, _ => .inl rfl
 | v :: r, k, t => by
   simp only [initTm]
   rw [get_put]
   split
   · rename_i e; subst e; exact .inr ⟨zy _, v, by simp, rfl⟩
   · rename_i e
     rcases get_init r (k + 1) t with h | ⟨h1, u, h2, h3⟩
     · exact .inl h
     · exact .inr ⟨by omega, u, by rw [show t - k = (t - (k + 1)) + 1 by omega]; simpa using h2, h3⟩
def noCnds : List SV → Bool
 | [] => true
 | v :: r => notCnd v && noCnds r
theorem noCnds_ok : ∀ {l : List SV}, noCnds l = true → ∀ v ∈ l, notCnd v = true
 | [], _, v, h => by cases h
 | x :: r, h, v, hv => by
   simp only [noCnds, zx] at h
   rcases List.mem_cons.1 hv with rfl | hv
   · exact h.1
   · exact noCnds_ok h.2 v hv
theorem fexec_ok {P : Program} (hmix : P.follows .mixedOrders = true) {E : Env P C} {L : List (Inv' C)} {f : FuncId} {fn : Func} {c : Code} {args : List SV} {mem : List (Ck C)} {G : SV → List (Ck C) → Tr}
 (hf : P.funcs[f]? = some fn) (hb : fn.body = some c) (hn : fn.ntmps = E.n) (hlen : si args.length E.n = true) (hnc : noCnds args = true) (h : fexec E L fn c args mem G) (w : World) (hm : MemOK (wrS mem) w w mem) :
 Calls P f (SV.vas (ads mem) args).toArray w fun e w' => ∃ r m', e = .returned (r.va (ads m')) ∧ MemOK (wrS mem) w w' m' ∧ G r m' := by
 have hlen : args.length ≤ E.n := Nat.le_of_ble_eq_true hlen
 refine calls_of_wp hf hb ?_
 have hsz : (SV.vas (ads mem) args).toArray.size = args.length := by simp [SV.vas_eq]
 have hact : ActOK (ads mem) E.n (initTm 0 args) { tmps := (SV.vas (ads mem) args).toArray ++ xw (fn.ntmps - (SV.vas (ads mem) args).toArray.size) Go.undef, defers := [] } := by
  refine ⟨rfl, by simp [hn, SV.vas_eq]; omega, fun t => ?_, ?_⟩
  · rcases get_init args 0 t with h1 | ⟨_, v, h2, h3⟩
    · exact .inl h1
    · right
      simp only [uw] at h2
      have hlt : t < args.length := (List.getElem?_eq_some_iff.1 h2).1
      rw [h3, Array.getElem?_append_left (by rw [hsz]; exact hlt)]
      simp [SV.vas_eq, h2]
  · intro t cs v hg
    exfalso
    rcases get_init args 0 t with h1 | ⟨_, u, h2, h3⟩
    · rw [h1] at hg; cases hg
    · rw [h3] at hg
      exact notCnd_ok (noCnds_ok hnc u (List.mem_of_getElem? h2)) cs v hg
 unfold fexec at h
 simp only [fTm_eq, fM_eq, fSV_eq] at h
 refine sexec_ok hmix (w0 := w) (S := wrS mem) h hact hm fun e tm m a w' hk ha hm' => ?_
 have fin : (match retSV P fn tm m with | some (ps, r) => conj ps (G r m) | none => .no : Tr).holds → a.defers = [] ∧ ∃ v, (results fn a.tmps).run P w' = .ok v w' ∧ ∃ r m', Ending.returned v = .returned (r.va (ads m')) ∧ MemOK (wrS mem) w w' m' ∧ G r m' := by
  intro hk
  split at hk <;> try (first | contradiction | exact False.elim hk)
  rename_i ps r hr
  obtain ⟨hp, hG⟩ := (conj_iff _ _).1 hk
  exact ⟨ha.defers, _, retSV_ok ha hm' hr hp, r, m, rfl, hm', hG⟩
 cases e with
 | nor => exact fin hk
 | exit i => exact False.elim hk
 | ret => exact fin hk
def idNames : Nat → List (Ck C) → List (Nat × Nat)
 | _, [] => []
 | k, _ :: r => (k, k) :: idNames (k + 1) r
def placeEq : List (Ck C) → List (Ck C) → Option (List Prop)
 | [], out => if extB [] out then some [] else none
 | a :: s, o :: out => if zo o.sz a.sz && beqB o.wr a.wr then (placeEq s out).map fun ps => onEq o.gl a.gl ++ (o.block = a.block) :: (o.base = a.base) :: ps else none
 | _ :: _, [] => none
def finR (mem : List (Ck C)) (r : SV) (m : List (Ck C)) (res : SV) (out : List (Ck C)) (ρ : List Nat) : Tr :=
 match memLt m.length m && SV.lt m.length r && memLt out.length out && SV.lt out.length res with
 | false => .no
 | true => withOffs m ρ out fun ρ M => match apartB ρ out with
   | false => .no
   | true => match cksEq m.length ρ M ρ out, eqv m.length r (res.ren ρ), placeEq mem out with
     | some ps, some qs, some rs => allLf (ps ++ qs ++ rs)
     | _, _, _ => .no
def deads : List (Ck C) → List (Ck C)
 | [] => []
 | ⟨b, ba, sz, w, g, _⟩ :: r => ⟨b, ba, sz, w, g, .dead⟩ :: deads r
def someDead : List (Ck C) → List (Ck C) → Bool
 | _ :: s, o :: out => !o.alive || someDead s out
 | _, _ => false
def idNamesD (n : Nat) : Nat → List (Ck C) → List (Ck C) → List (Nat × Nat)
 | k, _ :: s, o :: out => (match o.alive with
   | true => (k, k)
   | false => (k, n + k)) :: idNamesD n (k + 1) s out
 | _, _, _ => []
def finP (mem : List (Ck C)) (r : SV) (m : List (Ck C)) (res : SV) (out : List (Ck C)) : Tr :=
 match memLt m.length m && SV.lt m.length r with
 | false => .no
 | true => match someDead mem out with
 | false => fP (idNames 0 mem ++ unif res r) fun acc => unifMemK m 0 out acc fun A => fNames (namesOf A 0 out) fun ρ => finR mem r m res out ρ
 | true => fM (m ++ deads mem) fun M => fP (idNamesD m.length 0 mem out ++ unif res r) fun acc => unifMemK M 0 out acc fun A => fNames (namesOf A 0 out) fun ρ => finR mem r M res out ρ
theorem placeEq_ok : ∀ {mem out : List (Ck C)} {ps : List Prop}, placeEq mem out = some ps → allOf ps → Ext mem out
 | [], out, ps, h, _ => by
   simp only [placeEq] at h
   split at h <;> try (first | contradiction | exact False.elim h)
   rename_i he
   refine ⟨by simp, fun k hk => by simp at hk, fun k _ hk hl => ?_⟩
   have := List.all_eq_true.1 he _ (nth_mem hk)
   simpa [hl] using this
 | a :: s, [], ps, h, _ => by simp [placeEq] at h
 | a :: s, o :: out, ps, h, hp => by
   simp only [placeEq] at h
   split at h <;> try (first | contradiction | exact False.elim h)
   rename_i hc
   simp only [zx] at hc
   cases hs : placeEq s out with
   | none => simp [hs] at h
   | some qs =>
     simp only [hs, yu, Option.some.injEq] at h; subst h
     obtain ⟨h0, h1, h2, h3⟩ := (allOf_append _ _).1 hp
     have ih := placeEq_ok hs h3
     refine ⟨by simpa using ih.len, fun k hk => ?_, fun k hk hk' hl => ?_⟩
     · cases k with
       | zero =>
         refine ⟨h1, h2, zr hc.1, ?_, onEq_ok h0⟩
         have := hc.2
         show o.wr = a.wr
         revert this
         cases o.wr <;> cases a.wr <;> simp [beqB]
       | succ k => exact ih.same k (by simpa using hk)
     · cases k with
       | zero => simp at hk
       | succ k => exact ih.new k (by simpa using hk) (by simpa using hk') hl
theorem finR_ok {S : Sx} {w0 w : World} {mem m out : List (Ck C)} {r res : SV} {ρ0 : List Nat} (h0 : finR mem r m res out ρ0) (hm : MemOK S w0 w m) : MemOK S w0 w out ∧ r.va (ads m) = res.va (ads out) ∧ Ext mem out ∧ SV.lt m.length r = true := by
 have h := h0
 unfold finR at h
 split at h <;> try (first | contradiction | exact False.elim h)
 rename_i hc
 simp only [zx] at hc
 obtain ⟨⟨⟨c0, c0'⟩, c1⟩, c2⟩ := hc
 obtain ⟨ρ', o, h, ho, hlM, _⟩ := withOffs_ok h c0
 clear h0
 revert h
 generalize ρ' = ρ
 intro h
 obtain ⟨M, hMe⟩ : ∃ M, M = m ++ o := ⟨_, rfl⟩
 have hmM := hm.withO c0 ho
 obtain ⟨hadsP, hN⟩ := ads_offs (m := m) (o := o) (fun x hx => (ho x hx).1)
 rw [← hMe] at h hlM hmM hadsP hN
 split at h <;> try (first | contradiction | exact False.elim h)
 rename_i c3
 split at h <;> try (first | contradiction | exact False.elim h)
 rename_i ps qs rs hps hqs hrs
 obtain ⟨hpq, hrs'⟩ := (allOf_append _ _).1 (allLf_ok h)
 obtain ⟨hps', hqs'⟩ := (allOf_append _ _).1 hpq
 obtain ⟨hlen, hk⟩ := cksEq_ok hps hps'
 have hk' : ∀ k, k < out.length → rn ρ k < M.length ∧ CkEq m.length ρ (nth out k) (nth M (rn ρ k)) := fun k hkl => by
  obtain ⟨h1, qs, h2, h3⟩ := hk k hkl
  exact ⟨h1, ckEq_ok h2 h3⟩
 obtain ⟨hm', hads⟩ := hmM.sub hN c1 hk' (apartB_ok c3 hlen)
 exact ⟨hm', by rw [SV.va_congr hadsP _ c0', eqv_ok hN _ _ qs hqs hqs', SV.va_ren hads _ c2], placeEq_ok hrs hrs', c0'⟩
theorem MemOK.dead1 {S : Sx} {w0 w : World} {m : List (Ck C)} (h : MemOK S w0 w m) (hl : memLt m.length m = true) {x : Ck C} (hx : x.cells = .dead) (hS : x.wr = true → x.on = true → x.block < w0.heap.size → S.set x.block) (hb : x.on = true → x.block < w.heap.size) : MemOK S w0 w (m ++ [x]) := by
 have hm : ∀ y, y ∈ m ++ [x] → y ∈ m ∨ y = x := by intro y hy; simpa using hy
 have no : ∀ {p : Prop}, x.live = true → p := fun h => by simp [Ck.live, Ck.alive, hx] at h
 refine ⟨h.os, h.tape, h.output, h.size, h.keep, ?_, ?_, ?_, ?_, ?_, ?_⟩
 · intro y hy hw ho hb0
   rcases hm y hy with hy | rfl
   · exact h.inS y hy hw ho hb0
   · exact hS hw ho hb0
 · intro y hy ho
   rcases hm y hy with hy | rfl
   · exact Ck.ok_ads (ads_append m _) (memLt_mem hl hy) (h.ok y hy ho)
   · unfold Ck.ok; rw [hx]; trivial
 · intro y hy hw hlv a ha
   rcases hm y hy with hy | rfl
   · exact h.wrok y hy hw hlv a ha
   · exact no hlv
 · intro i j hi hj hij hiw hil hjl
   simp only [zw, List.length_singleton] at hi hj
   rw [nth_append] at hiw hil ⊢
   rw [nth_append] at hjl ⊢
   by_cases h1 : i < m.length
   · by_cases h2 : j < m.length
     · rw [if_pos h1] at hiw hil ⊢
       rw [if_pos h2] at hjl ⊢
       exact h.apart i j h1 h2 hij hiw hil hjl
     · rw [if_neg h2, if_pos (by omega)] at hjl
       exact no hjl
   · rw [if_neg h1, if_pos (by omega)] at hil
     exact no hil
 · intro y hy ho
   rcases hm y hy with hy | rfl
   · exact h.lt y hy ho
   · exact hb ho
 · refine h.more.mono h.inS (fun _ _ _ => rfl) (fun y hy hyl => ?_) h.size (zy _) (fun y hy => ?_)
   · rcases hm y hy with hy | rfl
     · exact .inl ⟨y, hy, hyl, rfl, id⟩
     · exact no hyl
   · rcases hm y hy with hy | rfl
     · exact CsIn.self hy
     · rw [hx]; exact CsIn.other (fun _ _ e => by cases e) (fun _ _ _ _ e => by cases e)
theorem MemOK.withD {S : Sx} {w0 w : World} : ∀ {mem m : List (Ck C)}, MemOK S w0 w m → memLt m.length m = true → (∀ a ∈ mem, (a.wr = true → a.on = true → a.block < w0.heap.size → S.set a.block) ∧ (a.on = true → a.block < w.heap.size)) →
 MemOK S w0 w (m ++ deads mem) ∧ memLt (m ++ deads mem).length (m ++ deads mem) = true
 | [], m, h, hl, _ => by simpa [deads] using ⟨h, hl⟩
 | ⟨b, ba, sz, wr, g, cs⟩ :: r, m, h, hl, hS => by
   obtain ⟨h1, h2⟩ := hS _ (xj ..)
   have hm := h.dead1 hl (x := ⟨b, ba, sz, wr, g, .dead⟩) rfl h1 h2
   have hl' : memLt (m ++ [(⟨b, ba, sz, wr, g, .dead⟩ : Ck C)]).length (m ++ [⟨b, ba, sz, wr, g, .dead⟩]) = true := memLt_app (memLt_mono (by simp) hl) (by simp [memLt, Ck.lt])
   have := MemOK.withD hm hl' (fun a ha => hS a (zg _ ha))
   simpa [deads] using this
theorem finP_ok {w w' : World} {mem m out : List (Ck C)} {r res : SV} (h : finP mem r m res out) (hm : MemOK (wrS mem) w w' m) (hmem : MemOK (wrS mem) w w mem) :
 MemOK (wrS mem) w w' out ∧ r.va (ads m) = res.va (ads out) ∧ Ext mem out := by
 unfold finP at h
 split at h
 · exact h.elim
 rename_i hc
 obtain ⟨hml, hrl⟩ := Bool.and_eq_true_iff.1 hc
 split at h
 · rw [fP_eq, unifMemK_eq, fNames_eq] at h
   obtain ⟨h1, h2, h3, _⟩ := finR_ok h hm
   exact ⟨h1, h2, h3⟩
 · rw [fM_eq, fP_eq, unifMemK_eq, fNames_eq] at h
   have hD := hm.withD (mem := mem) hml (fun a ha => ⟨fun hw ho _ => ⟨a, ha, hw, ho, rfl⟩, fun ho => Nat.lt_of_lt_of_le (hmem.lt a ha ho) hm.size⟩)
   obtain ⟨h1, h2, h3, _⟩ := finR_ok h hD.1
   refine ⟨h1, ?_, h3⟩
   rw [← h2]
   refine SV.va_congr (fun c hc => ?_) r hrl
   simp [ads, nth_app, hc]
theorem run_callFunc {P : Program} {f : FuncId} {fn : Func} {c : Code} (hf : P.funcs[f]? = some fn) (hb : fn.body = some c) (hname : (fn.name == "runtime.NumGoroutine") = false) (vals : Array Value) (w : World) :
 (callFunc f vals).run P w = .ok (.enter f vals) w := by
 have hname : ¬ fn.name = "runtime.NumGoroutine" := by simpa using hname
 simp [callFunc, hf, hname, hb]
theorem loc_fn {P : Program} (hmix : P.follows .mixedOrders = true) {E : Env P C} {L : List (Inv' C)} {f : FuncId} {fn : Func} {c : Code} {args : List SV} {mem : List (Ck C)} {alts : List (Alt C)}
 (hf : P.funcs[f]? = some fn) (hb : fn.body = some c) (hname : (fn.name == "runtime.NumGoroutine") = false) (hn : fn.ntmps = E.n) (hlen : si args.length E.n = true) (hnc : noCnds args = true)
 (h : fexec E L fn c args mem fun r m => .lf (Ends alts fun A y => (finP mem r m (A.res y) (A.out y)).holds)) :
 LocG P (.fn f) mem args fun r m' => Ends alts fun A y => r = A.res y ∧ m' = A.out y := by
 intro w hm
 refine ⟨f, _, run_callFunc hf hb hname _ w, (fexec_ok hmix hf hb hn hlen hnc h w hm).mono ?_⟩
 rintro e w' ⟨r, m', rfl, hm', A, hA, y, hy, hfin⟩
 obtain ⟨hm'', hv, hx⟩ := finP_ok hfin hm' hm
 exact ⟨A.res y, A.out y, by rw [hv], hm'', hx, A, hA, y, hy, rfl, rfl⟩
theorem loc_pc {P : Program} (hmix : P.follows .mixedOrders = true) {E : Env P C} {L : List (Inv' C)} {f : FuncId} {fn : Func} {c : Code} {args : List SV} {mem : List (Ck C)} {res : SV}
 (hf : P.funcs[f]? = some fn) (hb : fn.body = some c) (hname : (fn.name == "runtime.NumGoroutine") = false) (hn : fn.ntmps = E.n) (hlen : si args.length E.n = true) (hnc : noCnds args = true)
 (h : fexec E L fn c args mem fun r m => finP mem r m res mem) :
 LocG P (.fn f) mem args fun r m' => r = res ∧ m' = mem := by
 intro w hm
 refine ⟨f, _, run_callFunc hf hb hname _ w, (fexec_ok hmix hf hb hn hlen hnc h w hm).mono ?_⟩
 rintro e w' ⟨r, m', rfl, hm', hfin⟩
 obtain ⟨hm'', hv, hx⟩ := finP_ok hfin hm' hm
 exact ⟨res, mem, by rw [hv], hm'', hx, rfl, rfl⟩
end Go.Vx
namespace Go.Vx
open Go
variable {C : Nat → Codec}
end Go.Vx
namespace Go.Vx
open Go Go.RowKit
variable {C : Nat → Codec}
theorem memRo {w : World} {mem : List (Ck C)} (hnw : noWr mem = true) (hok : ∀ c ∈ mem, c.on = true → Ck.ok (ads mem) w c) (hlt : ∀ c ∈ mem, c.on = true → c.block < w.heap.size) (hmore : More (wrS mem) w w mem) : MemOK (wrS mem) w w mem where
 more := hmore
 os := rfl
 tape := ⟨rfl, zy _⟩
 output := rfl
 size := zy _
 keep _ _ _ := rfl
 inS c hc hw ho _ := ⟨c, hc, hw, ho, rfl⟩
 ok := hok
 wrok c hc hw := by rw [noWr_ok hnw c hc] at hw; cases hw
 apart i j hi _ _ hw := by rw [noWr_ok hnw _ (nth_mem hi)] at hw; cases hw
 lt := hlt
theorem Tells.calls {P : Program} {f : FuncId} {fn : Func} {c : Code} (hf : P.funcs[f]? = some fn) (hb : fn.body = some c) (hname : (fn.name == "runtime.NumGoroutine") = false) {mem : List (Ck C)} {args : List SV} {res : SV}
 (h : Tells P (.fn f) mem args res) (hnw : noWr mem = true) {w : World} (hm : MemOK (wrS mem) w w mem) :
 Calls P f (SV.vas (ads mem) args).toArray w fun e w' => e = .returned (res.va (ads mem)) ∧ Below w.heap.size w w' := by
 obtain ⟨f', vals, hr, hc⟩ := h w hm
 rw [show tgSem (.fn f) (SV.vas (ads mem) args).toArray = callFunc f (SV.vas (ads mem) args).toArray from rfl, run_callFunc hf hb hname] at hr
 simp only [Result.ok.injEq, Next.enter.injEq, and_true] at hr
 obtain ⟨rfl, rfl⟩ := hr
 refine hc.mono ?_
 rintro e w' ⟨r, m', rfl, hm', _, rfl, rfl⟩
 refine ⟨rfl, hm'.os, hm'.tape.1, hm'.output, hm'.size, fun k hk => hm'.keep k hk ?_⟩
 rintro ⟨c, hc, hw, _⟩
 rw [noWr_ok hnw c hc] at hw; cases hw
end Go.Vx
namespace Go.Vx
def seg {α : Type} (l : List α) (i j : Nat) : List α := (l.drop i).take (j - i)
section
variable {α : Type}
theorem seg_len {l : List α} {i j : Nat} (h : i ≤ j) (hj : j ≤ l.length) : (seg l i j).length = j - i := by
 unfold seg; rw [zp, zj]; omega
theorem seg_mid {X U Y : List α} {i j : Nat} (hi : X.length = i) (hj : i + U.length = j) : seg (X ++ U ++ Y) i j = U := by
 subst hi hj
 unfold seg
 rw [zm, qk, Nat.add_sub_cancel_left, rg]
theorem seg_cut {l : List α} {i j : Nat} (h : i ≤ j) : l = l.take i ++ seg l i j ++ l.drop j := by
 unfold seg
 have h1 : (l.drop i).take (j - i) ++ (l.drop i).drop (j - i) = l.drop i := zc _ _
 rw [wz, show i + (j - i) = j by omega] at h1
 rw [zm, h1, zc]
theorem seg_get {l : List α} {i j k : Nat} {d : α} (hk : i + k < j) : (seg l i j).getD k d = l.getD (i + k) d := by
 unfold seg
 simp only [zz]
 rw [xy (by omega), xp]
theorem getD_app_mid {A B : List α} {x d : α} {k : Nat} (h : k = A.length) : (A ++ x :: B).getD k d = x := by
 subst h
 simp [yd]
theorem set_mid {A B : List α} {x y : α} {k : Nat} (h : k = A.length) : (A ++ x :: B).set k y = A ++ y :: B := by
 subst h
 rw [List.set_append_right _ _ (zy _), sw]; rfl
theorem getD_mem' {l : List α} {i : Nat} {d : α} (h : i < l.length) : l.getD i d ∈ l := by
 rw [zz, zv h]; exact List.getElem_mem h
def swp (d : α) (l : List α) (i j : Nat) : List α := (l.set i (l.getD j d)).set j (l.getD i d)
theorem swp_mid {A B C : List α} {x y d : α} {i j : Nat} (hi : i = A.length) (hj : j = A.length + 1 + B.length) : swp d (A ++ x :: (B ++ y :: C)) i j = A ++ y :: (B ++ x :: C) := by
 unfold swp
 have e1 : (A ++ x :: (B ++ y :: C)).getD i d = x := getD_app_mid hi
 have e0 : A ++ x :: (B ++ y :: C) = (A ++ x :: B) ++ y :: C := by simp
 have e2 : (A ++ x :: (B ++ y :: C)).getD j d = y := by rw [e0]; exact getD_app_mid (by simp; omega)
 rw [e1, e2, set_mid hi]
 rw [show A ++ y :: (B ++ y :: C) = (A ++ y :: B) ++ y :: C by simp, set_mid (by simp; omega)]
 simp
theorem swp_mid' {A B C : List α} {x y d : α} {i j : Nat} (hi : i = A.length) (hj : j = A.length + 1 + B.length) : swp d (A ++ x :: (B ++ y :: C)) j i = A ++ y :: (B ++ x :: C) := by
 unfold swp
 have e1 : (A ++ x :: (B ++ y :: C)).getD i d = x := getD_app_mid hi
 have e0 : A ++ x :: (B ++ y :: C) = (A ++ x :: B) ++ y :: C := by simp
 have e2 : (A ++ x :: (B ++ y :: C)).getD j d = y := by rw [e0]; exact getD_app_mid (by simp; omega)
 rw [e1, e2, e0, set_mid (by simp; omega)]
 rw [show A ++ x :: B ++ x :: C = A ++ x :: (B ++ x :: C) by simp, set_mid hi]
theorem take_snoc' {A : List α} {i : Nat} {d : α} (h : i < A.length) : A.take (i + 1) = A.take i ++ [A.getD i d] := by
 rw [tx]
 simp [yd, h]
theorem drop_cons' {A : List α} {i : Nat} {d : α} (h : i < A.length) : A.drop i = A.getD i d :: A.drop (i + 1) := by
 rw [List.drop_eq_getElem_cons h]
 simp [yd, h]
theorem mid_swap {X U M V Y : List α} {k : Nat} {d : α} (hk : k < U.length) (he : U.length = V.length) {i j : Nat} (hi : i = X.length + k) (hj : j = X.length + U.length + M.length + k) :
 swp d (X ++ V.take k ++ U.drop k ++ M ++ U.take k ++ V.drop k ++ Y) i j = X ++ V.take (k + 1) ++ U.drop (k + 1) ++ M ++ U.take (k + 1) ++ V.drop (k + 1) ++ Y := by
 have h1 := drop_cons' (A := U) (d := d) hk
 have h2 := drop_cons' (A := V) (i := k) (d := d) (by omega)
 have e : X ++ V.take k ++ U.drop k ++ M ++ U.take k ++ V.drop k ++ Y = (X ++ V.take k) ++ U.getD k d :: ((U.drop (k + 1) ++ M ++ U.take k) ++ V.getD k d :: (V.drop (k + 1) ++ Y)) := by
  rw [h1, h2]; simp
 rw [e, swp_mid (by rw [zw, zp]; omega) (by simp only [zw, zp, zj]; omega)]
 rw [take_snoc' (A := V) (d := d) (by omega), take_snoc' (A := U) (d := d) hk]
 simp
theorem seg_one {l : List α} {i : Nat} {d : α} (h : i < l.length) : seg l i (i + 1) = [l.getD i d] := by
 unfold seg
 rw [show i + 1 - i = 1 by omega, drop_cons' (d := d) h]; rfl
structure Wk (lt : α → α → Bool) : Prop where
 tr : ∀ {x y z}, lt y x = false → lt z y = false → lt z x = false
 asy : ∀ {x y}, lt x y = true → lt y x = false
def Srd (lt : α → α → Bool) (l : List α) : Prop := l.Pairwise fun x y => lt y x = false
variable {lt : α → α → Bool}
theorem Srd.nil : Srd lt [] := List.Pairwise.nil
theorem Srd.one {x : α} : Srd lt [x] := List.pairwise_singleton _ _
theorem srd_app {A B : List α} : Srd lt (A ++ B) ↔ Srd lt A ∧ Srd lt B ∧ ∀ x ∈ A, ∀ y ∈ B, lt y x = false := List.pairwise_append
theorem srd_at {A : List α} {d : α} (h : Srd lt A) {i j : Nat} (hij : i < j) (hj : j < A.length) : lt (A.getD j d) (A.getD i d) = false := by
 have := List.pairwise_iff_getElem.1 h i j (by omega) hj hij
 simpa only [zz, zv hj, zv (show i < A.length by omega), zb] using this
theorem Wk.rf (h : Wk lt) (x : α) : lt x x = false := by
 cases hx : lt x x with
 | false => rfl
 | true => rw [h.asy hx] at hx; cases hx
theorem srd_le (hW : Wk lt) {A : List α} {d : α} (h : Srd lt A) {i j : Nat} (hij : i ≤ j) (hj : j < A.length) : lt (A.getD j d) (A.getD i d) = false := by
 rcases xr i j with h1 | h1
 · exact srd_at h h1 hj
 · have : i = j := by omega
   subst this
   exact hW.rf _
theorem srd_ins (hW : Wk lt) {A B : List α} {v : α} (h : Srd lt (A ++ B)) (hB : ∀ x ∈ B, lt v x = true) (hA : A = [] ∨ ∃ A' u, A = A' ++ [u] ∧ lt v u = false) : Srd lt (A ++ v :: B) := by
 obtain ⟨h1, h2, h3⟩ := srd_app.1 h
 refine srd_app.2 ⟨h1, List.pairwise_cons.2 ⟨fun x hx => hW.asy (hB x hx), h2⟩, fun x hx y hy => ?_⟩
 rcases List.mem_cons.1 hy with rfl | hy
 · rcases hA with rfl | ⟨A', u, rfl, hu⟩
   · cases hx
   · rcases List.mem_append.1 hx with hx | hx
     · have := (srd_app.1 h1).2.2 x hx u (by simp)
       exact hW.tr this hu
     · rw [List.mem_singleton.1 hx]; exact hu
 · exact h3 x hx y hy
theorem srd_ins2 {A B : List α} {v : α} (h : Srd lt (A ++ B)) (hA : ∀ x ∈ A, lt v x = false) (hB : ∀ x ∈ B, lt x v = false) : Srd lt (A ++ v :: B) := by
 obtain ⟨h1, h2, h3⟩ := srd_app.1 h
 refine srd_app.2 ⟨h1, List.pairwise_cons.2 ⟨fun x hx => hB x hx, h2⟩, fun x hx y hy => ?_⟩
 rcases List.mem_cons.1 hy with rfl | hy
 · exact hA x hx
 · exact h3 x hx y hy
theorem sym_cross (hW : Wk lt) {U V : List α} {d : α} (hU : Srd lt U) (hV : Srd lt V) {s e : Nat} (hs : s ≤ U.length) (he : e ≤ V.length)
 (h1 : s = 0 ∨ e = V.length ∨ lt (V.getD e d) (U.getD (s - 1) d) = false) (h2 : s = U.length ∨ e = 0 ∨ lt (V.getD (e - 1) d) (U.getD s d) = true) :
 ∀ x ∈ U.take s ++ V.take e, ∀ y ∈ U.drop s ++ V.drop e, lt y x = false := by
 have hu := srd_app.1 (by rw [zc]; exact hU : Srd lt (U.take s ++ U.drop s))
 have hv := srd_app.1 (by rw [zc]; exact hV : Srd lt (V.take e ++ V.drop e))
 have inU : ∀ {x : α}, x ∈ U.take s → ∃ i, i < s ∧ i < U.length ∧ U.getD i d = x := fun {x} hx => by
  obtain ⟨i, hi, rfl⟩ := List.mem_take_iff_getElem.1 hx
  exact ⟨i, by omega, by omega, by rw [zz, zv (by omega), zb]⟩
 have inU' : ∀ {x : α}, x ∈ U.drop s → ∃ i, s ≤ i ∧ i < U.length ∧ U.getD i d = x := fun {x} hx => by
  obtain ⟨i, hi, rfl⟩ := List.mem_drop_iff_getElem.1 hx
  exact ⟨s + i, by omega, by omega, by rw [zz, zv (by omega), zb]⟩
 have inV : ∀ {x : α}, x ∈ V.take e → ∃ i, i < e ∧ i < V.length ∧ V.getD i d = x := fun {x} hx => by
  obtain ⟨i, hi, rfl⟩ := List.mem_take_iff_getElem.1 hx
  exact ⟨i, by omega, by omega, by rw [zz, zv (by omega), zb]⟩
 have inV' : ∀ {x : α}, x ∈ V.drop e → ∃ i, e ≤ i ∧ i < V.length ∧ V.getD i d = x := fun {x} hx => by
  obtain ⟨i, hi, rfl⟩ := List.mem_drop_iff_getElem.1 hx
  exact ⟨e + i, by omega, by omega, by rw [zz, zv (by omega), zb]⟩
 intro x hx y hy
 rcases List.mem_append.1 hx with hx | hx
 · rcases List.mem_append.1 hy with hy | hy
   · exact hu.2.2 x hx y hy
   · obtain ⟨i, i1, i2, rfl⟩ := inU hx
     obtain ⟨j, j1, j2, rfl⟩ := inV' hy
     have h0 : lt (V.getD e d) (U.getD (s - 1) d) = false := by rcases h1 with h | h | h <;> first | omega | exact h
     exact hW.tr (srd_le hW hU (i := i) (j := s - 1) (by omega) (by omega)) (hW.tr h0 (srd_le hW hV (i := e) (j := j) j1 j2))
 · rcases List.mem_append.1 hy with hy | hy
   · obtain ⟨i, i1, i2, rfl⟩ := inV hx
     obtain ⟨j, j1, j2, rfl⟩ := inU' hy
     have h0 : lt (V.getD (e - 1) d) (U.getD s d) = true := by rcases h2 with h | h | h <;> first | omega | exact h
     exact hW.tr (srd_le hW hV (i := i) (j := e - 1) (by omega) (by omega)) (hW.tr (hW.asy h0) (srd_le hW hU (i := s) (j := j) j1 j2))
   · exact hv.2.2 x hx y hy
theorem seg_keep {l W : List α} {a b i j : Nat} (hab : a ≤ b) (hb : b ≤ l.length) (hW : W.length = b - a) (hij : i ≤ j) (h : j ≤ a ∨ b ≤ i) : seg (l.take a ++ W ++ l.drop b) i j = seg l i j := by
 have h1 : (l.take a).length = a := by rw [zp]; omega
 have h2 : (l.take a ++ W).length = b := by rw [zw, h1, hW]; omega
 unfold seg
 rcases h with h | h
 · rw [zm, xe (by omega), yh (by rw [zj]; omega)]
   rw [uh, vm]
   congr 1
   omega
 · rw [qy, wd (by omega), xl, h2, wz]
   congr 2
   omega
theorem seg_new {l W : List α} {a b : Nat} (hab : a ≤ b) (hb : b ≤ l.length) (hW : W.length = b - a) : seg (l.take a ++ W ++ l.drop b) a b = W :=
 seg_mid (by rw [zp]; omega) (by omega)
theorem seg_take {l : List α} {n : Nat} : seg l 0 n = l.take n := by unfold seg; rw [xi, uw]
theorem seg_two {l : List α} {i j k : Nat} (h : i ≤ j) (h' : j ≤ k) : seg l i k = seg l i j ++ seg l j k := by
 unfold seg
 have e : k - i = (j - i) + (k - j) := by omega
 rw [e, vo, wz]
 congr 3
 omega
theorem seg_snoc {l : List α} {a i : Nat} {d : α} (h : a ≤ i) (hi : i < l.length) : seg l a (i + 1) = seg l a i ++ [l.getD i d] := by
 rw [seg_two h (Nat.le_succ i), seg_one (d := d) hi]
def Chs (lt : α → α → Bool) (s n : Nat) (l : List α) : Prop := ∀ k, k * s < n → Srd lt (seg l (k * s) (min ((k + 1) * s) n))
theorem Chs.all {s n : Nat} {l : List α} (h : Chs lt s n l) (hn : n ≤ s) : Srd lt (l.take n) := by
 rcases Nat.eq_zero_or_pos n with rfl | hp
 · rw [xv]; exact Srd.nil
 · have := h 0 (by omega)
   rw [Nat.zero_mul, Nat.zero_add, Nat.one_mul, Nat.min_eq_right hn, seg_take] at this
   exact this
theorem perm_new {l W : List α} {a b n : Nat} (hab : a ≤ b) (hb : b ≤ n) (hn : n ≤ l.length) (hW : W.Perm (seg l a b)) : ((l.take a ++ W ++ l.drop b).take n).Perm (l.take n) ∧ (l.take a ++ W ++ l.drop b).length = l.length ∧ (l.take a ++ W ++ l.drop b).drop n = l.drop n := by
 have hWl : W.length = b - a := by rw [hW.length_eq, seg_len hab (by omega)]
 have h1 : (l.take a).length = a := by rw [zp]; omega
 have h2 : (l.take a ++ W).length = b := by rw [zw, h1, hWl]; omega
 refine ⟨?_, by rw [zw, h2, zj]; omega, ?_⟩
 · rw [qq, zu (by omega), h2]
   have e : l.take n = l.take a ++ seg l a b ++ (l.drop b).take (n - b) := by
    have e1 := seg_cut (l := l) hab
    conv => lhs; rw [e1]
    have h3 : (l.take a ++ seg l a b).length = b := by rw [zw, h1, seg_len hab (by omega)]; omega
    rw [qq, zu (by omega), h3]
   rw [e]
   exact ((List.Perm.refl _).append hW).append (List.Perm.refl _)
 · rw [qy, wd (by omega), xl, h2, wz]
   congr 1
   omega
end
end Go.Vx
namespace Go.Vx
open Go
def getOps : Code → Nat → Option (Array Oper)
 | .region id ops _, n => match zo id n with
   | true => some ops
   | false => none
 | .seq a b, n => match getOps a n with
   | some o => some o
   | none => getOps b n
 | .cond _ a b, n => match getOps a n with
   | some o => some o
   | none => getOps b n
 | .block _ c, n => getOps c n
 | .loop c, n => getOps c n
 | _, _ => none
def opsOf (fn : Func) (n : Nat) : Option (Array Oper) := match fn.body with
 | some c => getOps c n
 | none => none
def tkI : Tk → Nat
 | .p i => i
 | .q i => i
 | .e i => i
 | .f i => i
 | .t _ => 0
def listedBy : List Tk → Array Bool → Array Bool
 | [], l => l
 | t :: r, l => listedBy r (l.setIfInBounds (tkI t) true)
def stepOKL (ops : Array Oper) (W L : List Nat) (late : Bool) : Tk → Array Bool → Bool
 | .p i, listed => (Region.ready .any ops listed).contains i && Region.free .any ops listed i && !kW W i &&
    reachP ops L late i listed (if late || L.isEmpty then xw ops.size true else reach ops i ops.size listed)
 | .q i, listed => (Region.ready .any ops listed).contains i && Region.free .any ops listed i && !kW W i && reachOK ops W i listed (reach ops i ops.size listed)
 | .e i, listed => (match Region.ready .any ops listed with
    | [j] => zo j i
    | _ => false) && kW W i
 | .f i, listed => (match Region.ready .any ops listed with
    | [j] => zo j i
    | _ => false) && kW W i && L.contains i
 | .t _, _ => false
def lateBy : Bool → List Tk → Bool
 | late, [] => late
 | _, .f _ :: r => lateBy true r
 | late, .p _ :: r => lateBy late r
 | late, .q _ :: r => lateBy late r
 | late, .e _ :: r => lateBy late r
 | late, .t _ :: r => lateBy late r
def stepsOKL (ops : Array Oper) (W L : List Nat) : Bool → List Tk → Array Bool → Bool
 | _, [], _ => true
 | late, t :: r, listed => stepOKL ops W L late t listed && stepsOKL ops W L (lateBy late [t]) r (listed.setIfInBounds (tkI t) true)
theorem plan_cutL {ops : Array Oper} {W L : List Nat} : ∀ (a b : List Tk) (late : Bool) (listed : Array Bool), stepsOKL ops W L late a listed = true → planOK ops W L (lateBy late a) (PTree.of b) (listedBy a listed) = true → planOK ops W L late (PTree.of (a ++ b)) listed = true
 | [], b, late, listed, _, h => h
 | t :: r, b, late, listed, hs, h => by
   simp only [stepsOKL, zx] at hs
   cases t with
   | p i =>
     have ih := plan_cutL r b _ _ hs.2 h
     have h1 := hs.1
     simp only [stepOKL, zx] at h1
     simp only [wg, PTree.of, planOK, zx]
     exact ⟨⟨⟨⟨h1.1.1.1, h1.1.1.2⟩, h1.1.2⟩, h1.2⟩, ih⟩
   | q i =>
     have ih := plan_cutL r b _ _ hs.2 h
     have h1 := hs.1
     simp only [stepOKL, zx] at h1
     simp only [wg, PTree.of, planOK, zx]
     exact ⟨⟨⟨⟨h1.1.1.1, h1.1.1.2⟩, h1.1.2⟩, h1.2⟩, ih⟩
   | e i =>
     have ih := plan_cutL r b _ _ hs.2 h
     have h1 := hs.1
     simp only [stepOKL, zx] at h1
     simp only [wg, PTree.of, planOK, zx]
     exact ⟨⟨h1.1, h1.2⟩, ih⟩
   | f i =>
     have ih := plan_cutL r b _ _ hs.2 h
     have h1 := hs.1
     simp only [stepOKL, zx] at h1
     simp only [wg, PTree.of, planOK, zx]
     exact ⟨⟨⟨h1.1.1, h1.1.2⟩, h1.2⟩, ih⟩
   | t i => simp [stepOKL] at hs
end Go.Vx
namespace Go.Vx
open Go Go.RowKit Go.ChangeShapes
def SentL (P : Program) (nm : String) (ti : TypeId) : List (String × DataW Unit) → List Nat → Prop
 | [], [] => True
 | x :: r, g :: s => (∃ text, x.2 = .iface nm (.ptr (.agg [.lit (.string text)]))) ∧ P.globalNamed x.1 = some g ∧ (P.globals[g]?).map (·.type) = some ti ∧ SentL P nm ti r s
 | _, _ => False
def SentAt (W : World) (tp : TypeId) : List Nat → List Addr → Prop
 | [], [] => True
 | g :: s, a :: t => W.cell? ⟨g, 0, none⟩ = some (.iface tp (.pointer (some a))) ∧ (∃ c ty, W.heap[a.block]? = some (.cells c ty (0, 0))) ∧ a ∉ t ∧ SentAt W tp s t
 | _, _ => False
theorem laid_all {P : Program} {W : World} {nm : String} {ti tp te ts : TypeId} {ms : Array (String × TypeId)} {f : Field}
 (hi : P.underlying ti = some (.interface ms)) (hrow : ∀ u, P.typeName? 3 u = some nm → u = tp) (hp : P.underlying tp = some (.pointer te)) (he : P.underlying te = some (.struct #[f]))
 (hft : f.type = ts) (hfo : f.offset = 0) (hs : P.underlying ts = some .string) (hc : P.cellsOf te = 1) (hcs : P.cellsOf ts = 1) :
 ∀ (L : List (String × DataW Unit)) (G : List Nat) (ps : List MemPlace), SentL P nm ti L G → DataW.LaidVars P W L ps → ps.Nodup →
   (∀ b off, MemPlace.cell b off ∈ ps → (∃ c t, W.heap[b]? = some (.cells c t (0, 0))) ∧ ∀ u v, W.cell? ⟨b, off, none⟩ = some (.iface u v) → Value.okWide P W .any 0 u v) →
   ∃ az, SentAt W tp G az ∧ ∀ a ∈ az, MemPlace.cell a.block a.off ∈ ps
 | [], [], ps, _, _, _, _ => ⟨[], trivial, fun a h => by cases h⟩
 | [], _ :: _, _, h, _, _, _ => h.elim
 | _ :: _, [], _, h, _, _, _ => h.elim
 | (n, d) :: r, g :: s, ps, hL, hv, hnd, hrows => by
   obtain ⟨⟨text, rfl⟩, hg, ht, hL⟩ := hL
   obtain ⟨g', t', cs, fu, p, q, hg', ht', hv0, hd, hq, rfl⟩ := hv
   obtain rfl := Option.some.inj (hg.symm.trans hg')
   obtain rfl := Option.some.inj (ht.symm.trans ht')
   obtain ⟨l⟩ := cs
   have ok0 : ∀ u v, l = [.iface u v] → Value.okWide P W .any 0 u v := fun u v e => by
    subst e
    exact (hrows g 0 (by simp [MemPlace.row])).2 u v (by simpa using World.var?_cell hg' hv0 0)
   obtain ⟨a, str, rfl, hca, hsa, hza, rfl⟩ := errorString_of_trod hi hrow hp he hft hfo hs hc hcs hd ok0
   have hsub : q.Sublist (MemPlace.row ⟨g, 0, none⟩ (#[Value.iface tp (.pointer (some a))]).size ++ MemPlace.row a 1 ++ q) := List.sublist_append_right _ _
   obtain ⟨az, h1, h2⟩ := laid_all hi hrow hp he hft hfo hs hc hcs r s q hL hq (hnd.sublist hsub) (fun b off hm => hrows b off (hsub.subset hm))
   refine ⟨a :: az, ⟨by simpa using World.var?_cell hg' hv0 0, (hrows a.block a.off (by simp [MemPlace.row])).1, fun hm => ?_, h1⟩, fun x hx => ?_⟩
   · have := h2 a hm
     have hd2 := (List.nodup_append.1 hnd).2.2 (.cell a.block a.off) (by simp [MemPlace.row]) _ this
     exact hd2 rfl
   · rcases List.mem_cons.1 hx with rfl | hx
     · simp [MemPlace.row]
     · exact hsub.subset (h2 x hx)
theorem SentAt.get {W : World} {tp : TypeId} : ∀ {G : List Nat} {az : List Addr}, SentAt W tp G az → ∀ i, i < G.length →
 W.cell? ⟨G.getD i 0, 0, none⟩ = some (.iface tp (.pointer (some (az.getD i default)))) ∧ ∃ c ty, W.heap[(az.getD i default).block]? = some (.cells c ty (0, 0))
 | [], _, _, i, h => by simp at h
 | g :: s, [], h, _, _ => h.elim
 | g :: s, a :: t, h, 0, _ => ⟨h.1, h.2.1⟩
 | g :: s, a :: t, h, i + 1, hi => by simpa using SentAt.get h.2.2.2 i (by simpa using hi)
theorem SentAt.apart {W : World} {tp : TypeId} : ∀ {G : List Nat} {az : List Addr}, SentAt W tp G az → az.length = G.length ∧ az.Nodup
 | [], [], _ => ⟨rfl, List.nodup_nil⟩
 | [], _ :: _, h => h.elim
 | _ :: _, [], h => h.elim
 | g :: s, a :: t, h => by
   obtain ⟨h1, h2⟩ := SentAt.apart h.2.2.2
   exact ⟨by simp [h1], List.nodup_cons.2 ⟨h.2.2.1, h2⟩⟩
theorem SentAt.one {W : World} {tp : TypeId} {G : List Nat} {az : List Addr} (h : SentAt W tp G az) {i j : Nat} (hi : i < G.length) (hj : j < G.length) (he : az.getD i default = az.getD j default) : i = j := by
 obtain ⟨h1, h2⟩ := h.apart
 have hi' : i < az.length := by omega
 have hj' : j < az.length := by omega
 rw [zz, zz, zv hi', zv hj'] at he
 exact (List.getElem_inj h2).1 he
end Go.Vx
namespace Go.Vx
open Go Go.ChangeShapes Go.WideShapes Go.Deep Go.RowKit
variable {C : Nat → Codec}
def cellV (c : Codec) (b : c.α) (f : Nat) : Value := (((c.enc b).getD f .junk)).va noAd
def IsRows (c : Codec) (w : World) (a : Option Addr) (len cap : Nat) (zs : List c.α) : Prop :=
 (a = none ∧ len = 0 ∧ cap = 0 ∧ zs = []) ∨
 ∃ x, a = some x ∧ x.spot = none ∧ x.block < w.heap.size ∧ len ≤ cap ∧ zs.length = cap ∧ ∀ i, i < cap → ∀ f, f < c.sz → w.cell? (x.add (i * c.sz + f)) = some (cellV c (zs.getD i c.dflt) f)
theorem rows_ok {ad : Nat → Ad} {w : World} {x : Addr} {t : Nat} {l : List (C t).α} {wr : Bool} {gl : Option Bool} (hx : x.spot = none) (hc : ∀ i, i < l.length → ∀ f, f < (C t).sz → w.cell? (x.add (i * (C t).sz + f)) = some (cellV (C t) (l.getD i (C t).dflt) f)) :
 Ck.ok ad w (⟨x.block, x.off, (C t).sz, wr, gl, .rows t l⟩ : Ck C) := by
 unfold Ck.ok
 refine ⟨rfl, fun i hi f hf => ?_⟩
 have e : (⟨x.block, x.off + (i * (C t).sz + f), none⟩ : Addr) = x.add (i * (C t).sz + f) := by
  unfold Addr.add
  split
  · rename_i h; rw [h]
    obtain ⟨b, o, s⟩ := x
    simp only at hx; subst hx; rfl
  · simp
 show w.cell? ⟨x.block, x.off + (i * (C t).sz + f), none⟩ = _
 rw [e, hc i hi f hf]
 have hl := (C t).len (l.getD i (C t).dflt)
 have e2 := congrArg (fun L => L[f]?) ((C t).flat (l.getD i (C t).dflt) noAd ad)
 simp only [zh, zv (show f < ((C t).enc (l.getD i (C t).dflt)).length by omega), yu, Option.some.injEq] at e2
 unfold cellV
 rw [zz (l := (C t).enc (l.getD i (C t).dflt)), zv (show f < ((C t).enc (l.getD i (C t).dflt)).length by omega)]
 exact congrArg some e2
theorem one_at {cs : List Value} {i : Nat} {v : Value} (h : (cs.drop i).take 1 = [v]) : cs[i]? = some v := by
 cases hd : cs.drop i with
 | nil => rw [hd] at h; simp at h
 | cons y r =>
   rw [hd] at h
   simp at h
   have := xp (xs := cs) (i := i) (j := 0)
   rw [hd] at this
   simpa [h] using this.symm
theorem part_at {cs : List Value} {i n j : Nat} {v : Value} (h : ((cs.drop i).take n)[j]? = some v) : cs[i + j]? = some v := by
 rw [List.getElem?_take] at h
 split at h
 · rw [xp] at h; exact h
 · cases h
end Go.Vx
namespace Go.Vx
open Go Go.ChangeShapes Go.WideShapes Go.Deep Go.RowKit
variable {C : Nat → Codec}
def Blocks (P : Program) (W : World) (base : Nat) : Prop := ∀ (k : Nat) (o : Obj), base ≤ k → W.heap[k]? = some o → ∃ cs t, o = .cells cs t ∧ Row.ok P W .any base t cs
theorem okWide_addr {P : Program} {w : World} {r : Reach} {base : Nat} {u : TypeId} {a : Addr} {len cap : Nat} (h : Cell.okWide P w r base u (.slice (some a) len cap)) : a.spot = none ∧ a.block < w.heap.size := by
 have h : Cell.ok P w r base u (.slice (some a) len cap) := by
  unfold Cell.okWide at h
  split at h <;> first | exact h | (rename_i h1; cases h1) | (rename_i _ h1; cases h1)
 unfold Cell.ok at h
 split at h <;> try contradiction
 all_goals rename_i h2
 · simp at h2
 simp only [Value.slice.injEq] at h2
 obtain ⟨h2, rfl, rfl⟩ := h2
 obtain rfl := Option.some.inj h2
 obtain ⟨_, _, _, h1, row, cells, h2, _⟩ := h
 refine ⟨h1, ?_⟩
 unfold World.shape? at h2
 cases hb : w.heap[a.block]? with
 | none => simp [hb] at h2
 | some o => exact (Array.getElem?_eq_some_iff.1 hb).1
theorem Blocks.at {P : Program} {W : World} {base : Nat} (h : Blocks P W base) {x a : Addr} {len cap : Nat} (hb : base ≤ x.block) (hc : W.cell? x = some (.slice (some a) len cap)) : a.spot = none ∧ a.block < W.heap.size := by
 unfold World.cell? at hc
 split at hc <;> try contradiction
 rename_i c ty fz ho
 obtain ⟨cs, t, he, ts, _, _, hall⟩ := h x.block _ hb ho
 cases he
 split at hc <;> try contradiction
 obtain ⟨u, _, hu⟩ := hall _ _ hc
 refine okWide_addr (P := P) (w := W) (r := .any) (base := base) (u := u) (len := len) (cap := cap) ?_
 unfold Cell.okWide
 split <;> first | exact hu | trivial | (rename_i h1; cases h1) | (rename_i _ h1; cases h1)
theorem arg_at {P : Program} {W : World} {r : Reach} {base : Nat} {t : TypeId} {fs : Array Field} {cs : Array Value} (ht : P.underlying t = some (.struct fs)) (h : Value.okWide P W r base t (.agg cs)) {i : Nat} {a : Addr} {len cap : Nat}
 (hc : cs[i]? = some (.slice (some a) len cap)) : a.spot = none ∧ a.block < W.heap.size := by
 unfold Value.okWide at h
 rw [ht] at h
 obtain ⟨cs', he, _, ts, _, _, hall⟩ := h
 cases he
 obtain ⟨u, _, hu⟩ := hall _ _ hc
 exact okWide_addr hu
theorem rows_open2 {P : Program} {H : Type} {enc : TypeId × Value → H} {W : World} {base : Nat} {a : Option Addr} {len cap : Nat} {fuel : Nat} {y : DataW H × List MemPlace} {ts te : TypeId} (c : Codec) (hu : P.underlying ts = some (.slice te)) (hsz : P.cellsOf te = c.sz)
 (hop : ∀ (fuel : Nat) (cs : List Value) (y : DataW H × List MemPlace), DataW.trod enc P W base (fun _ => true) true fuel te cs = some y → ∃ b : c.α, ∀ f, f < c.sz → cs[f]? = some (cellV c b f))
 (hv : ∀ x, a = some x → x.spot = none ∧ x.block < W.heap.size) (hf : DataW.trod enc P W base (fun _ => true) true fuel ts [.slice a len cap] = some y) : ∃ zs, IsRows c W a len cap zs := by
 rcases open_slice hu hf with ⟨hcs, _⟩ | ⟨x, l, c', m, n, D, Pl, hcs, _, hl, hm, hmc, _, hall⟩
 · simp at hcs
   obtain ⟨rfl, rfl, rfl⟩ := hcs
   exact ⟨[], .inl ⟨rfl, rfl, rfl, rfl⟩⟩
 · simp at hcs
   obtain ⟨rfl, rfl, rfl⟩ := hcs
   simp at hmc
   subst hmc
   obtain ⟨hs, hb⟩ := hv _ rfl
   have hex : ∀ i, i < m → ∃ b : c.α, ∀ f, f < c.sz → W.cell? (x.add (i * c.sz + f)) = some (cellV c b f) := fun i hi => by
    obtain ⟨cs', h1, h2⟩ := hall i hi
    rw [hsz] at h1
    obtain ⟨b, hb⟩ := hop _ _ _ h2
    obtain ⟨_, _, h3⟩ := World.cells?_some h1
    exact ⟨b, fun f hf => by rw [← add_add, h3 f hf, hb f hf]⟩
   haveI : Inhabited c.α := ⟨c.dflt⟩
   obtain ⟨g, hg⟩ := choose_lt hex
   refine ⟨(vh m).map g, .inr ⟨x, rfl, hs, hb, hl, by simp, fun i hi f hf => ?_⟩⟩
   rw [hg i hi f hf]
   congr 2
   simp [zz, hi]
structure RwIn (c : Codec) (W : World) (r : Rw c.α) : Prop where
 good : Rw.ok c W r
 lt : ∀ b ∈ r.blks, b < W.heap.size
 nil : r.on = false → r.l.length = 0 ∧ r.m = 0
 cap : r.l.length ≤ r.m
abbrev cNum (k : IntKind) : Codec where
 α := Int
 dflt := 0
 sz := 1
 enc n := [.int k n]
 upd _ f v := match f, v with
  | 0, .int k' n => if sameKind k k' then some n else none
  | _, _ => none
 len _ := rfl
 cell _ v h := by simp at h; subst h; rfl
 flat _ _ _ := rfl
 upd_ok ad x f v y h := by
  split at h <;> try contradiction
  split at h <;> try contradiction
  rename_i hk
  simp at h; subst h
  simp [SV.va, sameKind_eq hk]
 beq a b := decide (a = b)
abbrev Raw := Option Addr × Nat × Nat
abbrev cRaw : Codec where
 α := Raw
 dflt := (none, 0, 0)
 sz := 1
 enc x := [.val (.slice x.1 x.2.1 x.2.2)]
 upd _ _ _ := none
 len _ := rfl
 cell _ v h := by simp at h; subst h; rfl
 flat _ _ _ := rfl
 upd_ok _ _ _ _ _ h := by cases h
def IsPart (c : Codec) (w : World) (a : Option Addr) (len cap : Nat) (zs : List c.α) : Prop :=
 (a = none ∧ len = 0 ∧ cap = 0 ∧ zs = []) ∨
 ∃ x, a = some x ∧ x.spot = none ∧ x.block < w.heap.size ∧ len ≤ cap ∧ len ≤ zs.length ∧ ∀ i, i < zs.length → ∀ f, f < c.sz → w.cell? (x.add (i * c.sz + f)) = some (cellV c (zs.getD i c.dflt) f)
theorem IsRows.part {c : Codec} {w : World} {a : Option Addr} {len cap : Nat} {zs : List c.α} (h : IsRows c w a len cap zs) : IsPart c w a len cap zs := by
 rcases h with h | ⟨x, h1, h2, h3, h4, h5, h6⟩
 · exact .inl h
 · exact .inr ⟨x, h1, h2, h3, h4, by omega, fun i hi => h6 i (by omega)⟩
theorem IsRows.cap {c : Codec} {w : World} {a : Option Addr} {len cap : Nat} {zs : List c.α} (h : IsRows c w a len cap zs) : cap ≤ zs.length := by
 rcases h with ⟨_, _, rfl, _⟩ | ⟨x, h1, h2, h3, h4, h5, h6⟩
 · exact zn _
 · omega
theorem rws_open {P : Program} {H : Type} {enc : TypeId × Value → H} {W : World} {b0 base : Nat} {a : Option Addr} {len cap : Nat} {fuel : Nat} {y : DataW H × List MemPlace} {ts te tq : TypeId} {k : IntKind}
 (ht : P.underlying ts = some (.slice te)) (he : P.underlying te = some (.slice tq)) (hq : P.underlying tq = some (.int k)) (ce : P.cellsOf te = 1) (cq : P.cellsOf tq = 1)
 (hv : ∀ x, a = some x → x.spot = none ∧ x.block < W.heap.size) (hf : DataW.trod enc P W base (fun _ => true) true fuel ts [.slice a len cap] = some y) :
 ∃ R : List Raw, R.length = len ∧ IsPart cRaw W a len cap R ∧ ((∀ r ∈ R, 0 < r.2.1) → ∃ zs : List (Rw Int), zs.length = len ∧ (∀ i, i < len → (zs.getD i Rw.nil).l.length = (R.getD i (none, 0, 0)).2.1) ∧ IsPart (rwCodec (cNum k)) W a len cap zs ∧ ∀ r ∈ zs, RwIn (cNum k) W r ∧ ∀ n ∈ r.l, (Lit.int k n).wf = true) := by
 rcases open_int_rows ht he hq ce cq hf with ⟨hcs, _⟩ | ⟨x, l, c', A, L, Cp, Z, hcs, hb, hl, hm, _, hall⟩
 · simp at hcs
   obtain ⟨rfl, rfl, rfl⟩ := hcs
   exact ⟨[], rfl, .inl ⟨rfl, rfl, rfl, rfl⟩, fun _ => ⟨[], rfl, fun i hi => by omega, .inl ⟨rfl, rfl, rfl, rfl⟩, fun r hr => by cases hr⟩⟩
 · simp at hcs
   obtain ⟨rfl, rfl, rfl⟩ := hcs
   obtain ⟨hs, hlt⟩ := hv _ rfl
   refine ⟨(vh len).map fun r => (A r, L r, Cp r), by simp, .inr ⟨x, rfl, hs, hlt, hl, by simp, fun i hi f hf => ?_⟩, fun hpos => ?_⟩
   · obtain rfl : f = 0 := by
      have : f < 1 := hf
      omega
     have hi : i < len := by simpa using hi
     rw [show i * 1 + 0 = i by omega, (hall i (by omega)).1]
     unfold cellV
     simp [zz, hi, SV.va]
   let g : Nat → Rw Int := fun r => match A r with
    | none => Rw.nil
    | some a' => ⟨true, a'.block, a'.off, Cp r, (Z r).take (L r)⟩
   have hg : ∀ r, r < len → (g r).l.length = L r ∧ (W.cell? (x.add r) = some (g r).val) ∧ RwIn (cNum k) W (g r) ∧ ∀ n ∈ (g r).l, (Lit.int k n).wf = true := by
    intro r hr
    have hL : 0 < L r := hpos (A r, L r, Cp r) (List.mem_map.2 ⟨r, List.mem_range.2 hr, rfl⟩)
    obtain ⟨k1, k2, k3, k4, k5, k6, k7⟩ := hall r (by omega)
    cases hA : A r with
    | none =>
      have hC := k6 hA
      omega
    | some a' =>
      have e : g r = ⟨true, a'.block, a'.off, Cp r, (Z r).take (L r)⟩ := by simp [g, hA]
      rw [hA] at k1
      have h0 := (k7 a' hA).2 0 (by omega)
      have hsp : a'.spot = none ∧ a'.block < W.heap.size := by
       simp only [Addr.add, if_true] at h0
       unfold World.cell? at h0
       split at h0 <;> try contradiction
       rename_i ho
       split at h0 <;> try contradiction
       rename_i hs'
       exact ⟨by simpa using hs', (Array.getElem?_eq_some_iff.1 ho).1⟩
      obtain ⟨hsp, hlt'⟩ := hsp
      have hlen : ((Z r).take (L r)).length = L r := by rw [zp, k4]; omega
      have haddr : (⟨a'.block, a'.off, none⟩ : Addr) = a' := by
       obtain ⟨b, o, s⟩ := a'
       simp only at hsp; subst hsp; rfl
      rw [e]
      refine ⟨hlen, by rw [k1]; simp [Rw.val, hlen, haddr], ⟨?_, ?_, (fun h => by cases h), by rw [hlen]; exact k2⟩, fun n hn => k5 n (List.mem_of_mem_take hn)⟩
      · unfold Rw.ok
        simp only
        intro i hi f hf
        rw [hlen] at hi
        obtain rfl : f = 0 := by omega
        have := (k7 a' hA).2 i (by omega)
        have e2 : (⟨a'.block, a'.off + (i * 1 + 0), none⟩ : Addr) = a'.add i := by
         unfold Addr.add
         split
         · rename_i h; rw [h]; exact haddr
         · rw [Nat.mul_one, Nat.add_zero]
        rw [e2, this]
        show _ = some (Value.int k (((Z r).take (L r)).getD i 0))
        rw [zz (l := (Z r).take (L r)), xy hi, ← zz]
      · intro b hb'
        simp [Rw.blks] at hb'
        rw [hb']; exact hlt'
   refine ⟨(vh len).map g, by simp, fun i hi => ?_, .inr ⟨x, rfl, hs, hlt, hl, by simp, fun i hi f hf => ?_⟩, fun r hr => ?_⟩
   · simp only [zz, zh, List.getElem?_range hi, yu, zb]
     exact (hg i hi).1
   · obtain rfl : f = 0 := by
      have : f < 1 := hf
      omega
     have hi : i < len := by simpa using hi
     have := (hg i hi).2.1
     rw [show i * 1 + 0 = i by omega, this]
     unfold cellV
     simp [zz, hi, Rw.sv_va]
   · obtain ⟨i, hi, rfl⟩ := List.mem_map.1 hr
     exact (hg i (List.mem_range.1 hi)).2.2
theorem deep_ro {W : World} {mem : List (Ck C)} (hnw : noWr mem = true) (h : ∀ c ∈ mem, ∀ t x, c.cells.Has t x → (C t).good W x ∧ ∀ b ∈ (C t).blks x, b < W.heap.size) :
 ∀ c ∈ mem, ∀ t x, c.cells.Has t x → (C t).good W x ∧ ∀ b ∈ (C t).blks x, Blk (wrS mem) W W mem ((C t).own && c.wr) b := by
 intro c hc t x hx
 obtain ⟨h1, h2⟩ := h c hc t x hx
 refine ⟨h1, fun b hb => ⟨h2 b hb, fun _ => .inr ⟨by rw [noWr_ok hnw c hc, Bool.and_false], c, hc, t, x, hx, hb⟩, fun c' hc' hw => ?_, fun p hp => by cases hp⟩⟩
 rw [noWr_ok hnw c' hc'] at hw; cases hw
def inB (a : Option Addr) : Nat := match a with
 | none => 0
 | some x => x.block
def inQ (a : Option Addr) : Nat := match a with
 | none => 0
 | some x => x.off
abbrev inCk (t : Nat) (a : Option Addr) (l : List (C t).α) : Ck C := ⟨inB a, inQ a, (C t).sz, false, some a.isSome, .rows t l⟩
theorem IsPart.ok {W : World} {t : Nat} {a : Option Addr} {n c : Nat} {l : List (C t).α} (h : IsPart (C t) W a n c l) (ad : Nat → Ad) (ho : (inCk t a l : Ck C).on = true) : Ck.ok ad W (inCk t a l : Ck C) := by
 rcases h with ⟨rfl, _⟩ | ⟨x, rfl, hx, hb, hl, hz, hc⟩
 · cases ho
 · exact rows_ok hx hc
theorem IsPart.lt {W : World} {t : Nat} {a : Option Addr} {n c : Nat} {l : List (C t).α} (h : IsPart (C t) W a n c l) (ho : (inCk t a l : Ck C).on = true) : (inCk t a l : Ck C).block < W.heap.size := by
 rcases h with ⟨rfl, _⟩ | ⟨x, rfl, hx, hb, hl, hz, hc⟩
 · cases ho
 · exact hb
theorem IsPart.sq {c' : Codec} {W : World} {a : Option Addr} {n c : Nat} {l : List c'.α} (h : IsPart c' W a n c l) : n ≤ c ∧ n ≤ l.length ∧ (a.isSome = false → n = 0 ∧ c = 0) := by
 rcases h with ⟨rfl, rfl, rfl, rfl⟩ | ⟨x, rfl, hx, hb, hl, hz, hc⟩
 · exact ⟨zy _, zy _, fun _ => ⟨rfl, rfl⟩⟩
 · exact ⟨hl, hz, fun h => by cases h⟩
theorem IsPart.va {W : World} {t : Nat} {a : Option Addr} {n c : Nat} {l : List (C t).α} (h : IsPart (C t) W a n c l) {ad : Nat → Ad} {i : Nat} (hi : ad i = (inCk t a l : Ck C).ad) : SV.va ad (.sl i 0 n c) = .slice a n c := by
 rcases h with ⟨rfl, rfl, rfl, rfl⟩ | ⟨x, rfl, hx, hb, hl, hz, hc⟩
 · simp only [SV.va, hi]; rfl
 · simp only [SV.va, hi]
   obtain ⟨b, o, s⟩ := x
   simp only at hx; subst hx
   simp [Ck.ad, Ck.on, Ad.at, inB, inQ]
end Go.Vx
set_option maxRecDepth 100000
namespace Go.Vx
open Go Go.Proofs
theorem vlf {P : Prop} (h : P := by (first | first | (show Region.lexB _ _ = true; kernel_rfl) | (show planned _ _ = true; kernel_rfl) | exact rfl | exact True.intro | ((try dsimp only [imp, C0, cG, cInt, cPl, cSlot, cPg, rwCodec, gwCodec, cRaw] at *); (try refine inR64 ?_ ?_) <;> (try simp only [List.length_set, List.length_append, List.length_take, List.length_drop]) <;> omega))) : P := h
theorem vau {P : Prop} (h : P := by ((try dsimp only [imp, C0, cG, cInt, cPl, cSlot, cPg, rwCodec, gwCodec, cRaw] at *); (try simp only [decide_eq_true_eq, decide_eq_false_iff_not, Bool.and_eq_true, Bool.or_eq_true, Bool.or_eq_false_iff, Bool.and_eq_false_iff, Bool.not_eq_true', Bool.not_eq_false', SB.val, List.length_append, List.length_cons, List.length_nil, List.length_take, List.length_drop] at *); (first | omega | exact inR64 (by omega) (by omega) | (refine inR64 ?_ ?_ <;> omega)))) : P := h
theorem ty : Tr.yes.holds := trivial
theorem tl {p : Prop} (h : p) : (Tr.lf p).holds := h
theorem ta {a b : Tr} (h1 : a.holds) (h2 : b.holds) : (Tr.and a b).holds := ⟨h1, h2⟩
theorem ti {p : Prop} {a : Tr} (h : p → a.holds) : (Tr.imp p a).holds := h
theorem tf {α : Type} {f : α → Tr} (h : ∀ x, (f x).holds) : (Tr.all f).holds := h
theorem vgo {T : Tr} (h : T.holds := by (((conv => arg 1; reduce); with_reducible repeat' first | exact ty | refine ta ?_ ?_ | refine ti fun _ => ?_ | refine tf fun _ => ?_ | refine tl ?_); all_goals (first | first | (show Region.lexB _ _ = true; kernel_rfl) | (show planned _ _ = true; kernel_rfl) | exact rfl | exact True.intro | ((try dsimp only [imp, C0, cG, cInt, cPl, cSlot, cPg, rwCodec, gwCodec, cRaw] at *); (try refine inR64 ?_ ?_) <;> (try simp only [List.length_set, List.length_append, List.length_take, List.length_drop]) <;> omega)))) : T.holds := h
abbrev cInt (k : IntKind) : Codec where
 α := Int
 dflt := 0
 sz := 1
 enc n := [.int k n]
 upd _ f v := match f, v with
  | 0, .int k' n => if sameKind k k' then some n else none
  | _, _ => none
 len _ := rfl
 cell _ v h := by simp at h; subst h; rfl
 flat _ _ _ := rfl
 upd_ok ad x f v y h := by
  split at h <;> try contradiction
  split at h <;> try contradiction
  rename_i hk
  simp at h; subst h
  simp [SV.va, sameKind_eq hk]
 beq a b := decide (a = b)
abbrev Pl := Int × Int
abbrev cPl : Codec where
 α := Pl
 dflt := (0, 0)
 sz := 2
 enc x := [.int .i64 x.1, .int .i64 x.2]
 upd x f v := match f, v with
  | 0, .int .i64 n => some (n, x.2)
  | 1, .int .i64 n => some (x.1, n)
  | _, _ => none
 whole vs := match vs with
  | [.int .i64 a, .int .i64 b] => some (a, b)
  | _ => none
 whole_ok ad vs y h := by
  split at h <;> try contradiction
  simp only [Option.some.injEq] at h; subst h; rfl
 len _ := rfl
 cell _ v h := by simp at h; rcases h with rfl | rfl <;> rfl
 flat _ _ _ := rfl
 upd_ok ad x f v y h := by
  split at h <;> try contradiction
  all_goals simp at h; subst h; rfl
 agg := true
 beq a b := decide (a.1 = b.1) && decide (a.2 = b.2)
structure Me where
 kind : Int
 key : Int
 seq : Int
 stamp : Int
 batch : Int
 floor : Int
deriving DecidableEq
structure Slot where
 key : Int
 pl : Pl
 me : Me
deriving DecidableEq
structure Pg where
 pl : Pl
 cl : Int
 me : Me
deriving DecidableEq
abbrev me0 : Me := ⟨0, 0, 0, 0, 0, 0⟩
abbrev slot0 : Slot := ⟨0, (0, 0), me0⟩
abbrev meE (m : Me) : List SV := [.int .i64 m.kind, .int .i64 m.key, .int .i64 m.seq, .int .i64 m.stamp, .int .i64 m.batch, .int .i64 m.floor]
abbrev plE (p : Pl) : List SV := [.int .i64 p.1, .int .i64 p.2]
abbrev slotE (x : Slot) : List SV := [.int .i64 x.key, .int .i64 x.pl.1, .int .i64 x.pl.2, .int .i64 x.me.kind, .int .i64 x.me.key, .int .i64 x.me.seq, .int .i64 x.me.stamp, .int .i64 x.me.batch, .int .i64 x.me.floor]
abbrev cSlot : Codec where
 α := Slot
 dflt := slot0
 sz := 9
 enc x := slotE x
 upd x f v := none
 whole vs := match vs with
  | [.int .i64 k, .int .i64 a, .int .i64 b, .int .i64 m1, .int .i64 m2, .int .i64 m3, .int .i64 m4, .int .i64 m5, .int .i64 m6] => some ⟨k, (a, b), ⟨m1, m2, m3, m4, m5, m6⟩⟩
  | _ => none
 whole_ok ad vs y h := by
  split at h <;> try contradiction
  simp only [Option.some.injEq] at h; subst h; rfl
 len _ := rfl
 cell _ v h := by simp [slotE] at h; rcases h with rfl | rfl | rfl | rfl | rfl | rfl | rfl | rfl | rfl <;> rfl
 flat _ _ _ := rfl
 upd_ok ad x f v y h := by cases h
 agg := true
abbrev pgE (x : Pg) : List SV := [.int .i64 x.pl.1, .int .i64 x.pl.2, .int .i64 x.cl, .int .i64 x.me.kind, .int .i64 x.me.key, .int .i64 x.me.seq, .int .i64 x.me.stamp, .int .i64 x.me.batch, .int .i64 x.me.floor]
abbrev cPg : Codec where
 α := Pg
 dflt := ⟨(0, 0), 0, me0⟩
 sz := 9
 enc x := pgE x
 upd x f v := none
 whole vs := match vs with
  | [.int .i64 a, .int .i64 b, .int .i64 k, .int .i64 m1, .int .i64 m2, .int .i64 m3, .int .i64 m4, .int .i64 m5, .int .i64 m6] => some ⟨(a, b), k, ⟨m1, m2, m3, m4, m5, m6⟩⟩
  | _ => none
 whole_ok ad vs y h := by
  split at h <;> try contradiction
  simp only [Option.some.injEq] at h; subst h; rfl
 len _ := rfl
 cell _ v h := by simp [pgE] at h; rcases h with rfl | rfl | rfl | rfl | rfl | rfl | rfl | rfl | rfl <;> rfl
 flat _ _ _ := rfl
 upd_ok ad x f v y h := by cases h
 agg := true
abbrev cFn : Codec where
 α := Nat
 dflt := 0
 sz := 1
 enc n := match n with
  | 0 => [.nilf]
  | n + 1 => [.fn (.func (n + 1)) [] []]
 upd _ f v := match f, v with
  | 0, .fn (.func (n + 1)) [] [] => some (n + 1)
  | _, _ => none
 len n := by cases n <;> rfl
 cell n v h := by cases n <;> (simp at h; subst h; rfl)
 flat n _ _ := by cases n <;> rfl
 upd_ok ad x f v y h := by
  split at h <;> try contradiction
  simp at h; subst h
  cases x <;> simp [SV.va, SV.vas]
abbrev cBool : Codec where
 α := Bool
 dflt := false
 sz := 1
 enc b := [.bool (.tm b)]
 upd _ f v := match f, v with
  | 0, .bool s => some s.val
  | _, _ => none
 len _ := rfl
 cell _ v h := by simp at h; subst h; rfl
 flat _ _ _ := rfl
 upd_ok ad x f v y h := by
  split at h <;> try contradiction
  simp at h; subst h
  simp [SV.va, SB.val]
class Gl where
 A : Nat → Addr
 c : Nat → Array Value
 t : Nat → TypeId
 lv : Nat
def errV : Option Addr → Value
 | none => .nilIface
 | some a => .iface 195 (.pointer (some a))
abbrev cErr : Codec where
 α := Option Addr
 dflt := none
 sz := 1
 enc e := [.val (errV e)]
 upd _ f v := match f, v with
  | 0, .nili => some none
  | 0, .ifc 195 (.val (.pointer (some a))) => some (some a)
  | _, _ => none
 len _ := rfl
 cell e v h := by simp at h; subst h; cases e <;> rfl
 flat _ _ _ := rfl
 upd_ok ad x f v y h := by
  split at h <;> try contradiction
  all_goals
   simp at h; subst h
   simp [SV.va, errV]
abbrev glB [Gl] (g : Nat) : Bool := match xh g 5 with
 | true => true
 | false => xh g Gl.lv
abbrev glV [Gl] (g : Nat) : Option SV := match glB g with
 | true => some (.ifc 195 (.val (.pointer (some (Gl.A g)))))
 | false => none
abbrev glP [Gl] (g : Nat) : List (Nat × Obj) := match glB g with
 | true => [((Gl.A g).block, .cells (Gl.c g) (Gl.t g) (0, 0))]
 | false => []
theorem glV_flat [Gl] (g : Nat) : ∀ v, glV g = some v → ∀ ad ad', SV.va ad v = SV.va ad' v := by
 intro v h ad ad'
 unfold glV at h
 split at h
 · simp only [Option.some.injEq] at h; subst h; rfl
 · cases h
abbrev cG [Gl] (g : Nat) (c : Codec) : Codec := { c with gv := glV g, gpins := glP g, gflat := glV_flat g }
abbrev C0 [Gl] : Nat → Codec := fun t => match t with
 | 5 => cG 5 (cInt .u8)
 | 66 => cG 66 cPl
 | 87 => cG 87 cPl
 | 74 => cG 74 cSlot
 | 88 => cG 88 cSlot
 | 70 => cG 70 cPg
 | 63 => cG 63 (gwCodec cPg)
 | 71 => cG 71 (rwCodec (cInt .i64))
 | 26 => cG 26 (rwCodec (cInt .u8))
 | 1071 => cG 1071 cRaw
 | 127 => cG 127 cFn
 | 4 => cG 4 cBool
 | 30 => cG 30 cErr
 | t => cG t (cInt .i64)
theorem mix : Tryd.prog.follows .mixedOrders = true := by kernel_rfl
theorem inR64 {n : Int} (h1 : -9223372036854775808 ≤ n) (h2 : n ≤ 9223372036854775807) : inR .i64 n := by
 unfold inR IntKind.wrap
 simp [IntKind.bits, IntKind.signed]
 omega
section
variable [Gl]
def fI : Fam C0 where
 te := 71
 off := 0
 t := 3
 get x := x
 enc x := Rw.sv_va x noAd
 good w x h := h
 blk x b hb := hb
 flat := rfl
 hoff := rl
def fB : Fam C0 where
 te := 26
 off := 0
 t := 5
 get x := x
 enc x := Rw.sv_va x noAd
 good w x h := h
 blk x b hb := hb
 flat := rfl
 hoff := rl
def wB : FamW C0 where
 te := 26
 t := 5
 put x := x
 sz := rfl
 enc x := Rw.sv_va x noAd
 blks x := rfl
 good w x h := h
end
end Go.Vx
set_option maxRecDepth 1000000
namespace Go.Vx
open Go Go.Proofs
abbrev swrB : List Tk := [.p 0, .p 1, .p 2, .p 3, .p 4, .p 5, .p 6, .p 7, .p 8, .p 9, .p 10, .p 11, .p 12, .p 14, .p 15, .p 16, .p 17, .p 18, .q 13, .q 19, .p 20, .e 21, .p 22, .e 23]
noncomputable def swrB_ops : Array Oper := match opsOf Tryd.f111 3 with
 | some o => o
 | none => #[]
def swrB_w : List Nat := [21, 23]
def swrB_f : List Nat := []
def swrB_l0 : Array Bool := #[false, false, false, false, false, false, false, false, false, false, false, false, false, false, false, false, false, false, false, false, false, false, false, false]
theorem swrB_s0 : stepsOKL swrB_ops swrB_w swrB_f false [.p 0, .p 1, .p 2, .p 3] swrB_l0 = true := by kernel_rfl
def swrB_l1 : Array Bool := #[true, true, true, true, false, false, false, false, false, false, false, false, false, false, false, false, false, false, false, false, false, false, false, false]
theorem swrB_a0 : listedBy [.p 0, .p 1, .p 2, .p 3] swrB_l0 = swrB_l1 := by kernel_rfl
theorem swrB_s1 : stepsOKL swrB_ops swrB_w swrB_f false [.p 4, .p 5, .p 6, .p 7] swrB_l1 = true := by kernel_rfl
def swrB_l2 : Array Bool := #[true, true, true, true, true, true, true, true, false, false, false, false, false, false, false, false, false, false, false, false, false, false, false, false]
theorem swrB_a1 : listedBy [.p 4, .p 5, .p 6, .p 7] swrB_l1 = swrB_l2 := by kernel_rfl
theorem swrB_s2 : stepsOKL swrB_ops swrB_w swrB_f false [.p 8, .p 9, .p 10, .p 11] swrB_l2 = true := by kernel_rfl
def swrB_l3 : Array Bool := #[true, true, true, true, true, true, true, true, true, true, true, true, false, false, false, false, false, false, false, false, false, false, false, false]
theorem swrB_a2 : listedBy [.p 8, .p 9, .p 10, .p 11] swrB_l2 = swrB_l3 := by kernel_rfl
theorem swrB_s3 : stepsOKL swrB_ops swrB_w swrB_f false [.p 12, .p 14, .p 15, .p 16] swrB_l3 = true := by kernel_rfl
def swrB_l4 : Array Bool := #[true, true, true, true, true, true, true, true, true, true, true, true, true, false, true, true, true, false, false, false, false, false, false, false]
theorem swrB_a3 : listedBy [.p 12, .p 14, .p 15, .p 16] swrB_l3 = swrB_l4 := by kernel_rfl
theorem swrB_s4 : stepsOKL swrB_ops swrB_w swrB_f false [.p 17, .p 18, .q 13, .q 19] swrB_l4 = true := by kernel_rfl
def swrB_l5 : Array Bool := #[true, true, true, true, true, true, true, true, true, true, true, true, true, true, true, true, true, true, true, true, false, false, false, false]
theorem swrB_a4 : listedBy [.p 17, .p 18, .q 13, .q 19] swrB_l4 = swrB_l5 := by kernel_rfl
theorem swrB_s5 : stepsOKL swrB_ops swrB_w swrB_f false [.p 20, .e 21, .p 22, .e 23] swrB_l5 = true := by kernel_rfl
def swrB_l6 : Array Bool := #[true, true, true, true, true, true, true, true, true, true, true, true, true, true, true, true, true, true, true, true, true, true, true, true]
theorem swrB_a5 : listedBy [.p 20, .e 21, .p 22, .e 23] swrB_l5 = swrB_l6 := by kernel_rfl
theorem swrB_k6 : planOK swrB_ops swrB_w swrB_f false (PTree.of []) swrB_l6 = true := by kernel_rfl
theorem swrB_k5 : planOK swrB_ops swrB_w swrB_f false (PTree.of [.p 20, .e 21, .p 22, .e 23]) swrB_l5 = true := plan_cutL [.p 20, .e 21, .p 22, .e 23] _ _ _ swrB_s5 (by rw [swrB_a5]; exact swrB_k6)
theorem swrB_k4 : planOK swrB_ops swrB_w swrB_f false (PTree.of [.p 17, .p 18, .q 13, .q 19, .p 20, .e 21, .p 22, .e 23]) swrB_l4 = true := plan_cutL [.p 17, .p 18, .q 13, .q 19] _ _ _ swrB_s4 (by rw [swrB_a4]; exact swrB_k5)
theorem swrB_k3 : planOK swrB_ops swrB_w swrB_f false (PTree.of [.p 12, .p 14, .p 15, .p 16, .p 17, .p 18, .q 13, .q 19, .p 20, .e 21, .p 22, .e 23]) swrB_l3 = true := plan_cutL [.p 12, .p 14, .p 15, .p 16] _ _ _ swrB_s3 (by rw [swrB_a3]; exact swrB_k4)
theorem swrB_k2 : planOK swrB_ops swrB_w swrB_f false (PTree.of [.p 8, .p 9, .p 10, .p 11, .p 12, .p 14, .p 15, .p 16, .p 17, .p 18, .q 13, .q 19, .p 20, .e 21, .p 22, .e 23]) swrB_l2 = true := plan_cutL [.p 8, .p 9, .p 10, .p 11] _ _ _ swrB_s2 (by rw [swrB_a2]; exact swrB_k3)
theorem swrB_k1 : planOK swrB_ops swrB_w swrB_f false (PTree.of [.p 4, .p 5, .p 6, .p 7, .p 8, .p 9, .p 10, .p 11, .p 12, .p 14, .p 15, .p 16, .p 17, .p 18, .q 13, .q 19, .p 20, .e 21, .p 22, .e 23]) swrB_l1 = true := plan_cutL [.p 4, .p 5, .p 6, .p 7] _ _ _ swrB_s1 (by rw [swrB_a1]; exact swrB_k2)
theorem swrB_k0 : planOK swrB_ops swrB_w swrB_f false (PTree.of [.p 0, .p 1, .p 2, .p 3, .p 4, .p 5, .p 6, .p 7, .p 8, .p 9, .p 10, .p 11, .p 12, .p 14, .p 15, .p 16, .p 17, .p 18, .q 13, .q 19, .p 20, .e 21, .p 22, .e 23]) swrB_l0 = true := plan_cutL [.p 0, .p 1, .p 2, .p 3] _ _ _ swrB_s0 (by rw [swrB_a0]; exact swrB_k1)
theorem swrB_ok (ops : Array Oper) (h : opsOf Tryd.f111 3 = some ops) : planned ops (PTree.of swrB) = true := by
 have e : ops = swrB_ops := by unfold swrB_ops; rw [h]
 subst e
 unfold planned
 rw [show effs (PTree.of swrB) = swrB_w from rfl, show lates (PTree.of swrB) = swrB_f from rfl, show xw swrB_ops.size false = swrB_l0 by kernel_rfl, swrB_k0, show Region.noSelect swrB_ops = true by kernel_rfl, show zo (PTree.of swrB).len swrB_ops.size = true by kernel_rfl]
 rfl
abbrev insB : List Tk := [.p 0, .p 1, .p 2, .p 3, .p 4, .p 5, .p 6, .p 7, .p 8, .p 10, .p 11, .p 12, .q 9, .q 13, .p 14, .e 15, .p 16, .e 17]
noncomputable def insB_ops : Array Oper := match opsOf Tryd.f91 6 with
 | some o => o
 | none => #[]
def insB_w : List Nat := [15, 17]
def insB_f : List Nat := []
def insB_l0 : Array Bool := #[false, false, false, false, false, false, false, false, false, false, false, false, false, false, false, false, false, false]
theorem insB_s0 : stepsOKL insB_ops insB_w insB_f false [.p 0, .p 1, .p 2, .p 3] insB_l0 = true := by kernel_rfl
def insB_l1 : Array Bool := #[true, true, true, true, false, false, false, false, false, false, false, false, false, false, false, false, false, false]
theorem insB_a0 : listedBy [.p 0, .p 1, .p 2, .p 3] insB_l0 = insB_l1 := by kernel_rfl
theorem insB_s1 : stepsOKL insB_ops insB_w insB_f false [.p 4, .p 5, .p 6, .p 7] insB_l1 = true := by kernel_rfl
def insB_l2 : Array Bool := #[true, true, true, true, true, true, true, true, false, false, false, false, false, false, false, false, false, false]
theorem insB_a1 : listedBy [.p 4, .p 5, .p 6, .p 7] insB_l1 = insB_l2 := by kernel_rfl
theorem insB_s2 : stepsOKL insB_ops insB_w insB_f false [.p 8, .p 10, .p 11, .p 12] insB_l2 = true := by kernel_rfl
def insB_l3 : Array Bool := #[true, true, true, true, true, true, true, true, true, false, true, true, true, false, false, false, false, false]
theorem insB_a2 : listedBy [.p 8, .p 10, .p 11, .p 12] insB_l2 = insB_l3 := by kernel_rfl
theorem insB_s3 : stepsOKL insB_ops insB_w insB_f false [.q 9, .q 13, .p 14, .e 15] insB_l3 = true := by kernel_rfl
def insB_l4 : Array Bool := #[true, true, true, true, true, true, true, true, true, true, true, true, true, true, true, true, false, false]
theorem insB_a3 : listedBy [.q 9, .q 13, .p 14, .e 15] insB_l3 = insB_l4 := by kernel_rfl
theorem insB_s4 : stepsOKL insB_ops insB_w insB_f false [.p 16, .e 17] insB_l4 = true := by kernel_rfl
def insB_l5 : Array Bool := #[true, true, true, true, true, true, true, true, true, true, true, true, true, true, true, true, true, true]
theorem insB_a4 : listedBy [.p 16, .e 17] insB_l4 = insB_l5 := by kernel_rfl
theorem insB_k5 : planOK insB_ops insB_w insB_f false (PTree.of []) insB_l5 = true := by kernel_rfl
theorem insB_k4 : planOK insB_ops insB_w insB_f false (PTree.of [.p 16, .e 17]) insB_l4 = true := plan_cutL [.p 16, .e 17] _ _ _ insB_s4 (by rw [insB_a4]; exact insB_k5)
theorem insB_k3 : planOK insB_ops insB_w insB_f false (PTree.of [.q 9, .q 13, .p 14, .e 15, .p 16, .e 17]) insB_l3 = true := plan_cutL [.q 9, .q 13, .p 14, .e 15] _ _ _ insB_s3 (by rw [insB_a3]; exact insB_k4)
theorem insB_k2 : planOK insB_ops insB_w insB_f false (PTree.of [.p 8, .p 10, .p 11, .p 12, .q 9, .q 13, .p 14, .e 15, .p 16, .e 17]) insB_l2 = true := plan_cutL [.p 8, .p 10, .p 11, .p 12] _ _ _ insB_s2 (by rw [insB_a2]; exact insB_k3)
theorem insB_k1 : planOK insB_ops insB_w insB_f false (PTree.of [.p 4, .p 5, .p 6, .p 7, .p 8, .p 10, .p 11, .p 12, .q 9, .q 13, .p 14, .e 15, .p 16, .e 17]) insB_l1 = true := plan_cutL [.p 4, .p 5, .p 6, .p 7] _ _ _ insB_s1 (by rw [insB_a1]; exact insB_k2)
theorem insB_k0 : planOK insB_ops insB_w insB_f false (PTree.of [.p 0, .p 1, .p 2, .p 3, .p 4, .p 5, .p 6, .p 7, .p 8, .p 10, .p 11, .p 12, .q 9, .q 13, .p 14, .e 15, .p 16, .e 17]) insB_l0 = true := plan_cutL [.p 0, .p 1, .p 2, .p 3] _ _ _ insB_s0 (by rw [insB_a0]; exact insB_k1)
theorem insB_ok (ops : Array Oper) (h : opsOf Tryd.f91 6 = some ops) : planned ops (PTree.of insB) = true := by
 have e : ops = insB_ops := by unfold insB_ops; rw [h]
 subst e
 unfold planned
 rw [show effs (PTree.of insB) = insB_w from rfl, show lates (PTree.of insB) = insB_f from rfl, show xw insB_ops.size false = insB_l0 by kernel_rfl, insB_k0, show Region.noSelect insB_ops = true by kernel_rfl, show zo (PTree.of insB).len insB_ops.size = true by kernel_rfl]
 rfl
abbrev symB : List Tk := [.p 0, .p 1, .p 2, .p 3, .p 4, .p 5, .p 6, .p 7, .p 8, .p 10, .p 11, .p 12, .q 9, .q 13, .p 14, .e 15, .p 16, .e 17]
noncomputable def symB_ops : Array Oper := match opsOf Tryd.f92 11 with
 | some o => o
 | none => #[]
def symB_w : List Nat := [15, 17]
def symB_f : List Nat := []
def symB_l0 : Array Bool := #[false, false, false, false, false, false, false, false, false, false, false, false, false, false, false, false, false, false]
theorem symB_s0 : stepsOKL symB_ops symB_w symB_f false [.p 0, .p 1, .p 2, .p 3] symB_l0 = true := by kernel_rfl
def symB_l1 : Array Bool := #[true, true, true, true, false, false, false, false, false, false, false, false, false, false, false, false, false, false]
theorem symB_a0 : listedBy [.p 0, .p 1, .p 2, .p 3] symB_l0 = symB_l1 := by kernel_rfl
theorem symB_s1 : stepsOKL symB_ops symB_w symB_f false [.p 4, .p 5, .p 6, .p 7] symB_l1 = true := by kernel_rfl
def symB_l2 : Array Bool := #[true, true, true, true, true, true, true, true, false, false, false, false, false, false, false, false, false, false]
theorem symB_a1 : listedBy [.p 4, .p 5, .p 6, .p 7] symB_l1 = symB_l2 := by kernel_rfl
theorem symB_s2 : stepsOKL symB_ops symB_w symB_f false [.p 8, .p 10, .p 11, .p 12] symB_l2 = true := by kernel_rfl
def symB_l3 : Array Bool := #[true, true, true, true, true, true, true, true, true, false, true, true, true, false, false, false, false, false]
theorem symB_a2 : listedBy [.p 8, .p 10, .p 11, .p 12] symB_l2 = symB_l3 := by kernel_rfl
theorem symB_s3 : stepsOKL symB_ops symB_w symB_f false [.q 9, .q 13, .p 14, .e 15] symB_l3 = true := by kernel_rfl
def symB_l4 : Array Bool := #[true, true, true, true, true, true, true, true, true, true, true, true, true, true, true, true, false, false]
theorem symB_a3 : listedBy [.q 9, .q 13, .p 14, .e 15] symB_l3 = symB_l4 := by kernel_rfl
theorem symB_s4 : stepsOKL symB_ops symB_w symB_f false [.p 16, .e 17] symB_l4 = true := by kernel_rfl
def symB_l5 : Array Bool := #[true, true, true, true, true, true, true, true, true, true, true, true, true, true, true, true, true, true]
theorem symB_a4 : listedBy [.p 16, .e 17] symB_l4 = symB_l5 := by kernel_rfl
theorem symB_k5 : planOK symB_ops symB_w symB_f false (PTree.of []) symB_l5 = true := by kernel_rfl
theorem symB_k4 : planOK symB_ops symB_w symB_f false (PTree.of [.p 16, .e 17]) symB_l4 = true := plan_cutL [.p 16, .e 17] _ _ _ symB_s4 (by rw [symB_a4]; exact symB_k5)
theorem symB_k3 : planOK symB_ops symB_w symB_f false (PTree.of [.q 9, .q 13, .p 14, .e 15, .p 16, .e 17]) symB_l3 = true := plan_cutL [.q 9, .q 13, .p 14, .e 15] _ _ _ symB_s3 (by rw [symB_a3]; exact symB_k4)
theorem symB_k2 : planOK symB_ops symB_w symB_f false (PTree.of [.p 8, .p 10, .p 11, .p 12, .q 9, .q 13, .p 14, .e 15, .p 16, .e 17]) symB_l2 = true := plan_cutL [.p 8, .p 10, .p 11, .p 12] _ _ _ symB_s2 (by rw [symB_a2]; exact symB_k3)
theorem symB_k1 : planOK symB_ops symB_w symB_f false (PTree.of [.p 4, .p 5, .p 6, .p 7, .p 8, .p 10, .p 11, .p 12, .q 9, .q 13, .p 14, .e 15, .p 16, .e 17]) symB_l1 = true := plan_cutL [.p 4, .p 5, .p 6, .p 7] _ _ _ symB_s1 (by rw [symB_a1]; exact symB_k2)
theorem symB_k0 : planOK symB_ops symB_w symB_f false (PTree.of [.p 0, .p 1, .p 2, .p 3, .p 4, .p 5, .p 6, .p 7, .p 8, .p 10, .p 11, .p 12, .q 9, .q 13, .p 14, .e 15, .p 16, .e 17]) symB_l0 = true := plan_cutL [.p 0, .p 1, .p 2, .p 3] _ _ _ symB_s0 (by rw [symB_a0]; exact symB_k1)
theorem symB_ok (ops : Array Oper) (h : opsOf Tryd.f92 11 = some ops) : planned ops (PTree.of symB) = true := by
 have e : ops = symB_ops := by unfold symB_ops; rw [h]
 subst e
 unfold planned
 rw [show effs (PTree.of symB) = symB_w from rfl, show lates (PTree.of symB) = symB_f from rfl, show xw symB_ops.size false = symB_l0 by kernel_rfl, symB_k0, show Region.noSelect symB_ops = true by kernel_rfl, show zo (PTree.of symB).len symB_ops.size = true by kernel_rfl]
 rfl
abbrev symC : List Tk := [.p 0, .p 1, .p 2, .p 3, .p 4, .p 5, .p 6, .p 7, .p 8, .p 10, .p 11, .p 12, .q 9, .q 13, .p 14, .e 15, .p 16, .e 17]
noncomputable def symC_ops : Array Oper := match opsOf Tryd.f92 23 with
 | some o => o
 | none => #[]
def symC_w : List Nat := [15, 17]
def symC_f : List Nat := []
def symC_l0 : Array Bool := #[false, false, false, false, false, false, false, false, false, false, false, false, false, false, false, false, false, false]
theorem symC_s0 : stepsOKL symC_ops symC_w symC_f false [.p 0, .p 1, .p 2, .p 3] symC_l0 = true := by kernel_rfl
def symC_l1 : Array Bool := #[true, true, true, true, false, false, false, false, false, false, false, false, false, false, false, false, false, false]
theorem symC_a0 : listedBy [.p 0, .p 1, .p 2, .p 3] symC_l0 = symC_l1 := by kernel_rfl
theorem symC_s1 : stepsOKL symC_ops symC_w symC_f false [.p 4, .p 5, .p 6, .p 7] symC_l1 = true := by kernel_rfl
def symC_l2 : Array Bool := #[true, true, true, true, true, true, true, true, false, false, false, false, false, false, false, false, false, false]
theorem symC_a1 : listedBy [.p 4, .p 5, .p 6, .p 7] symC_l1 = symC_l2 := by kernel_rfl
theorem symC_s2 : stepsOKL symC_ops symC_w symC_f false [.p 8, .p 10, .p 11, .p 12] symC_l2 = true := by kernel_rfl
def symC_l3 : Array Bool := #[true, true, true, true, true, true, true, true, true, false, true, true, true, false, false, false, false, false]
theorem symC_a2 : listedBy [.p 8, .p 10, .p 11, .p 12] symC_l2 = symC_l3 := by kernel_rfl
theorem symC_s3 : stepsOKL symC_ops symC_w symC_f false [.q 9, .q 13, .p 14, .e 15] symC_l3 = true := by kernel_rfl
def symC_l4 : Array Bool := #[true, true, true, true, true, true, true, true, true, true, true, true, true, true, true, true, false, false]
theorem symC_a3 : listedBy [.q 9, .q 13, .p 14, .e 15] symC_l3 = symC_l4 := by kernel_rfl
theorem symC_s4 : stepsOKL symC_ops symC_w symC_f false [.p 16, .e 17] symC_l4 = true := by kernel_rfl
def symC_l5 : Array Bool := #[true, true, true, true, true, true, true, true, true, true, true, true, true, true, true, true, true, true]
theorem symC_a4 : listedBy [.p 16, .e 17] symC_l4 = symC_l5 := by kernel_rfl
theorem symC_k5 : planOK symC_ops symC_w symC_f false (PTree.of []) symC_l5 = true := by kernel_rfl
theorem symC_k4 : planOK symC_ops symC_w symC_f false (PTree.of [.p 16, .e 17]) symC_l4 = true := plan_cutL [.p 16, .e 17] _ _ _ symC_s4 (by rw [symC_a4]; exact symC_k5)
theorem symC_k3 : planOK symC_ops symC_w symC_f false (PTree.of [.q 9, .q 13, .p 14, .e 15, .p 16, .e 17]) symC_l3 = true := plan_cutL [.q 9, .q 13, .p 14, .e 15] _ _ _ symC_s3 (by rw [symC_a3]; exact symC_k4)
theorem symC_k2 : planOK symC_ops symC_w symC_f false (PTree.of [.p 8, .p 10, .p 11, .p 12, .q 9, .q 13, .p 14, .e 15, .p 16, .e 17]) symC_l2 = true := plan_cutL [.p 8, .p 10, .p 11, .p 12] _ _ _ symC_s2 (by rw [symC_a2]; exact symC_k3)
theorem symC_k1 : planOK symC_ops symC_w symC_f false (PTree.of [.p 4, .p 5, .p 6, .p 7, .p 8, .p 10, .p 11, .p 12, .q 9, .q 13, .p 14, .e 15, .p 16, .e 17]) symC_l1 = true := plan_cutL [.p 4, .p 5, .p 6, .p 7] _ _ _ symC_s1 (by rw [symC_a1]; exact symC_k2)
theorem symC_k0 : planOK symC_ops symC_w symC_f false (PTree.of [.p 0, .p 1, .p 2, .p 3, .p 4, .p 5, .p 6, .p 7, .p 8, .p 10, .p 11, .p 12, .q 9, .q 13, .p 14, .e 15, .p 16, .e 17]) symC_l0 = true := plan_cutL [.p 0, .p 1, .p 2, .p 3] _ _ _ symC_s0 (by rw [symC_a0]; exact symC_k1)
theorem symC_ok (ops : Array Oper) (h : opsOf Tryd.f92 23 = some ops) : planned ops (PTree.of symC) = true := by
 have e : ops = symC_ops := by unfold symC_ops; rw [h]
 subst e
 unfold planned
 rw [show effs (PTree.of symC) = symC_w from rfl, show lates (PTree.of symC) = symC_f from rfl, show xw symC_ops.size false = symC_l0 by kernel_rfl, symC_k0, show Region.noSelect symC_ops = true by kernel_rfl, show zo (PTree.of symC).len symC_ops.size = true by kernel_rfl]
 rfl
end Go.Vx
namespace Go.Vx
open Go Go.Proofs
variable [Gl]
def cstep (x : Int) : Int := ibit .xor .u32 (ishr .u32 x 1) (ibit .and .u32 3988292384 (IntKind.u32.wrap (0 - ibit .and .u32 x 1)))
def itn (f : Int → Int) : Nat → Int → Int
 | 0, x => x
 | n + 1, x => itn f n (f x)
theorem itn_succ (f : Int → Int) : ∀ (n : Nat) (x : Int), itn f (n + 1) x = f (itn f n x)
 | 0, x => rfl
 | n + 1, x => itn_succ f n (f x)
@[irreducible] def sumB (x b : Int) : Int := itn cstep 8 (ibit .xor .u32 x (IntKind.u32.wrap b))
def crc (l : List Int) : Int := ibit .xor .u32 (l.foldl sumB 4294967295) 4294967295
theorem step_ok (x : Int) : Tells (C := C0) Tryd.prog (.fn 101) [] [.int .u32 x] (.int .u32 (cstep x)) := by
 refine loc_pc (P := Tryd.prog) (E := ⟨[], [], 10, [], [], []⟩) (L := []) mix Tryd.func101 rfl (by kernel_rfl) (by kernel_rfl) rfl rfl ?_
 exact vgo
def pcStep : Pc Tryd.prog C0 where
 tg := .fn 101
 X := Int
 args x := [.int .u32 x]
 mem _ := []
 pre _ := True
 res x := .int .u32 (cstep x)
 mat vs _ := match vs with
  | [.int _ x] => some (x, [])
  | _ => none
 ok x _ := step_ok x
def Byt (x0 : Int) : Inv' C0 := ⟨2, Nat × Int, fun x => [(13, .int .i64 (x.1 : Int))], fun x m => match m with
 | [a] => [⟨a.block, a.base, 1, true, none, .one [.int .u32 x.2]⟩]
 | m => m, fun x => x.1 ≤ 8 ∧ x.2 = itn cstep x.1 x0, fun x => 8 - x.1⟩
theorem byte_ok (b q : Nat) (x c : Int) : Does (C := C0) Tryd.prog (.fn 81) [⟨b, q, 1, true, none, .one [.int .u32 x]⟩] [.ptr 0 0 0, .int .u8 c]
 [⟨Unit, fun _ => True, fun _ => .tup [], fun _ => [⟨b, q, 1, true, none, .one [.int .u32 (sumB x c)]⟩]⟩] := by
 refine loc_fn (P := Tryd.prog) (E := ⟨[], [pcStep], 24, [], [], []⟩) (L := [Byt (ibit .xor .u32 x (IntKind.u32.wrap c))]) mix Tryd.func81 rfl (by kernel_rfl) (by kernel_rfl) rfl rfl ?_
 ((conv => arg 1; reduce); with_reducible repeat' first | exact ty | refine ta ?_ ?_ | refine ti fun _ => ?_ | refine tf fun _ => ?_ | refine tl ?_)
 all_goals try exact vlf
 · refine Stands.one (0, ibit .xor .u32 x (IntKind.u32.wrap c)) ⟨⟨zn _, rfl⟩, ?_⟩
   exact vgo
 · ((try dsimp only [Byt] at *); exact vau)
 · rename_i v hv h
   obtain ⟨i, y⟩ := v
   obtain ⟨h1, h2⟩ : i ≤ 8 ∧ y = itn cstep i _ := hv
   have h : decide ((i : Int) < 8) = true := h
   refine Stands.one (i + 1, cstep y) ⟨⟨by exact vau, ?_⟩, ?_, ?_⟩
   · rw [itn_succ, ← h2]
   · show 8 - (i + 1) < 8 - i
     exact vau
   exact vgo
 · rename_i v hv h
   obtain ⟨i, y⟩ := v
   obtain ⟨h1, h2⟩ : i ≤ 8 ∧ y = itn cstep i _ := hv
   have h : decide ((i : Int) < 8) = false := h
   obtain rfl : i = 8 := by exact vau
   refine Ends.one () trivial ?_
   ((conv => arg 1; reduce); with_reducible repeat' first | exact ty | refine ta ?_ ?_ | refine ti fun _ => ?_ | refine tf fun _ => ?_ | refine tl ?_)
   all_goals try exact vlf
   show sumB x c = y
   unfold sumB
   exact h2.symm
def fcByte : Fc Tryd.prog C0 where
 tg := .fn 81
 X := Nat × Nat × Int × Int
 args := fun (b, q, x, c) => [.ptr 0 0 0, .int .u8 c]
 mem := fun (b, q, x, c) => [⟨b, q, 1, true, none, .one [.int .u32 x]⟩]
 pre _ := True
 alts := fun (b, q, x, c) => [⟨Unit, fun _ => True, fun _ => .tup [], fun _ => [⟨b, q, 1, true, none, .one [.int .u32 (sumB x c)]⟩]⟩]
 mat vs m := match vs with
  | [.ptr a _ _, .int _ c] => match nth m a with
    | ⟨b, q, _, _, _, .one [.int _ x]⟩ => some ((b, q, x, c), [a])
    | _ => none
  | _ => none
 ok := fun (b, q, x, c) _ => byte_ok b q x c
def onOf : Option Bool → Bool
 | none => true
 | some b => b
theorem on_of {o : Bool} {n c : Nat} (ho : o = false → n = 0 ∧ c = 0) (h : 0 < n) : o = true := by
 cases o with
 | true => rfl
 | false => have := (ho rfl).1; omega
def Eac (x0 : Int) (L : List Int) : Inv' C0 := ⟨1, Nat × Int, fun x => [(8, .int .i64 (x.1 : Int))], fun x m => match m with
 | [a, c] => [⟨a.block, a.base, 1, true, none, .one [.int .u32 x.2]⟩, c]
 | m => m, fun x => x.1 ≤ L.length ∧ x.2 = (L.take x.1).foldl sumB x0, fun x => L.length - x.1⟩
theorem take_fold (f : Int → Int → Int) (x0 : Int) (L : List Int) {i : Nat} (h : i < L.length) : (L.take (i + 1)).foldl f x0 = f ((L.take i).foldl f x0) (L.getD i 0) := by
 rw [tx, List.foldl_append]
 simp [zv h, zz]
theorem each_ok (b q : Nat) (x : Int) (o : Bool) (b2 q2 : Nat) (l : List Int) (i n c : Nat) (h : i + n ≤ l.length) (hn : n < 4611686018427387904) (ho : o = false → n = 0 ∧ c = 0) : Does (C := C0) Tryd.prog (.fn 80) [⟨b, q, 1, true, none, .one [.int .u32 x]⟩, ⟨b2, q2, 1, false, some o, .rows 5 l⟩] [.sl 1 i n c, .fn (.func 81) [.ptr 0 0 0] []]
 [⟨Unit, fun _ => True, fun _ => .tup [], fun _ => [⟨b, q, 1, true, none, .one [.int .u32 (((l.drop i).take n).foldl sumB x)]⟩, ⟨b2, q2, 1, false, some o, .rows 5 l⟩]⟩] := by
 have hL : ((l.drop i).take n).length = n := by simp; omega
 refine loc_fn (P := Tryd.prog) (E := ⟨[fcByte], [], 16, [], [], []⟩) (L := [Eac x ((l.drop i).take n)]) mix Tryd.func80 rfl (by kernel_rfl) (by kernel_rfl) rfl rfl ?_
 ((conv => arg 1; reduce); with_reducible repeat' first | exact ty | refine ta ?_ ?_ | refine ti fun _ => ?_ | refine tf fun _ => ?_ | refine tl ?_)
 all_goals try (first | exact vlf | ((try dsimp only [Eac] at *); exact vau) | (refine on_of ho ?_; ((try dsimp only [Eac] at *); exact vau)))
 · refine Stands.one (0, x) ⟨⟨zn _, rfl⟩, ?_⟩
   exact vgo
 · rename_i v hv h _ _
   obtain ⟨j, y⟩ := v
   obtain ⟨h1, h2⟩ : j ≤ ((l.drop i).take n).length ∧ y = _ := hv
   have h : decide ((j : Int) < (n : Int)) = true := h
   have hj : j < n := by exact vau
   refine Stands.one (j + 1, sumB y (l.getD (j + i) 0)) ⟨⟨by rw [hL]; omega, ?_⟩, ?_, ?_⟩
   · rw [take_fold _ _ _ (by rw [hL]; exact hj), ← h2]
     congr 1
     simp only [zz]
     rw [xy hj, xp, Nat.add_comm]
   · show ((l.drop i).take n).length - (j + 1) < ((l.drop i).take n).length - j
     rw [hL]; omega
   exact vgo
 · rename_i v hv h
   obtain ⟨j, y⟩ := v
   obtain ⟨h1, h2⟩ : j ≤ ((l.drop i).take n).length ∧ y = _ := hv
   have h : decide ((j : Int) < (n : Int)) = false := h
   obtain rfl : j = n := by rw [hL] at h1; exact vau
   refine Ends.one () trivial ?_
   ((conv => arg 1; reduce); with_reducible repeat' first | exact ty | refine ta ?_ ?_ | refine ti fun _ => ?_ | refine tf fun _ => ?_ | refine tl ?_)
   all_goals try exact vlf
   show _ = y
   rw [h2]
   simp only [vm, Nat.min_self]
def fcEach : Fc Tryd.prog C0 where
 tg := .fn 80
 X := Nat × Nat × Int × Bool × Nat × Nat × List Int × Nat × Nat × Nat
 args := fun (b, q, x, o, b2, q2, l, i, n, c) => [.sl 1 i n c, .fn (.func 81) [.ptr 0 0 0] []]
 mem := fun (b, q, x, o, b2, q2, l, i, n, c) => [⟨b, q, 1, true, none, .one [.int .u32 x]⟩, ⟨b2, q2, 1, false, some o, .rows 5 l⟩]
 pre := fun (b, q, x, o, b2, q2, l, i, n, c) => i + n ≤ l.length ∧ n < 4611686018427387904 ∧ (o = false → n = 0 ∧ c = 0)
 alts := fun (b, q, x, o, b2, q2, l, i, n, c) => [⟨Unit, fun _ => True, fun _ => .tup [], fun _ => [⟨b, q, 1, true, none, .one [.int .u32 (((l.drop i).take n).foldl sumB x)]⟩, ⟨b2, q2, 1, false, some o, .rows 5 l⟩]⟩]
 mat vs m := match vs with
  | [.sl a2 i n c, .fn _ [.ptr a _ _] _] => match nth m a, nth m a2 with
    | ⟨b, q, _, _, _, .one [.int _ x]⟩, ⟨b2, q2, _, _, g, .rows 5 l⟩ => some ((b, q, x, onOf g, b2, q2, l, i, n, c), [a, a2])
    | _, _ => none
  | [.nils, .fn _ [.ptr a _ _] _] => match nth m a with
    | ⟨b, q, _, _, _, .one [.int _ x]⟩ => some ((b, q, x, false, 0, 0, [], 0, 0, 0), [a, m.length])
    | _ => none
  | _ => none
 ok := fun (b, q, x, o, b2, q2, l, i, n, c) h => each_ok b q x o b2 q2 l i n c h.1 h.2.1 h.2.2
theorem write_ok (b q : Nat) (x : Int) (o : Bool) (b2 q2 : Nat) (l : List Int) (i n c : Nat) (h : i + n ≤ l.length) (hn : n < 4611686018427387904) (ho : o = false → n = 0 ∧ c = 0) : Does (C := C0) Tryd.prog (.fn 57) [⟨b, q, 1, true, none, .one [.int .u32 x]⟩, ⟨b2, q2, 1, false, some o, .rows 5 l⟩] [.ptr 0 0 0, .sl 1 i n c]
 [⟨Unit, fun _ => True, fun _ => .tup [], fun _ => [⟨b, q, 1, true, none, .one [.int .u32 (((l.drop i).take n).foldl sumB x)]⟩, ⟨b2, q2, 1, false, some o, .rows 5 l⟩]⟩] := by
 refine loc_fn (P := Tryd.prog) (E := ⟨[fcEach], [], 8, [], [], []⟩) (L := []) mix Tryd.func57 rfl (by kernel_rfl) (by kernel_rfl) rfl rfl ?_
 ((conv => arg 1; reduce); with_reducible repeat' first | exact ty | refine ta ?_ ?_ | refine ti fun _ => ?_ | refine tf fun _ => ?_ | refine tl ?_)
 all_goals try exact vlf
 · exact ⟨h, hn, ho⟩
 · refine Ends.one () trivial ?_
   exact vgo
def fcWrite : Fc Tryd.prog C0 where
 tg := .fn 57
 X := Nat × Nat × Int × Bool × Nat × Nat × List Int × Nat × Nat × Nat
 args := fun (b, q, x, o, b2, q2, l, i, n, c) => [.ptr 0 0 0, .sl 1 i n c]
 mem := fun (b, q, x, o, b2, q2, l, i, n, c) => [⟨b, q, 1, true, none, .one [.int .u32 x]⟩, ⟨b2, q2, 1, false, some o, .rows 5 l⟩]
 pre := fun (b, q, x, o, b2, q2, l, i, n, c) => i + n ≤ l.length ∧ n < 4611686018427387904 ∧ (o = false → n = 0 ∧ c = 0)
 alts := fun (b, q, x, o, b2, q2, l, i, n, c) => [⟨Unit, fun _ => True, fun _ => .tup [], fun _ => [⟨b, q, 1, true, none, .one [.int .u32 (((l.drop i).take n).foldl sumB x)]⟩, ⟨b2, q2, 1, false, some o, .rows 5 l⟩]⟩]
 mat vs m := match vs with
  | [.ptr a _ _, .sl a2 i n c] => match nth m a, nth m a2 with
    | ⟨b, q, _, _, _, .one [.int _ x]⟩, ⟨b2, q2, _, _, g, .rows 5 l⟩ => some ((b, q, x, onOf g, b2, q2, l, i, n, c), [a, a2])
    | _, _ => none
  | [.ptr a _ _, .nils] => match nth m a with
    | ⟨b, q, _, _, _, .one [.int _ x]⟩ => some ((b, q, x, false, 0, 0, [], 0, 0, 0), [a, m.length])
    | _ => none
  | _ => none
 ok := fun (b, q, x, o, b2, q2, l, i, n, c) h => write_ok b q x o b2 q2 l i n c h.1 h.2.1 h.2.2
theorem ibit_u32 (op : BinOp) (x y : Int) : 0 ≤ ibit op .u32 x y ∧ ibit op .u32 x y < 4294967296 := by
 unfold ibit IntKind.wrap
 simp only [IntKind.bits, IntKind.signed]
 simp
 omega
theorem value_ok (b q : Nat) (x : Int) : Tells (C := C0) Tryd.prog (.fn 58) [⟨b, q, 1, false, none, .one [.int .u32 x]⟩] [.ptr 0 0 0] (.int .i64 (ibit .xor .u32 x 4294967295)) := by
 refine loc_pc (P := Tryd.prog) (E := ⟨[], [], 9, [], [], []⟩) (L := []) mix Tryd.func58 rfl (by kernel_rfl) (by kernel_rfl) rfl rfl ?_
 ((conv => arg 1; reduce); with_reducible repeat' first | exact ty | refine ta ?_ ?_ | refine ti fun _ => ?_ | refine tf fun _ => ?_ | refine tl ?_)
 all_goals try exact vlf
 have := ibit_u32 .xor x 4294967295
 exact inR64 (by omega) (by omega)
def pcValue : Pc Tryd.prog C0 where
 tg := .fn 58
 X := Nat × Nat × Int
 args := fun (b, q, x) => [.ptr 0 0 0]
 mem := fun (b, q, x) => [⟨b, q, 1, false, none, .one [.int .u32 x]⟩]
 pre _ := True
 res := fun (b, q, x) => .int .i64 (ibit .xor .u32 x 4294967295)
 mat vs m := match vs with
  | [.ptr a _ _] => match nth m a with
    | ⟨b, q, _, _, _, .one [.int _ x]⟩ => some ((b, q, x), [a])
    | _ => none
  | _ => none
 ok := fun (b, q, x) _ => value_ok b q x
theorem new_ok : Does (C := C0) Tryd.prog (.fn 56) [] [] [⟨Nat × Nat, fun _ => True, fun _ => .ptr 0 0 0, fun y => [⟨y.1, y.2, 1, true, none, .one [.int .u32 4294967295]⟩]⟩] := by
 refine loc_fn (P := Tryd.prog) (E := ⟨[], [], 3, [], [], []⟩) (L := []) mix Tryd.func56 rfl (by kernel_rfl) (by kernel_rfl) rfl rfl ?_
 ((conv => arg 1; reduce); with_reducible repeat' first | exact ty | refine ta ?_ ?_ | refine ti fun _ => ?_ | refine tf fun _ => ?_ | refine tl ?_)
 all_goals try exact vlf
 rename_i b
 refine Ends.one (b, 0) trivial ?_
 exact vgo
def fcNew : Fc Tryd.prog C0 where
 tg := .fn 56
 X := Unit
 args _ := []
 mem _ := []
 pre _ := True
 alts _ := [⟨Nat × Nat, fun _ => True, fun _ => .ptr 0 0 0, fun y => [⟨y.1, y.2, 1, true, none, .one [.int .u32 4294967295]⟩]⟩]
 mat _ _ := some ((), [])
 ok _ _ := new_ok
theorem crcOf_ok (o : Bool) (b2 q2 : Nat) (l : List Int) (i n c : Nat) (h : i + n ≤ l.length) (hn : n < 4611686018427387904) (ho : o = false → n = 0 ∧ c = 0) : Tells (C := C0) Tryd.prog (.fn 33) [⟨b2, q2, 1, false, some o, .rows 5 l⟩] [.sl 0 i n c]
 (.int .i64 (crc ((l.drop i).take n))) := by
 refine loc_pc (P := Tryd.prog) (E := ⟨[fcNew, fcWrite], [pcValue], 10, [], [], []⟩) (L := []) mix Tryd.func33 rfl (by kernel_rfl) (by kernel_rfl) rfl rfl ?_
 ((conv => arg 1; reduce); with_reducible repeat' first | exact ty | refine ta ?_ ?_ | refine ti fun _ => ?_ | refine tf fun _ => ?_ | refine tl ?_)
 all_goals try exact vlf
 · exact ⟨h, hn, ho⟩
def pcCrc : Pc Tryd.prog C0 where
 tg := .fn 33
 X := Bool × Nat × Nat × List Int × Nat × Nat × Nat
 args := fun (o, b2, q2, l, i, n, c) => [.sl 0 i n c]
 mem := fun (o, b2, q2, l, i, n, c) => [⟨b2, q2, 1, false, some o, .rows 5 l⟩]
 pre := fun (o, b2, q2, l, i, n, c) => i + n ≤ l.length ∧ n < 4611686018427387904 ∧ (o = false → n = 0 ∧ c = 0)
 res := fun (o, b2, q2, l, i, n, c) => .int .i64 (crc ((l.drop i).take n))
 mat vs m := match vs with
  | [.sl a2 i n c] => match nth m a2 with
    | ⟨b2, q2, _, _, g, .rows 5 l⟩ => some ((onOf g, b2, q2, l, i, n, c), [a2])
    | _ => none
  | [.nils] => some ((false, 0, 0, [], 0, 0, 0), [m.length])
  | _ => none
 ok := fun (o, b2, q2, l, i, n, c) h => crcOf_ok o b2 q2 l i n c h.1 h.2.1 h.2.2
end Go.Vx
namespace Go.Vx
open Go Go.Proofs
variable [Gl]
abbrev pgZ : Pg := ⟨(0, 0), 0, me0⟩
theorem on_n {o : Bool} {n : Nat} (ho : o = false → n = 0) (h : 0 < n) : o = true := by
 cases o with
 | true => rfl
 | false => have := ho rfl; omega
def swr (l : List Pg) (i j k v : Nat) : List Pg := l.take i ++ (seg l j (j + k)).take v ++ (seg l i (i + k)).drop v ++ seg l (i + k) j ++ (seg l i (i + k)).take v ++ (seg l j (j + k)).drop v ++ l.drop (j + k)
def Sw1 (b q : Nat) (o : Bool) (l : List Pg) (i j k : Nat) : Inv' C0 := ⟨1, Nat, fun v => [(10, .int .i64 (v : Int))], fun v _ => [⟨b, q, 9, true, some o, .rows 70 (swr l i j k v)⟩], fun v => v ≤ k, fun v => k - v⟩
theorem swr_zero {l : List Pg} {i j k : Nat} (h1 : i + k ≤ j) (h2 : j + k ≤ l.length) : swr l i j k 0 = l := by
 unfold swr
 simp only [xv, xi, zk]
 have e1 := seg_cut (l := l) (i := i) (j := j + k) (by omega)
 have e2 := seg_two (l := l) (i := i) (j := i + k) (k := j + k) (by omega) (by omega)
 have e3 := seg_two (l := l) (i := i + k) (j := j) (k := j + k) (by omega) (by omega)
 rw [e2, e3] at e1
 simp only [← zm] at e1 ⊢
 exact e1.symm
theorem swr_len {l : List Pg} {i j k v : Nat} (h1 : i + k ≤ j) (h2 : j + k ≤ l.length) (hv : v ≤ k) : (swr l i j k v).length = l.length := by
 unfold swr
 simp only [zw, zp, zj, seg_len (l := l) (show i ≤ i + k by omega) (by omega), seg_len (l := l) (show j ≤ j + k by omega) h2, seg_len (l := l) h1 (by omega)]
 omega
theorem swr_step {l : List Pg} {i j k v : Nat} (h1 : i + k ≤ j) (h2 : j + k ≤ l.length) (hv : v < k) : swp pgZ (swr l i j k v) (i + v) (j + v) = swr l i j k (v + 1) := by
 have u1 := seg_len (l := l) (show i ≤ i + k by omega) (by omega)
 have u2 := seg_len (l := l) (show j ≤ j + k by omega) h2
 have u3 := seg_len (l := l) h1 (by omega)
 have u4 : (l.take i).length = i := by rw [zp]; omega
 exact mid_swap (by omega) (by omega) (by omega) (by omega)
set_option maxHeartbeats 4000000 in
theorem swapR_ok (o : Bool) (b q : Nat) (l : List Pg) (n c i j k : Nat) (h : n ≤ l.length) (hn : n < 1000000000) (ho : o = false → n = 0) (h1 : i + k ≤ j) (h2 : j + k ≤ n) :
 Does (C := C0) Tryd.prog (.fn 111) [⟨b, q, 9, true, some o, .rows 70 l⟩] [.sl 0 0 n c, .int .i64 (i : Int), .int .i64 (j : Int), .int .i64 (k : Int), .fn (.func 50) [] []]
  [⟨Unit, fun _ => True, fun _ => .tup [], fun _ => [⟨b, q, 9, true, some o, .rows 70 (swr l i j k k)⟩]⟩] := by
 refine loc_fn (P := Tryd.prog) (E := ⟨[], [], 38, [(3, [], swrB)], [], []⟩) (L := [Sw1 b q o l i j k]) mix Tryd.func111 rfl (by kernel_rfl) (by kernel_rfl) rfl rfl ?_
 ((conv => arg 1; reduce); with_reducible repeat' first | exact ty | refine ta ?_ ?_ | refine ti fun _ => ?_ | refine tf fun _ => ?_ | refine tl ?_)
 all_goals try (first | exact swrB_ok _ rfl | exact vlf)
 · refine Stands.one (0 : Nat) ⟨zn _, ?_⟩
   ((conv => arg 1; reduce); with_reducible repeat' first | exact ty | refine ta ?_ ?_ | refine ti fun _ => ?_ | refine tf fun _ => ?_ | refine tl ?_)
   all_goals first | exact vlf | exact (swr_zero h1 (by omega)).symm | exact swr_zero h1 (by omega)
 all_goals try (
  rename_i v hv h3
  change Nat at v
  have hv : v ≤ k := hv
  have h3 : (v : Int) < (k : Int) := ow h3
  have hl := swr_len (l := l) h1 (by omega) hv
  first
   | exact on_n ho (by omega)
   | exact inR64 (by omega) (by omega)
   | (show (i : Int) + (v : Int) < (n : Int); omega)
   | (show (j : Int) + (v : Int) < (n : Int); omega)
   | (show ((i : Int) + (v : Int)).toNat + 0 < (swr l i j k v).length; omega)
   | (show ((j : Int) + (v : Int)).toNat + 0 < (swr l i j k v).length; omega)
   | (show ((j : Int) + (v : Int)).toNat + 0 < ((swr l i j k v).set _ _).length; rw [xc]; omega)
   | exact inR64 (by show -9223372036854775808 ≤ (v : Int) + 1; omega) (by show (v : Int) + 1 ≤ 9223372036854775807; omega))
 · rename_i v hv h3
   change Nat at v
   have hv : v ≤ k := hv
   have h3 : (v : Int) < (k : Int) := ow h3
   have hs := swr_step (l := l) h1 (by omega) (show v < k by omega)
   have e1 : ((i : Int) + (v : Int)).toNat + 0 = i + v := by omega
   have e2 : ((j : Int) + (v : Int)).toNat + 0 = j + v := by omega
   refine Stands.one (v + 1 : Nat) ⟨by show v + 1 ≤ k; omega, by show k - (v + 1) < k - v; omega, ?_⟩
   ((conv => arg 1; reduce); with_reducible repeat' first | exact ty | refine ta ?_ ?_ | refine ti fun _ => ?_ | refine tf fun _ => ?_ | refine tl ?_)
   all_goals first | exact vlf | (rw [← hs]; unfold swp; simp only [e1, e2]; rfl) | (simp only [e1, e2]; exact hs)
 · rename_i v hv h3
   change Nat at v
   have hv : v ≤ k := hv
   have h3 : ¬ (v : Int) < (k : Int) := ov h3
   have e : v = k := by omega
   subst e
   refine Ends.one () trivial ?_
   exact vgo
abbrev fnC : SV := .fn (.func 50) [] []
def fcSwapR : Fc Tryd.prog C0 where
 tg := .fn 111
 X := Bool × Nat × Nat × List Pg × Nat × Nat × Int × Int × Int
 args := fun (o, b, q, l, n, c, i, j, k) => [.sl 0 0 n c, .int .i64 i, .int .i64 j, .int .i64 k, fnC]
 mem := fun (o, b, q, l, n, c, i, j, k) => [⟨b, q, 9, true, some o, .rows 70 l⟩]
 pre := fun (o, b, q, l, n, c, i, j, k) => n ≤ l.length ∧ n < 1000000000 ∧ (o = false → n = 0) ∧ 0 ≤ i ∧ 0 ≤ k ∧ i + k ≤ j ∧ j + k ≤ (n : Int)
 alts := fun (o, b, q, l, n, c, i, j, k) => [⟨Unit, fun _ => True, fun _ => .tup [], fun _ => [⟨b, q, 9, true, some o, .rows 70 (swr l i.toNat j.toNat k.toNat k.toNat)⟩]⟩]
 mat vs m := match vs with
  | [.sl a 0 n c, .int _ i, .int _ j, .int _ k, .fn (.func 50) _ _] => match nth m a with
    | ⟨b, q, _, _, g, .rows 70 l⟩ => some ((onOf g, b, q, l, n, c, i, j, k), [a])
    | _ => none
  | _ => none
 ok := fun (o, b, q, l, n, c, i, j, k) ⟨h1, h2, h3, h4, h5, h6, h7⟩ => by
  have := swapR_ok o b q l n c i.toNat j.toNat k.toNat h1 h2 h3 (by omega) (by omega)
  have e1 : ((i.toNat : Nat) : Int) = i := by omega
  have e2 : ((j.toNat : Nat) : Int) = j := by omega
  have e3 : ((k.toNat : Nat) : Int) = k := by omega
  rw [e1, e2, e3] at this
  exact this
theorem swr_parts {X U M V Y : List Pg} {i j k : Nat} (hX : X.length = i) (hU : U.length = k) (hM : i + k + M.length = j) (hV : V.length = k) : swr (X ++ U ++ M ++ V ++ Y) i j k k = X ++ V ++ M ++ U ++ Y := by
 have s1 : seg (X ++ U ++ M ++ V ++ Y) j (j + k) = V := seg_mid (X := X ++ U ++ M) (by simp only [zw]; omega) (by omega)
 have s2 : seg (X ++ U ++ M ++ V ++ Y) i (i + k) = U := by
  rw [show X ++ U ++ M ++ V ++ Y = X ++ U ++ (M ++ V ++ Y) by simp]
  exact seg_mid hX (by omega)
 have s3 : seg (X ++ U ++ M ++ V ++ Y) (i + k) j = M := by
  rw [show X ++ U ++ M ++ V ++ Y = (X ++ U) ++ M ++ (V ++ Y) by simp]
  exact seg_mid (by rw [zw]; omega) (by omega)
 have t1 : (X ++ U ++ M ++ V ++ Y).take i = X := by
  rw [show X ++ U ++ M ++ V ++ Y = X ++ (U ++ M ++ V ++ Y) by simp, ← hX, rg]
 have t2 : (X ++ U ++ M ++ V ++ Y).drop (j + k) = Y := by
  have e : (X ++ U ++ M ++ V).length = j + k := by simp only [zw]; omega
  rw [← e, qk]
 unfold swr
 rw [s1, s2, s3, t1, t2, zu (by omega), zu (by omega), wd (by omega), wd (by omega)]
 simp
def Rt (l : List Pg) (a m e i j : Nat) (L : List Pg) : Prop := 1 ≤ i ∧ 1 ≤ j ∧ ∃ Lp A B Rp, L = l.take a ++ Lp ++ A ++ B ++ Rp ++ l.drop e ∧ A.length = i ∧ B.length = j ∧ a + Lp.length + i = m ∧ Lp ++ (B ++ A) ++ Rp = seg l m e ++ seg l a m
theorem Rt.start {l : List Pg} {a m e : Nat} (h1 : a < m) (h2 : m < e) (h3 : e ≤ l.length) : Rt l a m e (m - a) (e - m) l := by
 refine ⟨by omega, by omega, [], seg l a m, seg l m e, [], ?_, seg_len (by omega) (by omega), seg_len (by omega) h3, by simp; omega, by simp⟩
 have e1 := seg_cut (l := l) (i := a) (j := e) (by omega)
 rw [seg_two (l := l) (i := a) (j := m) (k := e) (by omega) (by omega)] at e1
 simp only [zk]
 rw [← zm] at e1
 exact e1
theorem Rt.lens {l : List Pg} {a m e i j : Nat} {L : List Pg} (h : Rt l a m e i j L) (h1 : a < m) (h2 : m < e) (h3 : e ≤ l.length) : L.length = l.length ∧ i ≤ m ∧ a + i ≤ m ∧ m + j ≤ e := by
 obtain ⟨_, _, Lp, A, B, Rp, rfl, rfl, rfl, h5, h6⟩ := h
 have := congrArg List.length h6
 simp only [zw, seg_len (l := l) (show m ≤ e by omega) h3, seg_len (l := l) (show a ≤ m by omega) (by omega)] at this
 simp only [zw, zp, zj]
 omega
theorem Rt.big {l : List Pg} {a m e i j : Nat} {L : List Pg} (h : Rt l a m e i j L) (hl : a ≤ l.length) (hij : j < i) : Rt l a m e (i - j) j (swr L (m - i) m j j) := by
 obtain ⟨h1, h2, Lp, A, B, Rp, rfl, hA, hB, h5, h6⟩ := h
 have hta : (l.take a).length = a := by rw [zp]; omega
 obtain ⟨A1, A2, rfl, l1, l2⟩ : ∃ A1 A2, A = A1 ++ A2 ∧ A1.length = j ∧ A2.length = i - j := ⟨_, _, (zc j A).symm, by rw [zp]; omega, by rw [zj]; omega⟩
 refine ⟨by omega, h2, Lp ++ B, A2, A1, Rp, ?_, l2, l1, by rw [zw]; omega, ?_⟩
 · have := swr_parts (X := l.take a ++ Lp) (U := A1) (M := A2) (V := B) (Y := Rp ++ l.drop e) (i := m - i) (j := m) (k := j) (by rw [zw]; omega) l1 (by omega) hB
   rw [show l.take a ++ Lp ++ (A1 ++ A2) ++ B ++ Rp ++ l.drop e = l.take a ++ Lp ++ A1 ++ A2 ++ B ++ (Rp ++ l.drop e) by simp only [zm], this]
   simp only [zm]
 · rw [← h6]
   simp only [zm]
theorem Rt.small {l : List Pg} {a m e i j : Nat} {L : List Pg} (h : Rt l a m e i j L) (hl : a ≤ l.length) (hij : i < j) : Rt l a m e i (j - i) (swr L (m - i) (m + j - i) i i) := by
 obtain ⟨h1, h2, Lp, A, B, Rp, rfl, hA, hB, h5, h6⟩ := h
 have hta : (l.take a).length = a := by rw [zp]; omega
 obtain ⟨B1, B2, rfl, l1, l2⟩ : ∃ B1 B2, B = B1 ++ B2 ∧ B1.length = j - i ∧ B2.length = i := ⟨_, _, (zc (j - i) B).symm, by rw [zp]; omega, by rw [zj]; omega⟩
 refine ⟨h1, by omega, Lp, B2, B1, A ++ Rp, ?_, l2, l1, by omega, ?_⟩
 · have := swr_parts (X := l.take a ++ Lp) (U := A) (M := B1) (V := B2) (Y := Rp ++ l.drop e) (i := m - i) (j := m + j - i) (k := i) (by rw [zw]; omega) hA (by omega) l2
   rw [show l.take a ++ Lp ++ A ++ (B1 ++ B2) ++ Rp ++ l.drop e = l.take a ++ Lp ++ A ++ B1 ++ B2 ++ (Rp ++ l.drop e) by simp only [zm], this]
   simp only [zm]
 · rw [← h6]
   simp only [zm]
theorem Rt.done {l : List Pg} {a m e i : Nat} {L : List Pg} (h : Rt l a m e i i L) (hl : a ≤ l.length) : swr L (m - i) m i i = l.take a ++ (seg l m e ++ seg l a m) ++ l.drop e := by
 obtain ⟨h1, h2, Lp, A, B, Rp, rfl, hA, hB, h5, h6⟩ := h
 have hta : (l.take a).length = a := by rw [zp]; omega
 have := swr_parts (X := l.take a ++ Lp) (U := A) (M := []) (V := B) (Y := Rp ++ l.drop e) (i := m - i) (j := m) (k := i) (by rw [zw]; omega) hA (by simp; omega) hB
 rw [show l.take a ++ Lp ++ A ++ B ++ Rp ++ l.drop e = l.take a ++ Lp ++ A ++ [] ++ B ++ (Rp ++ l.drop e) by simp, this, ← h6]
 simp
def Rt2 (b q : Nat) (o : Bool) (l : List Pg) (a m e : Nat) : Inv' C0 := ⟨2, Nat × Nat × List Pg, fun y => [(10, .int .i64 (y.1 : Int)), (11, .int .i64 (y.2.1 : Int))], fun y _ => [⟨b, q, 9, true, some o, .rows 70 y.2.2⟩], fun y => Rt l a m e y.1 y.2.1 y.2.2, fun y => y.1 + y.2.1⟩
set_option maxHeartbeats 4000000 in
theorem rotate_ok (o : Bool) (b q : Nat) (l : List Pg) (n c a m e : Nat) (h : n ≤ l.length) (hn : n < 1000000000) (ho : o = false → n = 0) (h1 : a < m) (h2 : m < e) (h3 : e ≤ n) :
 Does (C := C0) Tryd.prog (.fn 104) [⟨b, q, 9, true, some o, .rows 70 l⟩] [.sl 0 0 n c, .int .i64 (a : Int), .int .i64 (m : Int), .int .i64 (e : Int), fnC]
  [⟨Unit, fun _ => True, fun _ => .tup [], fun _ => [⟨b, q, 9, true, some o, .rows 70 (l.take a ++ (seg l m e ++ seg l a m) ++ l.drop e)⟩]⟩] := by
 refine loc_fn (P := Tryd.prog) (E := ⟨[fcSwapR], [], 58, [], [], []⟩) (L := [Rt2 b q o l a m e]) mix Tryd.func104 rfl (by kernel_rfl) (by kernel_rfl) rfl rfl ?_
 ((conv => arg 1; reduce); with_reducible repeat' first | exact ty | refine ta ?_ ?_ | refine ti fun _ => ?_ | refine tf fun _ => ?_ | refine tl ?_)
 all_goals try exact vlf
 · refine Stands.one (m - a, e - m, l) ⟨(Rt.start h1 h2 (by omega) : Rt l a m e (m - a) (e - m) l), ?_⟩
   ((conv => arg 1; reduce); with_reducible repeat' first | exact ty | refine ta ?_ ?_ | refine ti fun _ => ?_ | refine tf fun _ => ?_ | refine tl ?_)
   all_goals first | exact vlf | (show ((m : Int) - (a : Int)) = ((m - a : Nat) : Int); omega) | (show ((e : Int) - (m : Int)) = ((e - m : Nat) : Int); omega)
 all_goals try (
  rename_i y hy g1 g2
  obtain ⟨i, j, L⟩ := y
  have hy : Rt l a m e i j L := hy
  obtain ⟨k1, k2, k3, k4⟩ := hy.lens h1 h2 (by omega)
  have k5 := hy.1
  have k6 := hy.2.1
  have g1 : (i : Int) ≠ (j : Int) := ow g1
  first
   | exact inR64 (by show -9223372036854775808 ≤ (m : Int) - (i : Int); omega) (by show (m : Int) - (i : Int) ≤ 9223372036854775807; omega)
   | exact inR64 (by show -9223372036854775808 ≤ (m : Int) + (j : Int); omega) (by show (m : Int) + (j : Int) ≤ 9223372036854775807; omega)
   | exact inR64 (by show -9223372036854775808 ≤ (m : Int) + (j : Int) - (i : Int); omega) (by show (m : Int) + (j : Int) - (i : Int) ≤ 9223372036854775807; omega)
   | rfl
   | (have g2 : (j : Int) < (i : Int) := ow g2
      exact ⟨by show n ≤ L.length; omega, hn, ho, by show (0 : Int) ≤ (m : Int) - (i : Int); omega, by show (0 : Int) ≤ (j : Int); omega, by show (m : Int) - (i : Int) + (j : Int) ≤ (m : Int); omega, by show (m : Int) + (j : Int) ≤ (n : Int); omega⟩)
   | (have g2 : ¬ (j : Int) < (i : Int) := ov g2
      exact ⟨by show n ≤ L.length; omega, hn, ho, by show (0 : Int) ≤ (m : Int) - (i : Int); omega, by show (0 : Int) ≤ (i : Int); omega, by show (m : Int) - (i : Int) + (i : Int) ≤ (m : Int) + (j : Int) - (i : Int); omega, by show (m : Int) + (j : Int) - (i : Int) + (i : Int) ≤ (n : Int); omega⟩))
 · rename_i y hy g1 g2 u hu
   obtain ⟨i, j, L⟩ := y
   have hy : Rt l a m e i j L := hy
   obtain ⟨k1, k2, k3, k4⟩ := hy.lens h1 h2 (by omega)
   exact inR64 (by show -9223372036854775808 ≤ (i : Int) - (j : Int); omega) (by show (i : Int) - (j : Int) ≤ 9223372036854775807; omega)
 · rename_i y hy g1 g2 u hu
   obtain ⟨i, j, L⟩ := y
   have hy : Rt l a m e i j L := hy
   obtain ⟨k1, k2, k3, k4⟩ := hy.lens h1 h2 (by omega)
   have g2 : (j : Int) < (i : Int) := ow g2
   have hz := hy.big (by omega) (by omega)
   have k6 := hy.2.1
   have e1 : ((m : Int) - (i : Int)).toNat = m - i := by omega
   refine Stands.one (i - j, j, swr L (m - i) m j j) ⟨hz, by show i - j + j < i + j; omega, ?_⟩
   ((conv => arg 1; reduce); with_reducible repeat' first | exact ty | refine ta ?_ ?_ | refine ti fun _ => ?_ | refine tf fun _ => ?_ | refine tl ?_)
   all_goals first | exact vlf | (show ((i : Int) - (j : Int)) = ((i - j : Nat) : Int); omega) | (show swr L ((m : Int) - (i : Int)).toNat (m : Int).toNat (j : Int).toNat (j : Int).toNat = swr L (m - i) m j j; rw [e1]; rfl) | (show swr L (m - i) m j j = swr L ((m : Int) - (i : Int)).toNat (m : Int).toNat (j : Int).toNat (j : Int).toNat; rw [e1]; rfl)
 · rename_i y hy g1 g2 u hu
   obtain ⟨i, j, L⟩ := y
   have hy : Rt l a m e i j L := hy
   obtain ⟨k1, k2, k3, k4⟩ := hy.lens h1 h2 (by omega)
   exact inR64 (by show -9223372036854775808 ≤ (j : Int) - (i : Int); omega) (by show (j : Int) - (i : Int) ≤ 9223372036854775807; omega)
 · rename_i y hy g1 g2 u hu
   obtain ⟨i, j, L⟩ := y
   have hy : Rt l a m e i j L := hy
   obtain ⟨k1, k2, k3, k4⟩ := hy.lens h1 h2 (by omega)
   have g1 : (i : Int) ≠ (j : Int) := ow g1
   have g2 : ¬ (j : Int) < (i : Int) := ov g2
   have hz := hy.small (by omega) (by omega)
   have k5 := hy.1
   have e1 : ((m : Int) - (i : Int)).toNat = m - i := by omega
   have e2 : ((m : Int) + (j : Int) - (i : Int)).toNat = m + j - i := by omega
   refine Stands.one (i, j - i, swr L (m - i) (m + j - i) i i) ⟨hz, by show i + (j - i) < i + j; omega, ?_⟩
   ((conv => arg 1; reduce); with_reducible repeat' first | exact ty | refine ta ?_ ?_ | refine ti fun _ => ?_ | refine tf fun _ => ?_ | refine tl ?_)
   all_goals first | exact vlf | (show ((j : Int) - (i : Int)) = ((j - i : Nat) : Int); omega) | (show swr L ((m : Int) - (i : Int)).toNat ((m : Int) + (j : Int) - (i : Int)).toNat (i : Int).toNat (i : Int).toNat = swr L (m - i) (m + j - i) i i; rw [e1, e2]; rfl) | (show swr L (m - i) (m + j - i) i i = swr L ((m : Int) - (i : Int)).toNat ((m : Int) + (j : Int) - (i : Int)).toNat (i : Int).toNat (i : Int).toNat; rw [e1, e2]; rfl)
 all_goals try (
  rename_i y hy g1
  obtain ⟨i, j, L⟩ := y
  have hy : Rt l a m e i j L := hy
  obtain ⟨k1, k2, k3, k4⟩ := hy.lens h1 h2 (by omega)
  have g1 : ¬ (i : Int) ≠ (j : Int) := ov g1
  first
   | exact inR64 (by show -9223372036854775808 ≤ (m : Int) - (i : Int); omega) (by show (m : Int) - (i : Int) ≤ 9223372036854775807; omega)
   | rfl
   | exact ⟨by show n ≤ L.length; omega, hn, ho, by show (0 : Int) ≤ (m : Int) - (i : Int); omega, by show (0 : Int) ≤ (i : Int); omega, by show (m : Int) - (i : Int) + (i : Int) ≤ (m : Int); omega, by show (m : Int) + (i : Int) ≤ (n : Int); omega⟩)
 · rename_i y hy g1 u hu
   obtain ⟨i, j, L⟩ := y
   have hy : Rt l a m e i j L := hy
   obtain ⟨k1, k2, k3, k4⟩ := hy.lens h1 h2 (by omega)
   have g1 : ¬ (i : Int) ≠ (j : Int) := ov g1
   have eij : j = i := by omega
   subst eij
   have hz := hy.done (by omega)
   have e1 : ((m : Int) - (j : Int)).toNat = m - j := by omega
   refine Ends.one () trivial ?_
   ((conv => arg 1; reduce); with_reducible repeat' first | exact ty | refine ta ?_ ?_ | refine ti fun _ => ?_ | refine tf fun _ => ?_ | refine tl ?_)
   all_goals first | exact vlf | (show swr L ((m : Int) - (j : Int)).toNat (m : Int).toNat (j : Int).toNat (j : Int).toNat = _; rw [e1]; exact hz) | (show _ = swr L ((m : Int) - (j : Int)).toNat (m : Int).toNat (j : Int).toNat (j : Int).toNat; rw [e1]; exact hz.symm)
def fcRotate : Fc Tryd.prog C0 where
 tg := .fn 104
 X := Bool × Nat × Nat × List Pg × Nat × Nat × Int × Int × Int
 args := fun (o, b, q, l, n, c, i, j, k) => [.sl 0 0 n c, .int .i64 i, .int .i64 j, .int .i64 k, fnC]
 mem := fun (o, b, q, l, n, c, i, j, k) => [⟨b, q, 9, true, some o, .rows 70 l⟩]
 pre := fun (o, b, q, l, n, c, i, j, k) => n ≤ l.length ∧ n < 1000000000 ∧ (o = false → n = 0) ∧ 0 ≤ i ∧ i < j ∧ j < k ∧ k ≤ (n : Int)
 alts := fun (o, b, q, l, n, c, i, j, k) => [⟨Unit, fun _ => True, fun _ => .tup [], fun _ => [⟨b, q, 9, true, some o, .rows 70 (l.take i.toNat ++ (seg l j.toNat k.toNat ++ seg l i.toNat j.toNat) ++ l.drop k.toNat)⟩]⟩]
 mat vs m := match vs with
  | [.sl a 0 n c, .int _ i, .int _ j, .int _ k, .fn (.func 50) _ _] => match nth m a with
    | ⟨b, q, _, _, g, .rows 70 l⟩ => some ((onOf g, b, q, l, n, c, i, j, k), [a])
    | _ => none
  | _ => none
 ok := fun (o, b, q, l, n, c, i, j, k) ⟨h1, h2, h3, h4, h5, h6, h7⟩ => by
  have := rotate_ok o b q l n c i.toNat j.toNat k.toNat h1 h2 h3 (by omega) (by omega) (by omega)
  have e1 : ((i.toNat : Nat) : Int) = i := by omega
  have e2 : ((j.toNat : Nat) : Int) = j := by omega
  have e3 : ((k.toNat : Nat) : Int) = k := by omega
  rw [e1, e2, e3] at this
  exact this
end Go.Vx
namespace Go.Vx
open Go Go.Proofs
variable [Gl]
def Pin (x : Pg) : Prop := 0 ≤ x.pl.1 ∧ x.pl.1 ≤ 64 ∧ 0 ≤ x.pl.2 ∧ x.pl.2 ≤ 64
def ltP (a b : Pg) : Bool := decide (a.pl.1 < b.pl.1) || (decide (a.pl.1 = b.pl.1) && decide (a.pl.2 < b.pl.2))
theorem ltP_iff {a b : Pg} : ltP a b = true ↔ a.pl.1 < b.pl.1 ∨ a.pl.1 = b.pl.1 ∧ a.pl.2 < b.pl.2 := by
 unfold ltP
 rw [Bool.or_eq_true, zx, decide_eq_true_eq, decide_eq_true_eq, decide_eq_true_eq]
theorem ltP_no {a b : Pg} : ltP a b = false ↔ ¬ (a.pl.1 < b.pl.1 ∨ a.pl.1 = b.pl.1 ∧ a.pl.2 < b.pl.2) := by
 rw [← ltP_iff]; simp
theorem wkP : Wk ltP where
 tr h1 h2 := by rw [ltP_no] at *; omega
 asy h := by rw [ltP_no]; rw [ltP_iff] at h; omega
@[irreducible] def cfP (a b : Pg) : Int := if a.pl.1 ≠ b.pl.1 then a.pl.1 - b.pl.1 else a.pl.2 - b.pl.2
theorem cfP_lt {a b : Pg} : decide (cfP a b < 0) = ltP a b := by
 refine Bool.eq_iff_iff.2 ?_
 rw [decide_eq_true_eq, ltP_iff]
 unfold cfP
 split <;> omega
theorem cmpP_ok (a b : Pg) (ha : Pin a) (hb : Pin b) : Tells (C := C0) Tryd.prog (.fn 50) [] [.agg (pgE a), .agg (pgE b)] (.int .i64 (cfP a b)) := by
 obtain ⟨a1, a2, a3, a4⟩ := ha
 obtain ⟨b1, b2, b3, b4⟩ := hb
 refine loc_pc (P := Tryd.prog) (E := ⟨[], [], 26, [], [], []⟩) (L := []) mix Tryd.func50 rfl (by kernel_rfl) (by kernel_rfl) rfl rfl ?_
 ((conv => arg 1; reduce); with_reducible repeat' first | exact ty | refine ta ?_ ?_ | refine ti fun _ => ?_ | refine tf fun _ => ?_ | refine tl ?_)
 all_goals try exact vlf
 · rename_i h
   have h : a.pl.1 ≠ b.pl.1 := ow h
   unfold cfP; rw [if_pos h]
 · rename_i h
   have h : ¬ a.pl.1 ≠ b.pl.1 := ov h
   unfold cfP; rw [if_neg h]
def pcCmpP : Pc Tryd.prog C0 where
 tg := .fn 50
 X := Pg × Pg
 args x := [.agg (pgE x.1), .agg (pgE x.2)]
 mem _ := []
 pre x := Pin x.1 ∧ Pin x.2
 res x := .int .i64 (cfP x.1 x.2)
 mat vs _ := match vs with
  | [.agg [.int _ a, .int _ b, .int _ k, .int _ a1, .int _ a2, .int _ a3, .int _ a4, .int _ a5, .int _ a6], .agg [.int _ c, .int _ d, .int _ e, .int _ b1, .int _ b2, .int _ b3, .int _ b4, .int _ b5, .int _ b6]] =>
    some ((⟨(a, b), k, ⟨a1, a2, a3, a4, a5, a6⟩⟩, ⟨(c, d), e, ⟨b1, b2, b3, b4, b5, b6⟩⟩), [])
  | _ => none
 ok x h := cmpP_ok x.1 x.2 h.1 h.2
def Ins (l : List Pg) (a i : Nat) (L : List Pg) : Prop := ∃ P, P.Perm (seg l a i) ∧ Srd ltP P ∧ L = l.take a ++ P ++ l.drop i
def Ink (l : List Pg) (a i j : Nat) (L : List Pg) : Prop := ∃ P1 v P2, L = l.take a ++ P1 ++ v :: (P2 ++ l.drop (i + 1)) ∧ a + P1.length = j ∧ Srd ltP (P1 ++ P2) ∧ (∀ x ∈ P2, ltP v x = true) ∧ (P1 ++ v :: P2).Perm (seg l a (i + 1))
section
variable {l L : List Pg} {a e i j : Nat}
theorem Ins.start (h : a < l.length) : Ins l a (a + 1) l := by
 refine ⟨seg l a (a + 1), List.Perm.refl _, ?_, seg_cut (by omega)⟩
 rw [seg_one (d := pgZ) h]; exact Srd.one
theorem Ink.start (h : Ins l a i L) (ha : a ≤ i) (hi : i < l.length) : Ink l a i i L := by
 obtain ⟨P, h1, h2, rfl⟩ := h
 refine ⟨P, l.getD i pgZ, [], ?_, ?_, by rw [zk]; exact h2, (fun _ h => by cases h), ?_⟩
 · rw [drop_cons' (d := pgZ) hi]; rfl
 · rw [h1.length_eq, seg_len ha (by omega)]; omega
 · rw [seg_snoc (d := pgZ) ha hi]
   exact h1.append (List.Perm.refl _)
theorem Ink.len (h : Ink l a i j L) (ha : a ≤ i) (hi : i < l.length) : L.length = l.length := by
 obtain ⟨P1, v, P2, rfl, h1, h2, h3, h4⟩ := h
 have := h4.length_eq
 rw [seg_len (by omega) (by omega)] at this
 simp only [zw, xz, zp, zj] at this ⊢
 omega
theorem Ink.at (h : Ink l a i j L) (ha : a ≤ i) (hi : i < l.length) : ∃ P1 v P2, L = l.take a ++ P1 ++ v :: (P2 ++ l.drop (i + 1)) ∧ (l.take a ++ P1).length = j ∧ L.getD j pgZ = v ∧ Srd ltP (P1 ++ P2) ∧ (∀ x ∈ P2, ltP v x = true) ∧ (P1 ++ v :: P2).Perm (seg l a (i + 1)) ∧ (a < j → ∃ P u, P1 = P ++ [u] ∧ L.getD (j - 1) pgZ = u) := by
 obtain ⟨P1, v, P2, rfl, h1, h2, h3, h4⟩ := h
 have hl : (l.take a ++ P1).length = j := by rw [zw, zp]; omega
 refine ⟨P1, v, P2, rfl, hl, getD_app_mid hl.symm, h2, h3, h4, fun haj => ?_⟩
 rcases List.eq_nil_or_concat P1 with rfl | ⟨P, u, rfl⟩
 · rw [uv] at h1; omega
 · refine ⟨P, u, by simp, ?_⟩
   rw [show l.take a ++ P.concat u ++ v :: (P2 ++ l.drop (i + 1)) = (l.take a ++ P) ++ u :: (v :: (P2 ++ l.drop (i + 1))) by simp]
   refine getD_app_mid ?_
   simp only [zw, List.concat_eq_append, xz, uv] at hl ⊢
   omega
theorem Ink.step (h : Ink l a i j L) (ha : a ≤ i) (hi : i < l.length) (haj : a < j) (hlt : ltP (L.getD j pgZ) (L.getD (j - 1) pgZ) = true) : Ink l a i (j - 1) (swp pgZ L j (j - 1)) := by
 obtain ⟨P1, v, P2, rfl, hl, hv, h2, h3, h4, h5⟩ := h.at ha hi
 obtain ⟨P, u, rfl, hu⟩ := h5 haj
 rw [hv, hu] at hlt
 have hl' : (l.take a ++ P).length = j - 1 := by
  simp only [zw, xz, uv] at hl ⊢; omega
 refine ⟨P, v, u :: P2, ?_, by rw [zw, zp] at hl'; omega, by rw [zm] at h2; exact h2, fun x hx => ?_, ?_⟩
 · have := swp_mid' (A := l.take a ++ P) (B := []) (C := P2 ++ l.drop (i + 1)) (x := u) (y := v) (d := pgZ) (i := j - 1) (j := j) hl'.symm (by rw [hl']; simp; omega)
   rw [show l.take a ++ (P ++ [u]) ++ v :: (P2 ++ l.drop (i + 1)) = l.take a ++ P ++ u :: ([] ++ v :: (P2 ++ l.drop (i + 1))) by simp, this]
   simp
 · rcases List.mem_cons.1 hx with rfl | hx
   · exact hlt
   · exact h3 x hx
 · refine List.Perm.trans ?_ h4
   rw [show P ++ [u] ++ v :: P2 = P ++ (u :: v :: P2) by simp]
   exact (List.Perm.refl P).append (List.Perm.swap u v P2)
theorem Ink.done (h : Ink l a i j L) (ha : a ≤ i) (hi : i < l.length) (hj : ¬ (a < j ∧ ltP (L.getD j pgZ) (L.getD (j - 1) pgZ) = true)) : Ins l a (i + 1) L := by
 obtain ⟨P1, v, P2, rfl, hl, hv, h2, h3, h4, h5⟩ := h.at ha hi
 refine ⟨P1 ++ v :: P2, h4, srd_ins wkP h2 h3 ?_, by simp⟩
 rcases xr a j with haj | haj
 · obtain ⟨P, u, rfl, hu⟩ := h5 haj
   refine .inr ⟨P, u, rfl, ?_⟩
   rw [hv, hu] at hj
   cases hx : ltP v u with
   | false => rfl
   | true => exact absurd ⟨haj, hx⟩ hj
 · refine .inl (List.eq_nil_of_length_eq_zero ?_)
   rw [zw, zp] at hl; omega
theorem Ink.pin (h : Ink l a i j L) (ha : a ≤ i) (hi : i < l.length) (hie : i < e) (hP : ∀ x ∈ seg l a e, Pin x) (hj : a < j) : Pin (L.getD j pgZ) ∧ Pin (L.getD (j - 1) pgZ) := by
 obtain ⟨P1, v, P2, rfl, hl, hv, h2, h3, h4, h5⟩ := h.at ha hi
 obtain ⟨P, u, rfl, hu⟩ := h5 hj
 have hin : ∀ x ∈ P ++ [u] ++ v :: P2, Pin x := fun x hx => by
  refine hP x ?_
  rw [seg_two (l := l) (i := a) (j := i + 1) (k := e) (by omega) (by omega)]
  exact List.mem_append_left _ (h4.mem_iff.1 hx)
 rw [hv, hu]
 exact ⟨hin v (by simp), hin u (by simp)⟩
end
def I1 (b q : Nat) (o : Bool) (l : List Pg) (a e : Nat) : Inv' C0 := ⟨1, Nat × List Pg, fun y => [(8, .int .i64 (y.1 : Int))], fun y _ => [⟨b, q, 9, true, some o, .rows 70 y.2⟩], fun y => (y.1 = a + 1 ∧ e ≤ a ∧ y.2 = l) ∨ (a < y.1 ∧ y.1 ≤ e ∧ Ins l a y.1 y.2), fun y => e - y.1⟩
def I4 (b q : Nat) (o : Bool) (l : List Pg) (a e : Nat) : Inv' C0 := ⟨4, Nat × Nat × List Pg, fun y => [(8, .int .i64 (y.1 : Int)), (9, .int .i64 (y.2.1 : Int))], fun y _ => [⟨b, q, 9, true, some o, .rows 70 y.2.2⟩], fun y => a < y.1 ∧ y.1 < e ∧ a ≤ y.2.1 ∧ y.2.1 ≤ y.1 ∧ Ink l a y.1 y.2.1 y.2.2, fun y => y.2.1⟩
set_option maxHeartbeats 4000000 in
theorem insert_ok (o : Bool) (b q : Nat) (l : List Pg) (n c a e : Nat) (h : n ≤ l.length) (hn : n < 1000000000) (ho : o = false → n = 0) (h1 : a ≤ e) (h2 : e ≤ n) (hP : ∀ x ∈ seg l a e, Pin x) :
 Does (C := C0) Tryd.prog (.fn 91) [⟨b, q, 9, true, some o, .rows 70 l⟩] [.sl 0 0 n c, .int .i64 (a : Int), .int .i64 (e : Int), fnC]
  [⟨List Pg, fun W => W.Perm (seg l a e) ∧ Srd ltP W, fun _ => .tup [], fun W => [⟨b, q, 9, true, some o, .rows 70 (l.take a ++ W ++ l.drop e)⟩]⟩] := by
 refine loc_fn (P := Tryd.prog) (E := ⟨[], [pcCmpP], 53, [(6, [], insB)], [], []⟩) (L := [I1 b q o l a e, I4 b q o l a e]) mix Tryd.func91 rfl (by kernel_rfl) (by kernel_rfl) rfl rfl ?_
 ((conv => arg 1; reduce); with_reducible repeat' first | exact ty | refine ta ?_ ?_ | refine ti fun _ => ?_ | refine tf fun _ => ?_ | refine tl ?_)
 all_goals try (first | exact insB_ok _ rfl | exact vlf)
 · rcases xr a e with hae | hae
   · refine Stands.one (a + 1, l) ⟨.inr ⟨by show a < a + 1; omega, by show a + 1 ≤ e; omega, Ins.start (by omega)⟩, ?_⟩
     exact vgo
   · refine Stands.one (a + 1, l) ⟨.inl ⟨rfl, hae, rfl⟩, ?_⟩
     exact vgo
 · rename_i x hx g1
   obtain ⟨i, L⟩ := x
   have g1 : (i : Int) < (e : Int) := ow g1
   rcases hx with ⟨x1, x2, x3⟩ | ⟨x1, x2, x3⟩
   · change i = a + 1 at x1; omega
   change a < i at x1
   refine Stands.one (i, i, L) ⟨⟨x1, by show i < e; omega, by show a ≤ i; omega, zy _, Ink.start x3 (by show a ≤ i; omega) (by show i < l.length; omega)⟩, ?_⟩
   exact vgo
 all_goals try (
  rename_i x hx g1 y hy g2 g3
  obtain ⟨i, L⟩ := x
  obtain ⟨i', j, M⟩ := y
  have hy : a < i' ∧ i' < e ∧ a ≤ j ∧ j ≤ i' ∧ Ink l a i' j M := hy
  obtain ⟨y1, y2, y3, y4, y5⟩ := hy
  have hlen := y5.len (by omega) (by omega)
  have y0 : a < j := by
   first
    | (have g3 : (a : Int) < (j : Int) := ow g3
       omega)
    | (have g3 : (a : Int) < (j : Int) := ow (Bool.and_eq_true_iff.1 g3).1
       omega)
  first
   | exact on_n ho (by omega)
   | (show (j : Int) < (n : Int); omega)
   | (show (0 : Int) ≤ (j : Int) - 1; omega)
   | (show (j : Int) - 1 < (n : Int); omega)
   | (show (j : Int).toNat + 0 < M.length; omega)
   | (show ((j : Int) - 1).toNat + 0 < M.length; omega)
   | (show ((j : Int) - 1).toNat + 0 < (M.set _ _).length; rw [xc]; omega)
   | exact inR64 (by show -9223372036854775808 ≤ (j : Int) - 1; omega) (by show (j : Int) - 1 ≤ 9223372036854775807; omega)
   | (have e1 : ((j : Int) - 1).toNat + 0 = j - 1 := by omega
      have hp := y5.pin (by omega) (by omega) y2 hP y0
      refine ⟨hp.1, ?_⟩
      have hp2 := hp.2
      rw [← e1] at hp2
      exact hp2))
 · rename_i x hx g1 y hy g2 g3
   obtain ⟨i, L⟩ := x
   obtain ⟨i', j, M⟩ := y
   have hy : a < i' ∧ i' < e ∧ a ≤ j ∧ j ≤ i' ∧ Ink l a i' j M := hy
   obtain ⟨y1, y2, y3, y4, y5⟩ := hy
   have hlen := y5.len (by omega) (by omega)
   have y0 : a < j := by
    have g3 : (a : Int) < (j : Int) := ow (Bool.and_eq_true_iff.1 g3).1
    omega
   have e1 : ((j : Int) - 1).toNat + 0 = j - 1 := by omega
   have hlt : ltP (M.getD j pgZ) (M.getD (j - 1) pgZ) = true := by
    rw [← cfP_lt, ← e1]
    exact (Bool.and_eq_true_iff.1 g3).2
   refine Stands.one (i', j - 1, swp pgZ M j (j - 1)) ⟨⟨y1, y2, by show a ≤ j - 1; omega, by show j - 1 ≤ i'; omega, y5.step (by omega) (by omega) y0 hlt⟩, by show j - 1 < j; omega, ?_⟩
   ((conv => arg 1; reduce); with_reducible repeat' first | exact ty | refine ta ?_ ?_ | refine ti fun _ => ?_ | refine tf fun _ => ?_ | refine tl ?_)
   all_goals first | exact vlf | (show (j : Int) - 1 = ((j - 1 : Nat) : Int); omega) | (unfold swp; rw [← e1]; rfl)
 all_goals try (
  rename_i x hx g1 y hy g2 g3
  obtain ⟨i, L⟩ := x
  obtain ⟨i', j, M⟩ := y
  have hy : a < i' ∧ i' < e ∧ a ≤ j ∧ j ≤ i' ∧ Ink l a i' j M := hy
  obtain ⟨y1, y2, y3, y4, y5⟩ := hy
  have hlen := y5.len (by omega) (by omega)
  exact inR64 (by show -9223372036854775808 ≤ (i' : Int) + 1; omega) (by show (i' : Int) + 1 ≤ 9223372036854775807; omega))
 · rename_i x hx g1 y hy g2 g3
   obtain ⟨i, L⟩ := x
   obtain ⟨i', j, M⟩ := y
   have hy : a < i' ∧ i' < e ∧ a ≤ j ∧ j ≤ i' ∧ Ink l a i' j M := hy
   obtain ⟨y1, y2, y3, y4, y5⟩ := hy
   have hlen := y5.len (by omega) (by omega)
   have g2 : (i : Int) = (i' : Int) := g2
   have e1 : ((j : Int) - 1).toNat + 0 = j - 1 ∨ ¬ a < j := by omega
   have hd : Ins l a (i' + 1) M := y5.done (by omega) (by omega) fun ⟨k1, k2⟩ => by
    have e1 : ((j : Int) - 1).toNat + 0 = j - 1 := by omega
    rw [← cfP_lt, ← e1] at k2
    have g3 : (decide ((a : Int) < (j : Int)) && decide (cfP (M.getD j pgZ) (M.getD (((j : Int) - 1).toNat + 0) pgZ) < 0)) = false := g3
    rw [decide_eq_true (show (a : Int) < (j : Int) by omega), Bool.true_and, k2] at g3
    cases g3
   refine Stands.one (i' + 1, M) ⟨.inr ⟨by show a < i' + 1; omega, by show i' + 1 ≤ e; omega, hd⟩, by show e - (i' + 1) < e - i; omega, ?_⟩
   exact vgo
 · rename_i x hx g1
   obtain ⟨i, L⟩ := x
   have g1 : ¬ (i : Int) < (e : Int) := ov g1
   rcases hx with ⟨x1, x2, x3⟩ | ⟨x1, x2, x3⟩
   · change e ≤ a at x2
     change L = l at x3
     have eae : e = a := by omega
     subst eae x3
     refine Ends.one ([] : List Pg) ⟨by unfold seg; rw [sw, xv], Srd.nil⟩ ?_
     ((conv => arg 1; reduce); with_reducible repeat' first | exact ty | refine ta ?_ ?_ | refine ti fun _ => ?_ | refine tf fun _ => ?_ | refine tl ?_)
     all_goals first | exact vlf | (show L.take e ++ [] ++ L.drop e = _; rw [zk, zc]; rfl)
   · change i ≤ e at x2
     have eie : i = e := by omega
     subst eie
     obtain ⟨W, w1, w2, w3⟩ := x3
     change L = l.take a ++ W ++ l.drop i at w3
     subst w3
     refine Ends.one W ⟨w1, w2⟩ ?_
     exact vgo
noncomputable def fcIns : Fc Tryd.prog C0 where
 tg := .fn 91
 X := Bool × Nat × Nat × List Pg × Nat × Nat × Int × Int
 args := fun (o, b, q, l, n, c, i, j) => [.sl 0 0 n c, .int .i64 i, .int .i64 j, fnC]
 mem := fun (o, b, q, l, n, c, i, j) => [⟨b, q, 9, true, some o, .rows 70 l⟩]
 pre := fun (o, b, q, l, n, c, i, j) => n ≤ l.length ∧ n < 1000000000 ∧ (o = false → n = 0) ∧ 0 ≤ i ∧ i ≤ j ∧ j ≤ (n : Int) ∧ ∀ x ∈ seg l i.toNat j.toNat, Pin x
 alts := fun (o, b, q, l, n, c, i, j) => [⟨List Pg, fun W => W.Perm (seg l i.toNat j.toNat) ∧ Srd ltP W, fun _ => .tup [], fun W => [⟨b, q, 9, true, some o, .rows 70 (l.take i.toNat ++ W ++ l.drop j.toNat)⟩]⟩]
 mat vs m := match vs with
  | [.sl a 0 n c, .int _ i, .int _ j, .fn (.func 50) _ _] => match nth m a with
    | ⟨b, q, _, _, g, .rows 70 l⟩ => some ((onOf g, b, q, l, n, c, i, j), [a])
    | _ => none
  | _ => none
 ok := fun (o, b, q, l, n, c, i, j) ⟨h1, h2, h3, h4, h5, h6, h7⟩ => by
  have := insert_ok o b q l n c i.toNat j.toNat h1 h2 h3 (by omega) (by omega) h7
  have e1 : ((i.toNat : Nat) : Int) = i := by omega
  have e2 : ((j.toNat : Nat) : Int) = j := by omega
  rw [e1, e2] at this
  exact this
end Go.Vx
namespace Go.Vx
open Go Go.Proofs
variable [Gl]
structure SyP (o : Bool) (l : List Pg) (n a m e : Nat) : Prop where
 len : n ≤ l.length
 few : n < 1000000000
 on : o = false → n = 0
 am : a < m
 me : m < e
 en : e ≤ n
 u : Srd ltP (seg l a m)
 v : Srd ltP (seg l m e)
 pin : ∀ x ∈ seg l a e, Pin x
abbrev lp (l : List Pg) (x y : Nat) : Bool := ltP (l.getD x pgZ) (l.getD y pgZ)
def M3 (l : List Pg) (a m e : Nat) : Inv' C0 := ⟨3, Nat × Nat, fun y => [(10, .int .i64 (y.1 : Int)), (11, .int .i64 (y.2 : Int))], fun y m => m, fun y => m ≤ y.1 ∧ y.1 ≤ y.2 ∧ y.2 ≤ e ∧ (∀ k, m ≤ k → k < y.1 → lp l k a = true) ∧ (∀ k, y.2 ≤ k → k < e → lp l k a = false), fun y => y.2 - y.1⟩
def mv (l : List Pg) (a k : Nat) : List Pg := l.take a ++ seg l (a + 1) (k + 1) ++ l.getD a pgZ :: l.drop (k + 1)
def M9 (b q : Nat) (o : Bool) (l : List Pg) (a : Nat) : Inv' C0 := ⟨9, Nat × Nat, fun y => [(10, .int .i64 (y.1 : Int)), (13, .int .i64 (y.2 : Int))], fun y _ => [⟨b, q, 9, true, some o, .rows 70 (mv l a y.2)⟩], fun y => a ≤ y.2 ∧ y.2 + 1 ≤ y.1, fun y => y.1 - y.2⟩
def M15 (l : List Pg) (a m e : Nat) : Inv' C0 := ⟨15, Nat × Nat, fun y => [(14, .int .i64 (y.1 : Int)), (15, .int .i64 (y.2 : Int))], fun y m => m, fun y => a ≤ y.1 ∧ y.1 ≤ y.2 ∧ y.2 ≤ m ∧ (∀ k, a ≤ k → k < y.1 → lp l m k = false) ∧ (∀ k, y.2 ≤ k → k < m → lp l m k = true), fun y => y.2 - y.1⟩
def mu (l : List Pg) (m k : Nat) : List Pg := l.take k ++ l.getD m pgZ :: (seg l k m ++ l.drop (m + 1))
def M21 (b q : Nat) (o : Bool) (l : List Pg) (m : Nat) : Inv' C0 := ⟨21, Nat × Nat, fun y => [(14, .int .i64 (y.1 : Int)), (17, .int .i64 (y.2 : Int))], fun y _ => [⟨b, q, 9, true, some o, .rows 70 (mu l m y.2)⟩], fun y => y.1 ≤ y.2 ∧ y.2 ≤ m, fun y => y.2⟩
abbrev md (a e : Nat) : Nat := (a + e) / 2
abbrev loS (a m e : Nat) : Nat := if md a e < m then md a e + m - e else a
abbrev hiS (a m e : Nat) : Nat := if md a e < m then md a e else m
def J32 (a m e : Nat) : Inv' C0 := ⟨1000032, Unit, fun _ => [(18, .int .i64 (md a e : Nat)), (19, .int .i64 (md a e + m : Nat)), (20, .int .i64 (loS a m e : Nat)), (21, .int .i64 (hiS a m e : Nat))], fun _ m => m, fun _ => True, fun _ => 0⟩
def M33 (l : List Pg) (a m e : Nat) : Inv' C0 := ⟨33, Nat × Nat, fun y => [(18, .int .i64 (md a e : Nat)), (19, .int .i64 (md a e + m : Nat)), (22, .int .i64 (md a e + m - 1 : Nat)), (20, .int .i64 (y.1 : Int)), (21, .int .i64 (y.2 : Int))], fun y m => m, fun y => loS a m e ≤ y.1 ∧ y.1 ≤ y.2 ∧ y.2 ≤ hiS a m e ∧ (∀ k, loS a m e ≤ k → k < y.1 → lp l (md a e + m - 1 - k) k = false) ∧ (∀ k, y.2 ≤ k → k < hiS a m e → lp l (md a e + m - 1 - k) k = true), fun y => y.2 - y.1⟩
def lx (l : List Pg) (a m e s : Nat) : List Pg := l.take a ++ (seg l a s ++ seg l m (md a e + m - s)) ++ (seg l s m ++ seg l (md a e + m - s) e) ++ l.drop e
def Cut (l : List Pg) (a m e s : Nat) : Prop := a ≤ s ∧ s ≤ m ∧ s ≤ md a e ∧ md a e + m - s ≤ e ∧ ∀ x ∈ seg l a s ++ seg l m (md a e + m - s), ∀ y ∈ seg l s m ++ seg l (md a e + m - s) e, ltP y x = false
def J41 (b q : Nat) (o : Bool) (l : List Pg) (a m e : Nat) : Inv' C0 := ⟨1000041, Nat, fun s => [(20, .int .i64 (s : Int)), (24, .int .i64 (md a e + m - s : Nat))], fun s _ => [⟨b, q, 9, true, some o, .rows 70 (lx l a m e s)⟩], fun s => Cut l a m e s, fun _ => 0⟩
def J43 (b q : Nat) (o : Bool) (l : List Pg) (a m e : Nat) : Inv' C0 := ⟨1000043, Nat × List Pg, fun y => [(24, .int .i64 (md a e + m - y.1 : Nat))], fun y _ => [⟨b, q, 9, true, some o, .rows 70 (l.take a ++ y.2 ++ (seg l y.1 m ++ seg l (md a e + m - y.1) e) ++ l.drop e)⟩], fun y => Cut l a m e y.1 ∧ y.2.Perm (seg l a y.1 ++ seg l m (md a e + m - y.1)) ∧ Srd ltP y.2, fun _ => 0⟩
theorem mid_is {x y : Nat} (h : x + y < 4000000000) : ishr .u64 (IntKind.u64.wrap ((x : Int) + (y : Int))) 1 = (((x + y) / 2 : Nat) : Int) := by
 have e : IntKind.u64.wrap ((x : Int) + (y : Int)) = (x : Int) + (y : Int) := by simp [IntKind.wrap, IntKind.bits, IntKind.signed]; omega
 rw [e]
 unfold ishr
 rw [show (min (1 : Int).toNat IntKind.u64.bits) = 1 from rfl, Int.fdiv_eq_ediv_of_nonneg _ (by decide)]
 omega
theorem wk_lt {x y z : Pg} (h1 : ltP x z = true) (h2 : ltP x y = false) : ltP y z = true := by
 cases h : ltP y z with
 | true => rfl
 | false => rw [wkP.tr h h2] at h1; cases h1
theorem wk_lt2 {x y z : Pg} (h1 : ltP x y = true) (h2 : ltP z y = false) : ltP x z = true := by
 cases h : ltP x z with
 | true => rfl
 | false => rw [wkP.tr h2 h] at h1; cases h1
section
variable {l : List Pg} {a m e : Nat}
theorem srd_ix {x y : Nat} (h : Srd ltP (seg l x y)) (hy : y ≤ l.length) {i j : Nat} (h1 : x ≤ i) (h2 : i ≤ j) (h3 : j < y) : lp l j i = false := by
 have := srd_le wkP (d := pgZ) h (i := i - x) (j := j - x) (by omega) (by rw [seg_len (by omega) hy]; omega)
 rw [seg_get (by omega), seg_get (by omega), show x + (j - x) = j by omega, show x + (i - x) = i by omega] at this
 exact this
theorem pin_ix {x y k : Nat} (h : ∀ z ∈ seg l x y, Pin z) (hy : y ≤ l.length) (h1 : x ≤ k) (h2 : k < y) : Pin (l.getD k pgZ) := by
 have := getD_mem' (l := seg l x y) (i := k - x) (d := pgZ) (by rw [seg_len (by omega) hy]; omega)
 rw [seg_get (by omega), show x + (k - x) = k by omega] at this
 exact h _ this
theorem mem_seg {x y : Nat} (hxy : x ≤ y) (hy : y ≤ l.length) {z : Pg} (h : z ∈ seg l x y) : ∃ k, x ≤ k ∧ k < y ∧ l.getD k pgZ = z := by
 obtain ⟨i, hi, rfl⟩ := List.mem_iff_getElem.1 h
 have hl := seg_len (l := l) hxy hy
 refine ⟨x + i, by omega, by omega, ?_⟩
 rw [← seg_get (l := l) (j := y) (by omega)]
 rw [zz, zv hi, zb]
theorem mv_a (h : a < l.length) : mv l a a = l := by
 unfold mv
 rw [show seg l (a + 1) (a + 1) = [] by unfold seg; rw [sw, xv], zk, ← drop_cons' h, zc]
theorem mv_len {k : Nat} (h : a ≤ k) (hk : k < l.length) : (mv l a k).length = l.length := by
 unfold mv
 simp only [zw, xz, zp, zj, seg_len (l := l) (show a + 1 ≤ k + 1 by omega) (by omega)]
 omega
theorem mv_step {k : Nat} (h : a ≤ k) (hk : k + 1 < l.length) : swp pgZ (mv l a k) k (k + 1) = mv l a (k + 1) := by
 unfold mv
 have hp : (l.take a ++ seg l (a + 1) (k + 1)).length = k := by
  rw [zw, zp, seg_len (by omega) (by omega)]; omega
 have := swp_mid (A := l.take a ++ seg l (a + 1) (k + 1)) (B := []) (C := l.drop (k + 1 + 1)) (x := l.getD a pgZ) (y := l.getD (k + 1) pgZ) (d := pgZ) (i := k) (j := k + 1) hp.symm (by rw [hp]; rfl)
 rw [show l.take a ++ seg l (a + 1) (k + 1) ++ l.getD a pgZ :: l.drop (k + 1) = l.take a ++ seg l (a + 1) (k + 1) ++ l.getD a pgZ :: ([] ++ l.getD (k + 1) pgZ :: l.drop (k + 1 + 1)) by rw [drop_cons' (d := pgZ) hk]; rfl, this]
 rw [seg_snoc (d := pgZ) (a := a + 1) (i := k + 1) (by omega) hk]
 simp
theorem mv_done {i : Nat} (hm : m = a + 1) (h1 : m ≤ i) (h2 : i ≤ e) (h3 : m < e) (he : e ≤ l.length) (hV : Srd ltP (seg l m e)) (hA : ∀ k, m ≤ k → k < i → lp l k a = true) (hB : ∀ k, i ≤ k → k < e → lp l k a = false) :
 ∃ W, mv l a (i - 1) = l.take a ++ W ++ l.drop e ∧ W.Perm (seg l a e) ∧ Srd ltP W := by
 subst hm
 refine ⟨seg l (a + 1) i ++ l.getD a pgZ :: seg l i e, ?_, ?_, ?_⟩
 · unfold mv
   rw [show i - 1 + 1 = i by omega]
   have e1 : l.drop i = seg l i e ++ l.drop e := by
    unfold seg
    have := (zc (e - i) (l.drop i)).symm
    rw [wz, show i + (e - i) = e by omega] at this
    exact this
   rw [e1]; simp
 · rw [seg_two (l := l) (i := a) (j := a + 1) (k := e) (by omega) (by omega), seg_one (d := pgZ) (by omega), seg_two (l := l) (i := a + 1) (j := i) (k := e) (by omega) (by omega)]
   exact (List.perm_middle).trans (List.Perm.refl _)
 · rw [seg_two (l := l) (i := a + 1) (j := i) (k := e) (by omega) (by omega)] at hV
   refine srd_ins2 hV (fun x hx => ?_) (fun x hx => ?_)
   · obtain ⟨k, k1, k2, rfl⟩ := mem_seg (by omega) (by omega) hx
     exact wkP.asy (hA k k1 k2)
   · obtain ⟨k, k1, k2, rfl⟩ := mem_seg (by omega) (by omega) hx
     exact hB k k1 k2
theorem mu_m (h : m < l.length) : mu l m m = l := by
 unfold mu
 rw [show seg l m m = [] by unfold seg; rw [sw, xv], xl, ← drop_cons' h, zc]
theorem mu_len {k : Nat} (h : k ≤ m) (hk : m < l.length) : (mu l m k).length = l.length := by
 unfold mu
 simp only [zw, xz, zp, zj, seg_len (l := l) h (by omega)]
 omega
theorem mu_step {k : Nat} (h : k ≤ m) (h0 : 0 < k) (hk : m < l.length) : swp pgZ (mu l m k) k (k - 1) = mu l m (k - 1) := by
 unfold mu
 have hp : (l.take (k - 1)).length = k - 1 := by rw [zp]; omega
 have e1 : l.take k = l.take (k - 1) ++ [l.getD (k - 1) pgZ] := by
  have := take_snoc' (A := l) (i := k - 1) (d := pgZ) (by omega)
  rwa [show k - 1 + 1 = k by omega] at this
 have e2 : seg l (k - 1) m = l.getD (k - 1) pgZ :: seg l k m := by
  rw [seg_two (l := l) (i := k - 1) (j := k) (k := m) (by omega) h]
  have := seg_one (l := l) (i := k - 1) (d := pgZ) (by omega)
  rw [show k - 1 + 1 = k by omega] at this
  rw [this]; rfl
 have := swp_mid' (A := l.take (k - 1)) (B := []) (C := seg l k m ++ l.drop (m + 1)) (x := l.getD (k - 1) pgZ) (y := l.getD m pgZ) (d := pgZ) (i := k - 1) (j := k) hp.symm (by rw [hp]; simp; omega)
 rw [e1, e2, show l.take (k - 1) ++ [l.getD (k - 1) pgZ] ++ l.getD m pgZ :: (seg l k m ++ l.drop (m + 1)) = l.take (k - 1) ++ l.getD (k - 1) pgZ :: ([] ++ l.getD m pgZ :: (seg l k m ++ l.drop (m + 1))) by simp, this]
 simp
theorem mu_done {i : Nat} (hm : e = m + 1) (h1 : a ≤ i) (h2 : i ≤ m) (he : e ≤ l.length) (hU : Srd ltP (seg l a m)) (hA : ∀ k, a ≤ k → k < i → lp l m k = false) (hB : ∀ k, i ≤ k → k < m → lp l m k = true) :
 ∃ W, mu l m i = l.take a ++ W ++ l.drop e ∧ W.Perm (seg l a e) ∧ Srd ltP W := by
 subst hm
 refine ⟨seg l a i ++ l.getD m pgZ :: seg l i m, ?_, ?_, ?_⟩
 · unfold mu
   have e1 : l.take i = l.take a ++ seg l a i := by
    unfold seg
    have := vo (l := l) (i := a) (j := i - a)
    rwa [show a + (i - a) = i by omega] at this
   rw [e1]; simp
 · rw [seg_snoc (d := pgZ) (by omega) (by omega), seg_two (l := l) (i := a) (j := i) (k := m) h1 h2, zm]
   exact (List.Perm.refl _).append (List.perm_append_singleton _ _).symm
 · rw [seg_two (l := l) (i := a) (j := i) (k := m) h1 h2] at hU
   refine srd_ins2 hU (fun x hx => ?_) (fun x hx => ?_)
   · obtain ⟨k, k1, k2, rfl⟩ := mem_seg h1 (by omega) hx
     exact hA k k1 k2
   · obtain ⟨k, k1, k2, rfl⟩ := mem_seg h2 (by omega) hx
     exact wkP.asy (hB k k1 k2)
end
end Go.Vx
namespace Go.Vx
open Go Go.Proofs
variable [Gl]
section
variable {o : Bool} {l : List Pg} {n a m e s : Nat}
theorem nb_t {b : Bool} (h : (!b) = true) : b = false := by simpa using h
theorem nb_f {b : Bool} (h : (!b) = false) : b = true := by simpa using h
theorem lohi (h1 : a < m) (h2 : m < e) : a ≤ loS a m e ∧ loS a m e ≤ hiS a m e ∧ hiS a m e ≤ m ∧ hiS a m e ≤ md a e ∧ md a e + m - loS a m e ≤ e ∧ a < md a e ∧ md a e < e ∧ (loS a m e = a ∨ md a e + m - loS a m e = e) ∧ (hiS a m e = m ∨ hiS a m e = md a e) := by
 show a ≤ (if (a + e) / 2 < m then (a + e) / 2 + m - e else a) ∧ (if (a + e) / 2 < m then (a + e) / 2 + m - e else a) ≤ (if (a + e) / 2 < m then (a + e) / 2 else m) ∧ (if (a + e) / 2 < m then (a + e) / 2 else m) ≤ m ∧ (if (a + e) / 2 < m then (a + e) / 2 else m) ≤ (a + e) / 2 ∧ (a + e) / 2 + m - (if (a + e) / 2 < m then (a + e) / 2 + m - e else a) ≤ e ∧ a < (a + e) / 2 ∧ (a + e) / 2 < e ∧ ((if (a + e) / 2 < m then (a + e) / 2 + m - e else a) = a ∨ (a + e) / 2 + m - (if (a + e) / 2 < m then (a + e) / 2 + m - e else a) = e) ∧ ((if (a + e) / 2 < m then (a + e) / 2 else m) = m ∨ (if (a + e) / 2 < m then (a + e) / 2 else m) = (a + e) / 2)
 by_cases h : (a + e) / 2 < m
 · simp only [if_pos h]
   refine ⟨by omega, by omega, by omega, by omega, by omega, by omega, by omega, .inr (by omega), .inr trivial⟩
 · simp only [if_neg h]
   refine ⟨by omega, by omega, by omega, by omega, by omega, by omega, by omega, .inl trivial, .inl trivial⟩
theorem s33t (H : SyP o l n a m e) {c : Nat} (hc1 : loS a m e ≤ c) (hc2 : c < hiS a m e) (h : lp l (md a e + m - 1 - c) c = false) : ∀ k, loS a m e ≤ k → k < c + 1 → lp l (md a e + m - 1 - k) k = false := by
 obtain ⟨f1, f2, f3, f4, f5, f6, f7, f8, f9⟩ := lohi H.am H.me
 have hl := H.len
 have he := H.en
 intro k k1 k2
 have g1 : lp l c k = false := srd_ix H.u (by have := H.me; omega) (i := k) (j := c) (by omega) (by omega) (by omega)
 have g2 : lp l (md a e + m - 1 - k) (md a e + m - 1 - c) = false := srd_ix H.v (by omega) (by omega) (by omega) (by omega)
 exact wkP.tr g1 (wkP.tr h g2)
theorem s33f (H : SyP o l n a m e) {c : Nat} (hc1 : loS a m e ≤ c) (hc2 : c < hiS a m e) (h : lp l (md a e + m - 1 - c) c = true) : ∀ k, c ≤ k → k < hiS a m e → lp l (md a e + m - 1 - k) k = true := by
 obtain ⟨f1, f2, f3, f4, f5, f6, f7, f8, f9⟩ := lohi H.am H.me
 have hl := H.len
 have he := H.en
 intro k k1 k2
 have g1 : lp l k c = false := srd_ix H.u (by have := H.me; omega) (i := c) (j := k) (by omega) (by omega) (by omega)
 have g2 : lp l (md a e + m - 1 - c) (md a e + m - 1 - k) = false := srd_ix H.v (by omega) (by omega) (by omega) (by omega)
 exact wk_lt2 (wk_lt h g2) g1
theorem seg_tk {x y z : Nat} (h1 : x ≤ y) (h2 : y ≤ z) : (seg l x z).take (y - x) = seg l x y := by
 unfold seg; rw [vm]; congr 1; omega
theorem seg_dp {x y z : Nat} (h1 : x ≤ y) (h2 : y ≤ z) : (seg l x z).drop (y - x) = seg l y z := by
 unfold seg; rw [uh, wz]; congr 1
 · omega
 · congr 1; omega
theorem cut_of (H : SyP o l n a m e) (h1 : loS a m e ≤ s) (h2 : s ≤ hiS a m e) (hA : ∀ k, loS a m e ≤ k → k < s → lp l (md a e + m - 1 - k) k = false) (hB : ∀ k, s ≤ k → k < hiS a m e → lp l (md a e + m - 1 - k) k = true) : Cut l a m e s := by
 obtain ⟨f1, f2, f3, f4, f5, f6, f7, f8, f9⟩ := lohi H.am H.me
 have hl := H.len
 have he := H.en
 have h12 := H.am
 have h23 := H.me
 refine ⟨by omega, by omega, by omega, by omega, ?_⟩
 have := sym_cross wkP (d := pgZ) H.u H.v (s := s - a) (e := md a e + m - s - m) (by rw [seg_len (by omega) (by omega)]; omega) (by rw [seg_len (by omega) (by omega)]; omega) ?_ ?_
 · rw [seg_tk (by omega) (by omega), seg_tk (by omega) (by omega), seg_dp (by omega) (by omega), seg_dp (by omega) (by omega)] at this
   exact this
 · by_cases hs : s = loS a m e
   · rcases f8 with h | h
     · exact .inl (by omega)
     · exact .inr (.inl (by rw [seg_len (by omega) (by omega)]; omega))
   · by_cases hv : md a e + m - s = e
     · exact .inr (.inl (by rw [seg_len (by omega) (by omega)]; omega))
     · refine .inr (.inr ?_)
       rw [seg_get (by omega), seg_get (by omega)]
       have := hA (s - 1) (by omega) (by omega)
       rw [show m + (md a e + m - s - m) = md a e + m - 1 - (s - 1) by omega, show a + (s - a - 1) = s - 1 by omega]
       exact this
 · by_cases hs : s = hiS a m e
   · rcases f9 with h | h
     · exact .inl (by rw [seg_len (by omega) (by omega)]; omega)
     · exact .inr (.inl (by omega))
   · refine .inr (.inr ?_)
     rw [seg_get (by omega), seg_get (by omega)]
     have := hB s (zy _) (by omega)
     rw [show m + (md a e + m - s - m - 1) = md a e + m - 1 - s by omega, show a + (s - a) = s by omega]
     exact this
theorem drop_seg {x y : Nat} (h : x ≤ y) : l.drop x = seg l x y ++ l.drop y := by
 unfold seg
 have := (zc (y - x) (l.drop x)).symm
 rw [wz, show x + (y - x) = y by omega] at this
 exact this
theorem take_seg {x y : Nat} (h : x ≤ y) : l.take y = l.take x ++ seg l x y := by
 unfold seg
 have := vo (l := l) (i := x) (j := y - x)
 rwa [show x + (y - x) = y by omega] at this
theorem lx_rot (h : Cut l a m e s) : l.take s ++ (seg l m (md a e + m - s) ++ seg l s m) ++ l.drop (md a e + m - s) = lx l a m e s := by
 obtain ⟨h1, h2, h3, h4, _⟩ := h
 unfold lx
 rw [take_seg h1, drop_seg h4]
 simp
theorem seg_nil {x : Nat} : seg l x x = [] := by unfold seg; rw [sw, xv]
theorem lx_id (h : Cut l a m e s) (hne : ¬ (s < m ∧ m < md a e + m - s)) : lx l a m e s = l := by
 obtain ⟨h1, h2, h3, h4, _⟩ := h
 rw [← lx_rot ⟨h1, h2, h3, h4, by assumption⟩]
 by_cases hs : s = m
 · subst hs
   rw [seg_nil, zk, ← take_seg (by omega), zc]
 · have e1 : md a e + m - s = m := by omega
   rw [e1, seg_nil, xl, ← take_seg h2, zc]
structure Two (o : Bool) (l : List Pg) (n a m e s : Nat) (W : List Pg) : Prop where
 hW : W.Perm (seg l a s ++ seg l m (md a e + m - s))
 len : (l.take a ++ W ++ (seg l s m ++ seg l (md a e + m - s) e) ++ l.drop e).length = l.length
 ta : (l.take a ++ W ++ (seg l s m ++ seg l (md a e + m - s) e) ++ l.drop e).take a = l.take a
 s1 : seg (l.take a ++ W ++ (seg l s m ++ seg l (md a e + m - s) e) ++ l.drop e) a (md a e) = W
 tm : (l.take a ++ W ++ (seg l s m ++ seg l (md a e + m - s) e) ++ l.drop e).take (md a e) = l.take a ++ W
 dm : (l.take a ++ W ++ (seg l s m ++ seg l (md a e + m - s) e) ++ l.drop e).drop (md a e) = (seg l s m ++ seg l (md a e + m - s) e) ++ l.drop e
 s2 : seg (l.take a ++ W ++ (seg l s m ++ seg l (md a e + m - s) e) ++ l.drop e) (md a e) (md a e + m - s) = seg l s m
 s3 : seg (l.take a ++ W ++ (seg l s m ++ seg l (md a e + m - s) e) ++ l.drop e) (md a e + m - s) e = seg l (md a e + m - s) e
 s4 : seg (l.take a ++ W ++ (seg l s m ++ seg l (md a e + m - s) e) ++ l.drop e) (md a e) e = seg l s m ++ seg l (md a e + m - s) e
 de : (l.take a ++ W ++ (seg l s m ++ seg l (md a e + m - s) e) ++ l.drop e).drop e = l.drop e
theorem two_of (H : SyP o l n a m e) (hC : Cut l a m e s) {W : List Pg} (hW : W.Perm (seg l a s ++ seg l m (md a e + m - s))) : Two o l n a m e s W := by
 obtain ⟨h1, h2, h3, h4, _⟩ := hC
 obtain ⟨f1, f2, f3, f4, f5, f6, f7, f8, f9⟩ := lohi H.am H.me
 have hl := H.len
 have he := H.en
 have la : (l.take a).length = a := by rw [zp]; have := H.am; have := H.me; omega
 have lW : W.length = md a e - a := by rw [hW.length_eq, zw, seg_len h1 (by have := H.me; omega), seg_len (by omega) (by omega)]; omega
 have lw : (l.take a ++ W).length = md a e := by rw [zw, la, lW]; omega
 have l2 : (seg l s m).length = m - s := seg_len h2 (by have := H.me; omega)
 have l3 : (seg l (md a e + m - s) e).length = e - (md a e + m - s) := seg_len h4 (by omega)
 have lx : (l.take a ++ W ++ (seg l s m ++ seg l (md a e + m - s) e)).length = e := by rw [zw, lw, zw, l2, l3]; omega
 refine ⟨hW, ?_, ?_, ?_, ?_, ?_, ?_, ?_, ?_, ?_⟩
 · rw [zw, lx, zj]; omega
 · rw [zm, zm, yh (by omega), zu (by omega)]
 · rw [zm]; exact seg_mid la (by omega)
 · rw [zm, yh (by omega), zu (by omega)]
 · rw [zm, xe (by omega), wd (by omega), xl]
 · rw [show l.take a ++ W ++ (seg l s m ++ seg l (md a e + m - s) e) ++ l.drop e = (l.take a ++ W) ++ seg l s m ++ (seg l (md a e + m - s) e ++ l.drop e) by simp]
   exact seg_mid lw (by omega)
 · rw [show l.take a ++ W ++ (seg l s m ++ seg l (md a e + m - s) e) ++ l.drop e = ((l.take a ++ W) ++ seg l s m) ++ seg l (md a e + m - s) e ++ l.drop e by simp]
   exact seg_mid (by rw [zw, lw, l2]; omega) (by omega)
 · exact seg_mid lw (by rw [zw, l2, l3]; omega)
 · rw [xe (by omega), wd (by omega), xl]
theorem pin_seg (H : SyP o l n a m e) {x y : Nat} (h1 : a ≤ x) (h2 : x ≤ y) (h3 : y ≤ e) : ∀ z ∈ seg l x y, Pin z := by
 intro z hz
 obtain ⟨k, k1, k2, rfl⟩ := mem_seg h2 (by have := H.len; have := H.en; omega) hz
 exact pin_ix H.pin (by have := H.len; have := H.en; omega) (by omega) (by omega)
theorem srd_sub1 (H : SyP o l n a m e) (h1 : a ≤ s) (h2 : s ≤ m) : Srd ltP (seg l a s) ∧ Srd ltP (seg l s m) := by
 have := H.u
 rw [seg_two h1 h2] at this
 exact ⟨(srd_app.1 this).1, (srd_app.1 this).2.1⟩
theorem srd_sub2 (H : SyP o l n a m e) {t : Nat} (h1 : m ≤ t) (h2 : t ≤ e) : Srd ltP (seg l m t) ∧ Srd ltP (seg l t e) := by
 have := H.v
 rw [seg_two h1 h2] at this
 exact ⟨(srd_app.1 this).1, (srd_app.1 this).2.1⟩
theorem first_half (H : SyP o l n a m e) (hC : Cut l a m e s) (h1 : a < s) (h2 : s < md a e) : SyP o (lx l a m e s) n a s (md a e) := by
 have T := two_of H hC (List.Perm.refl _)
 have hC' := hC
 obtain ⟨c1, c2, c3, c4, _⟩ := hC
 obtain ⟨f1, f2, f3, f4, f5, f6, f7, f8, f9⟩ := lohi H.am H.me
 have hl := H.len
 have he := H.en
 have la : (l.take a).length = a := by rw [zp]; omega
 have l1 : (seg l a s).length = s - a := seg_len c1 (by have := H.me; omega)
 have l2 : (seg l m (md a e + m - s)).length = md a e - s := by rw [seg_len (by omega) (by omega)]; omega
 have e1 : seg (lx l a m e s) a s = seg l a s := by
  unfold lx
  rw [show l.take a ++ (seg l a s ++ seg l m (md a e + m - s)) ++ (seg l s m ++ seg l (md a e + m - s) e) ++ l.drop e = l.take a ++ seg l a s ++ (seg l m (md a e + m - s) ++ (seg l s m ++ seg l (md a e + m - s) e) ++ l.drop e) by simp]
  exact seg_mid la (by omega)
 have e2 : seg (lx l a m e s) s (md a e) = seg l m (md a e + m - s) := by
  unfold lx
  rw [show l.take a ++ (seg l a s ++ seg l m (md a e + m - s)) ++ (seg l s m ++ seg l (md a e + m - s) e) ++ l.drop e = (l.take a ++ seg l a s) ++ seg l m (md a e + m - s) ++ ((seg l s m ++ seg l (md a e + m - s) e) ++ l.drop e) by simp]
  exact seg_mid (by rw [zw]; omega) (by omega)
 refine ⟨by have := T.len; unfold lx; omega, H.few, H.on, h1, h2, by omega, by rw [e1]; exact (srd_sub1 H c1 c2).1, by rw [e2]; exact (srd_sub2 H (by omega) c4).1, fun z hz => ?_⟩
 rw [seg_two (l := lx l a m e s) (i := a) (j := s) (k := md a e) (by omega) (by omega), e1, e2] at hz
 rcases List.mem_append.1 hz with h | h
 · exact pin_seg H (zy _) c1 (by omega) z h
 · exact pin_seg H (by have := H.am; omega) (by omega) c4 z h
theorem second_half (H : SyP o l n a m e) (hC : Cut l a m e s) {W : List Pg} (hW : W.Perm (seg l a s ++ seg l m (md a e + m - s))) (h1 : md a e < md a e + m - s) (h2 : md a e + m - s < e) :
 SyP o (l.take a ++ W ++ (seg l s m ++ seg l (md a e + m - s) e) ++ l.drop e) n (md a e) (md a e + m - s) e := by
 have T := two_of H hC hW
 obtain ⟨c1, c2, c3, c4, _⟩ := hC
 obtain ⟨f1, f2, f3, f4, f5, f6, f7, f8, f9⟩ := lohi H.am H.me
 refine ⟨by rw [T.len]; exact H.len, H.few, H.on, h1, h2, H.en, by rw [T.s2]; exact (srd_sub1 H c1 c2).2, by rw [T.s3]; exact (srd_sub2 H (by omega) c4).2, fun z hz => ?_⟩
 rw [T.s4] at hz
 rcases List.mem_append.1 hz with h | h
 · exact pin_seg H c1 c2 (by have := H.me; omega) z h
 · exact pin_seg H (by omega) c4 (zy _) z h
theorem half_done (H : SyP o l n a m e) (hC : Cut l a m e s) (hne : ¬ (a < s ∧ s < md a e)) : Srd ltP (seg l a s ++ seg l m (md a e + m - s)) := by
 obtain ⟨c1, c2, c3, c4, _⟩ := hC
 by_cases hs : s = a
 · subst hs; rw [seg_nil, xl]; exact (srd_sub2 H (by omega) c4).1
 · have e1 : md a e + m - s = m := by omega
   rw [e1, seg_nil, zk]; exact (srd_sub1 H c1 c2).1
theorem half_done2 (H : SyP o l n a m e) (hC : Cut l a m e s) (hne : ¬ (md a e < md a e + m - s ∧ md a e + m - s < e)) : Srd ltP (seg l s m ++ seg l (md a e + m - s) e) := by
 obtain ⟨c1, c2, c3, c4, _⟩ := hC
 by_cases hs : s = m
 · subst hs; rw [seg_nil, xl]; exact (srd_sub2 H (by omega) c4).2
 · have e1 : md a e + m - s = e := by omega
   rw [e1, seg_nil, zk]; exact (srd_sub1 H c1 c2).2
theorem sym_end (H : SyP o l n a m e) (hC : Cut l a m e s) {W V : List Pg} (hW : W.Perm (seg l a s ++ seg l m (md a e + m - s))) (hV : V.Perm (seg l s m ++ seg l (md a e + m - s) e)) (h1 : Srd ltP W) (h2 : Srd ltP V) :
 (W ++ V).Perm (seg l a e) ∧ Srd ltP (W ++ V) := by
 obtain ⟨c1, c2, c3, c4, c5⟩ := hC
 refine ⟨?_, srd_app.2 ⟨h1, h2, fun x hx y hy => c5 x (hW.mem_iff.1 hx) y (hV.mem_iff.1 hy)⟩⟩
 rw [seg_two (l := l) (i := a) (j := m) (k := e) (by have := H.am; omega) (by have := H.me; omega), seg_two c1 c2, seg_two (l := l) (i := m) (j := md a e + m - s) (k := e) (by omega) c4]
 refine (hW.append hV).trans ?_
 generalize seg l a s = A
 generalize seg l m (md a e + m - s) = B
 generalize seg l s m = C
 generalize seg l (md a e + m - s) e = D
 rw [zm, zm]
 refine (List.Perm.refl A).append ?_
 rw [← zm, ← zm]
 exact (List.perm_append_comm).append (List.Perm.refl D)
end
end Go.Vx
